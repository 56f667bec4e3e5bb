/- The abstract machine, part E: literals, make, append. -/
import Derived.Test.YtppmamcoehhopaaDoorAxD
import Derived.Great.BuildSlice
import Derived.Laws.Tables
set_option linter.unusedVariables false
set_option linter.unusedSimpArgs false
namespace Go.Proofs.YtppmamcoehhopaaDoor.Ax
open Go Go.RowKit
variable {P : Program}

def RelL (k : KW) (c : List AV) (us : List Value) : Prop := us.length = c.length ∧ ∀ (j : Nat) (z : AV) (u : Value), c[j]? = some z → us[j]? = some u → Rel k z u
theorem RelL.set {k : KW} {c : List AV} {us : List Value} (h : RelL k c us) (n : Nat) {z : AV} {u : Value} (hz : Rel k z u) : RelL k (c.set n z) (us.set n u) := by
  refine ⟨by simp [h.1], fun j y x hy hx => ?_⟩
  rw [List.getElem?_set] at hy hx
  by_cases e : n = j
  · rw [if_pos e] at hy hx
    by_cases l : n < c.length
    · rw [if_pos l] at hy
      rw [if_pos (by rw [h.1]; exact l)] at hx
      injection hy with hy
      injection hx with hx
      subst hy hx
      exact hz
    · rw [if_neg l] at hy
      cases hy
  · rw [if_neg e] at hy hx
    exact h.2 j y x hy hx
def splV (us : List Value) : Nat → List Value → List Value
  | _, [] => us
  | n, v :: vs => splV (us.set n v) (n + 1) vs
theorem RelL.spl {k : KW} (vs : List Value) : ∀ {c : List AV} {us : List Value} (zs : List AV) (n : Nat), RelL k c us → RelL k zs vs → RelL k (spl c n zs) (splV us n vs) := by
  induction vs with
  | nil =>
    intro c us zs n h hz
    have : zs = [] := List.eq_nil_of_length_eq_zero (by simpa using hz.1.symm)
    subst this
    exact h
  | cons v vs ih =>
    intro c us zs n h hz
    cases zs with
    | nil => cases hz.1
    | cons z zs => exact ih zs (n + 1) (h.set n (hz.2 0 z v rfl rfl)) ⟨by have := hz.1; simpa using this, fun j y x hy hx => hz.2 (j + 1) y x hy hx⟩
theorem foldl_splV (off : Nat) (vs : List Value) : ∀ (n : Nat) (cs : List Value), ((vs.zipIdx n).foldl (fun (cs : Array Value) (x : Value × Nat) => cs.setIfInBounds (off + x.2) x.1) cs.toArray) = (splV cs (off + n) vs).toArray := by
  induction vs with
  | nil => intro n cs; rfl
  | cons v vs ih =>
    intro n cs
    rw [List.zipIdx_cons, List.foldl_cons]
    have : (cs.toArray.setIfInBounds (off + n) v) = (cs.set (off + n) v).toArray := by simp
    show List.foldl _ (cs.toArray.setIfInBounds (off + n) v) _ = _
    rw [this, ih (n + 1)]
    rfl
/-- The parts of a literal, put in their places. -/
def fillA (place : Nat → Option (Nat × Nat)) (c : List AV) : List (Nat × AV) → Option (List AV)
  | [] => some c
  | (i, x) :: rest => match place i with
    | none => none
    | some (off, size) => if x.cells.length = size ∧ off + size ≤ c.length ∧ x.boxable = true then fillA place (spl c off x.cells) rest else none
theorem fill_gives {k : KW} (place : Nat → Option (Nat × Nat)) (ps : List (Nat × Value)) : ∀ {c c' : List AV} {us : List Value} (qs : List (Nat × AV)), RelL k c us → ps.length = qs.length →
    (∀ (j : Nat) (p : Nat × Value) (q : Nat × AV), ps[j]? = some p → qs[j]? = some q → p.1 = q.1 ∧ Rel k q.2 p.2) → fillA place c qs = some c' → ∃ us', Instr.fill place us.toArray ps = some us'.toArray ∧ RelL k c' us' := by
  induction ps with
  | nil =>
    intro c c' us qs h hl hr hf
    have : qs = [] := List.eq_nil_of_length_eq_zero (by simpa using hl.symm)
    subst this
    injection hf with hf
    subst hf
    exact ⟨us, rfl, h⟩
  | cons p ps ih =>
    intro c c' us qs h hl hr hf
    cases qs with
    | nil => cases hl
    | cons q qs =>
      obtain ⟨i, x⟩ := q
      obtain ⟨i', v⟩ := p
      obtain ⟨e, hv⟩ := hr 0 _ _ rfl rfl
      simp only at e hv
      subst e
      unfold fillA at hf
      cases hp : place i' with
      | none => rw [hp] at hf; cases hf
      | some os =>
        obtain ⟨off, size⟩ := os
        rw [hp] at hf
        simp only at hf
        split at hf
        · rename_i hh
          obtain ⟨h1, h2, h3⟩ := hh
          obtain ⟨vs, e1, e2, e3⟩ := hv.cells h3
          obtain ⟨us', g1, g2⟩ := ih (c := spl c off x.cells) (us := splV us off vs) qs (RelL.spl vs x.cells off h ⟨e2, e3⟩) (by simpa using hl) (fun j p q hp hq => hr (j + 1) p q hp hq) hf
          refine ⟨us', ?_, g2⟩
          unfold Instr.fill
          rw [hp]
          simp only [e1]
          have s1 : vs.toArray.size = size := by simp; omega
          have s2 : ¬ (off + size > us.toArray.size) := by simp [h.1]; omega
          have s3 : ((vs.toArray.zipIdx.foldl (fun (cs : Array Value) (x : Value × Nat) => cs.setIfInBounds (off + x.2) x.1) us.toArray)) = (splV us off vs).toArray := by
            have hf0 := foldl_splV off vs 0 us
            rw [Nat.add_zero] at hf0
            rw [← hf0, ← Array.foldl_toList]
            congr 1
            simp
          simp only [s1, ne_eq, not_true_eq_false, decide_false, Bool.false_or, s2, Bool.false_eq_true, if_false]
          rw [← g1]
          congr 1
        · cases hf
def zrow (zero : List Value) (n : Nat) : List AV := (List.range n).map fun i => .v (zero.toArray[i % zero.length]!)
theorem zrow_one (x : Value) (n : Nat) : zrow [x] n = List.replicate n (.v x) := by
  apply List.ext_getElem
  · simp [zrow]
  · intro i h1 h2
    simp [zrow, Nat.mod_one]
theorem zrow_rel {k : KW} (zero : List Value) (n : Nat) : RelL k (zrow zero n) ((List.range n).map fun i => zero.toArray[i % zero.length]!) := by
  refine ⟨by simp [zrow], fun j z u hz hu => ?_⟩
  unfold zrow at hz
  rw [List.getElem?_map] at hz hu
  cases hj : (List.range n)[j]? with
  | none => rw [hj] at hz; cases hz
  | some i =>
    rw [hj] at hz hu
    injection hz with hz
    injection hu with hu
    subst hz hu
    exact .v _
theorem zrow_cells (z : Value) (zero : List Value) (n : Nat) (h : z.cells.toList = zero) : (Array.range n).map (fun i => z.cells[i % z.cells.size]!) = ((List.range n).map fun i => zero.toArray[i % zero.length]!).toArray := by
  subst h
  apply Array.ext'
  simp

theorem Sim.push_own {w0 w : World} {k : KW} {s : St} (hs : Sim w0 k w s) (us : List Value) (t : TypeId) (c : List AV) (hr : RelL k c us) (n sz : Nat) (hn : n * sz ≤ us.length) :
    Sim w0 (k.push ⟨w.heap.size, 0, us.length⟩) (w.alloc (.cells us.toArray t)) (s.push c) ∧ Rel (k.push ⟨w.heap.size, 0, us.length⟩) (.own s.nx 0 n sz) (.slice (some ⟨w.heap.size, 0, none⟩) n n) := by
  refine ⟨hs.push us t c (by rw [hr.1]; exact Nat.le_refl _) hr.2, ?_⟩
  have := Rel.own (k := k.push ⟨w.heap.size, 0, us.length⟩) k.m 0 n sz n (Nat.lt_succ_self _) (Nat.le_refl _) (by rw [KW.push_same]; simpa using hn)
  rw [KW.push_same] at this
  rw [← hs.m]
  exact this

/-- A slice's literal. -/
def xbuildSlice (P : Program) (s : St) (t : TypeId) (len : Nat) (qs : List (Nat × AV)) : Option (AV × St) :=
  match tiOf P t with
  | some ti => match ti.k with
    | .sl e => match tiOf P e with
      | some ei => if len * ei.size ≤ 16777216 then match fillA (fun i => some (i * ei.size, ei.size)) (zrow ei.zero (len * ei.size)) qs with
          | some c => some (.own s.nx 0 len ei.size, s.push c)
          | none => none
        else none
      | none => none
    | _ => none
  | none => none
theorem buildSlice_gives {w0 w : World} {k : KW} {s s' : St} (hs : Sim w0 k w s) {t : TypeId} {len : Nat} {qs : List (Nat × AV)} {ps : Array (Nat × Value)} {z : AV} (hl : ps.size = qs.length)
    (hr : ∀ (j : Nat) (p : Nat × Value) (q : Nat × AV), ps[j]? = some p → qs[j]? = some q → p.1 = q.1 ∧ Rel k q.2 p.2) (h : xbuildSlice P s t len qs = some (z, s')) :
    GivesV P w0 k (Instr.buildSlice t len ps) w z s' := by
  unfold xbuildSlice at h
  split at h
  · rename_i ti ht
    split at h
    · rename_i e hk
      split at h
      · rename_i ei hei
        split at h
        · rename_i hsz
          split at h
          · rename_i c hc
            injection h with h
            injection h with h1 h2
            subst h1 h2
            obtain ⟨d, i, zv, hd, hi, hz, hs2, hb, hcz, hk2⟩ := ti_info hei
            obtain ⟨us', g1, g2⟩ := fill_gives (k := k) (fun i => some (i * ei.size, ei.size)) ps.toList qs (zrow_rel ei.zero (len * ei.size)) (by simpa using hl) (fun j p q hp hq => hr j p q (by simpa using hp) hq) hc
            have hlen : us'.length = len * ei.size := by
              have fl : ∀ (qs : List (Nat × AV)) (c c' : List AV), fillA (fun i => some (i * ei.size, ei.size)) c qs = some c' → c'.length = c.length := by
                intro qs
                induction qs with
                | nil => intro c c' h; injection h with h; rw [h]
                | cons q qs ih =>
                  intro c c' h
                  unfold fillA at h
                  simp only at h
                  split at h
                  · rw [ih _ _ h, spl_length]
                  · cases h
              rw [g2.1, fl _ _ _ hc]
              simp [zrow]
            obtain ⟨p1, p2⟩ := hs.push_own us' e c g2 len ei.size (by omega)
            refine ⟨.slice (some ⟨w.heap.size, 0, none⟩) len len, _, _, ?_, p2, p1, k.push_le _⟩
            by_cases h0 : len * ei.size = 0
            · have hu0 : us' = [] := List.eq_nil_of_length_eq_zero (by omega)
              subst hu0
              rw [h0] at g1
              simp only [List.range_zero, List.map_nil] at g1
              simp only [Instr.buildSlice, Sem.run_bind, run_underlying (under_sl ht hk), Result.andThen_ok, run_sizeOf hei, h0]
              simp [Sem.run_bind, Array.range_zero', g1, newRow]
            · refine run_buildSlice (P := P) w t e len ps us'.toArray i zv (under_sl ht hk) hi hz (by rw [hs2]; omega) (by rw [hs2]; exact h0) ?_
              rw [hs2, zrow_cells zv ei.zero _ hcz]
              exact g1
          · cases h
        · cases h
      · cases h
    · cases h
  · cases h

/-- make. -/
def xmake (P : Program) (s : St) (t : TypeId) (l c : AV) : Option (AV × St) :=
  match tiOf P t, l, c with
  | some ti, .v (.int _ l), .v (.int _ c) => match ti.k with
    | .sl e => match tiOf P e with
      | some ei => if l = c ∧ 0 ≤ l ∧ (ei.bytes : Int) * l ≤ 281474976710656 ∧ l ≤ 9223372036854775807 then some (.own s.nx 0 l.toNat ei.size, s.push (zrow ei.zero (l.toNat * ei.size))) else none
      | none => none
    | _ => none
  | _, _, _ => none
theorem make_gives {w0 w : World} {k : KW} {s s' : St} (hs : Sim w0 k w s) {t : TypeId} {l c z : AV} {ul uc : Value} (hl : Rel k l ul) (hc : Rel k c uc) (h : xmake P s t l c = some (z, s')) :
    GivesV P w0 k (Instr.makeSlice t ul uc) w z s' := by
  unfold xmake at h
  split at h
  · rename_i ti kl l kc c ht
    obtain rfl := hl.v_eq
    obtain rfl := hc.v_eq
    split at h
    · rename_i e hk
      split at h
      · rename_i ei hei
        split at h
        · rename_i hh
          obtain ⟨rfl, h0, hb, h63⟩ := hh
          injection h with h
          injection h with h1 h2
          subst h1 h2
          obtain ⟨d, i, zv, hd, hi, hz, hs2, hby, hcz, hk2⟩ := ti_info hei
          obtain ⟨p1, p2⟩ := hs.push_own _ e _ (zrow_rel ei.zero (l.toNat * ei.size)) l.toNat ei.size (by simp)
          refine ⟨.slice (some ⟨w.heap.size, 0, none⟩) l.toNat l.toNat, _, _, ?_, p2, p1, k.push_le _⟩
          rw [run_make (P := P) w t e i zv (under_sl ht hk) hi hz kl kc l l h0 (Int.le_refl _) (by rw [hby]; exact hb) h63]
          rw [hs2]
          unfold madeCells
          rw [zrow_cells zv ei.zero _ hcz]
        · cases h
      · cases h
    · cases h
  · cases h

/-- Several cells are written. -/
theorem Sim.writes {id : Nat} (us : List Value) : ∀ (zs : List AV) (n : Nat) {w0 w : World} {k : KW} {s : St} {c : List AV}, RelL k zs us → Sim w0 k w s → s.get id = some c → n + us.length ≤ c.length →
    Sim w0 k (w.setCells (k.φ id).b ((k.φ id).o + n) us) (s.set id (spl c n zs)) := by
  induction us with
  | nil =>
    intro zs n w0 w k s c hr hs hc hb
    have : zs = [] := List.eq_nil_of_length_eq_zero (by simpa using hr.1.symm)
    subst this
    rw [spl, St.set_get _ _ _ hc]
    exact hs
  | cons u us ih =>
    intro zs n w0 w k s c hr hs hc hb
    cases zs with
    | nil => cases hr.1
    | cons z zs =>
      simp only [List.length_cons] at hb
      have hw := hs.write hc (j := n) (by omega) (hr.2 0 z u rfl rfl)
      have := ih zs (n + 1) (s := s.set id (c.set n z)) (c := c.set n z) ⟨by have := hr.1; simpa using this, fun j y x hy hx => hr.2 (j + 1) y x hy hx⟩ hw (St.set_same _ _ _) (by rw [List.length_set]; omega)
      rw [St.set_set] at this
      exact this
theorem spl_append (zs : List AV) : ∀ (a b : List AV) (n : Nat), n = a.length → b.length = zs.length → spl (a ++ b) n zs = a ++ zs := by
  induction zs with
  | nil =>
    intro a b n hn hb
    have : b = [] := List.eq_nil_of_length_eq_zero (by simpa using hb)
    rw [this]
    rfl
  | cons z zs ih =>
    intro a b n hn hb
    cases b with
    | nil => cases hb
    | cons y b =>
      subst hn
      rw [spl]
      have e : (a ++ y :: b).set a.length z = (a ++ [z]) ++ b := by
        rw [List.set_append_right _ _ (Nat.le_refl _)]
        simp
      rw [e, ih (a ++ [z]) b _ (by simp) (by simpa using hb)]
      simp
/-- A box goes on under a new number, from a place on. -/
theorem Sim.move {w0 w : World} {k : KW} {s : St} (hs : Sim w0 k w s) {i : Nat} {c : List AV} (hi : s.get i = some c) (off : Nat) (d : List AV) (hd : d.length + off ≤ (k.φ i).cap) (hp : ∀ (j : Nat) (z : AV), d[j]? = some z → z = .no ∨ c[off + j]? = some z) :
    Sim w0 (k.push ⟨(k.φ i).b, (k.φ i).o + off, (k.φ i).cap - off⟩) w ((s.kill i).push d) := by
  have hle := k.push_le ⟨(k.φ i).b, (k.φ i).o + off, (k.φ i).cap - off⟩
  have hm := hs.m
  have hat : ∀ j, (Rng.mk (k.φ i).b ((k.φ i).o + off) ((k.φ i).cap - off)).at j = (k.φ i).at (off + j) := fun j => by
    show (⟨_, (k.φ i).o + off + j, none⟩ : Addr) = ⟨_, (k.φ i).o + (off + j), none⟩
    rw [Nat.add_assoc]
  have alive : ∀ q cq, q ≠ s.nx → ((s.kill i).push d).get q = some cq → s.get q = some cq ∧ q ≠ i := fun q cq hq h => by
    rw [St.push_ne (s.kill i) _ _ hq] at h
    by_cases e : q = i
    · subst e; rw [St.kill_same] at h; cases h
    · rw [St.kill_ne _ _ _ e] at h; exact ⟨h, e⟩
  have hne : ∀ q cq, s.get q = some cq → q ≠ k.m := fun q cq hq => by have := hs.lt q cq hq; omega
  refine ⟨by rw [St.nx_push, St.nx_kill, ← hm]; rfl, hs.fz, ?_, ?_, ?_, hs.shp, hs.tz⟩
  · intro q cq hq
    rw [St.nx_push, St.nx_kill]
    by_cases e : q = s.nx
    · omega
    · have := hs.lt q cq (alive q cq e hq).1
      omega
  · intro q cq hq
    by_cases e : q = s.nx
    · subst e
      have : ((s.kill i).push d).get s.nx = some d := St.push_same (s.kill i) d
      rw [this] at hq
      injection hq with hq
      subst hq
      rw [← hm, KW.push_same]
      refine ⟨by simp only; omega, fun j hj => ?_⟩
      simp only at hj
      rw [hat]
      obtain ⟨u, h1, h2, h3, h4⟩ := (hs.box i c hi).2 (off + j) (by omega)
      refine ⟨u, h1, h2, h3, fun z hz => ?_⟩
      rcases hp j z hz with rfl | hz
      · exact .no u
      · exact (h4 z hz).mono hle
    · obtain ⟨h1, h2⟩ := alive q cq e hq
      rw [KW.push_ne _ _ _ (hne q cq h1)]
      obtain ⟨hc, hb⟩ := hs.box q cq h1
      refine ⟨hc, fun j hj => ?_⟩
      obtain ⟨u, f1, f2, f3, f4⟩ := hb j hj
      exact ⟨u, f1, f2, f3, fun z hz => (f4 z hz).mono hle⟩
  · intro a b ca cb ha hb hab x y hx hy
    by_cases ea : a = s.nx
    · subst ea
      obtain ⟨hb1, hb2⟩ := alive b cb (Ne.symm hab) hb
      rw [← hm, KW.push_same] at hx ⊢
      rw [KW.push_ne _ _ _ (hne b cb hb1)] at hy ⊢
      rw [hat]
      simp only at hx
      exact hs.sep i b c cb hi hb1 (Ne.symm hb2) _ _ (by omega) hy
    · obtain ⟨ha1, ha2⟩ := alive a ca ea ha
      rw [KW.push_ne _ _ _ (hne a ca ha1)] at hx ⊢
      by_cases eb : b = s.nx
      · subst eb
        rw [← hm, KW.push_same] at hy ⊢
        rw [hat]
        simp only at hy
        exact hs.sep a i ca c ha1 hi ha2 _ _ hx (by omega)
      · obtain ⟨hb1, hb2⟩ := alive b cb eb hb
        rw [KW.push_ne _ _ _ (hne b cb hb1)] at hy ⊢
        exact hs.sep a b ca cb ha1 hb1 hab x y hx hy
end Go.Proofs.YtppmamcoehhopaaDoor.Ax
