/- The abstract machine, part F: append. -/
import Derived.Test.YtppmamcoehhopaaDoorAxE
set_option linter.unusedVariables false
set_option linter.unusedSimpArgs false
namespace Go.Proofs.YtppmamcoehhopaaDoor.Ax
open Go Go.RowKit
variable {P : Program}

def byteAV (b : ByteArray) : List AV := b.data.toList.map fun x => .v (.int .u8 x.toNat)
/-- What is appended: how many elements, and their cells. -/
def xsrc (P : Program) (s : St) (tx : TypeId) (y : AV) (sz : Nat) : Option (Nat × List AV) :=
  match tiOf P tx with
  | some ti => match ti.k, y with
    | .sl _, .sl m c => if c.length = m * sz then some (m, c) else none
    | .sl _, .own id off m sz' => match s.get id with
      | some c => if sz' = sz ∧ off + m * sz ≤ c.length then some (m, (c.drop off).take (m * sz)) else none
      | none => none
    | .sl _, .v (.slice none 0 0) => some (0, [])
    | .str, .v (.string b) => if sz = 1 then some (b.size, byteAV b) else none
    | _, _ => none
  | none => none
theorem RelL.mk_mono {k k' : KW} {c : List AV} {us : List Value} (h : RelL k c us) (hk : KW.le k.m k k') : RelL k' c us := ⟨h.1, fun j z u hz hu => (h.2 j z u hz hu).mono hk⟩
theorem relL_one {k : KW} {zs : List AV} {us : List Value} (h : RelL k zs us) (h1 : zs.all AV.one = true) : ∀ u ∈ us, u.oneCell' = true := by
  intro u hu
  obtain ⟨j, hj, rfl⟩ := List.getElem_of_mem hu
  have hj' : j < zs.length := by rw [← h.1]; exact hj
  exact ((h.2 j zs[j] us[j] (by simp [hj']) (by simp [hj])).one (List.all_eq_true.1 h1 _ (List.getElem_mem _))).1
theorem reads_list {k : KW} {w : World} {a : Addr} {c : List AV} (h : Reads k w a c) (n : Nat) (hn : n ≤ c.length) : ∃ us : List Value, RelL k (c.take n) us ∧ us.length = n ∧ ∀ (j : Nat) (u : Value), us[j]? = some u → w.cell? (a.add j) = some u := by
  obtain ⟨us, h1, _, h2, h3⟩ := loadCells_reads (P := default) h hn
  refine ⟨us, ⟨by simp [h1]; omega, fun j z u hz hu => ?_⟩, h1, h2⟩
  rw [List.getElem?_take] at hz
  split at hz
  · exact h3 j z u hz hu
  · cases hz
theorem src_gives {w0 w : World} {k : KW} {s : St} (hs : Sim w0 k w s) {tx : TypeId} {y : AV} {uy : Value} {sz m : Nat} {zs : List AV} (hy : Rel k y uy) (h : xsrc P s tx y sz = some (m, zs)) (h1 : zs.all AV.one = true) :
    ∃ news, Src P sz tx uy m news w ∧ RelL k zs news := by
  unfold xsrc at h
  split at h
  · rename_i ti ht
    split at h
    · rename_i e' m c hk
      split at h
      · rename_i hl
        injection h with h
        injection h with e1 e2
        subst e1 e2
        obtain ⟨a, cap, rfl, g1, g2⟩ := hy.sl_form
        cases a with
        | none =>
          have hm : m = 0 := by
            rcases Nat.eq_zero_or_pos m with h | h
            · exact h
            · obtain ⟨b, hb, _⟩ := g1 h; cases hb
          subst hm
          have : c = [] := List.eq_nil_of_length_eq_zero (by simpa using hl)
          subst this
          exact ⟨[], Src.ofNil w (under_sl ht hk) cap, rfl, fun j z u hz => by simp at hz⟩
        | some a =>
          obtain ⟨a', ha', hr⟩ := reads_rf hs (g2 a rfl)
          injection ha' with ha'
          injection ha' with ha'
          subst ha'
          obtain ⟨us, q1, q2, q3⟩ := reads_list hr c.length (Nat.le_refl _)
          rw [List.take_length] at q1
          exact ⟨us, Src.ofSlice w (under_sl ht hk) a m cap us (by omega) q3 (relL_one q1 h1), q1⟩
      · cases h
    · rename_i e' id off m sz' hk
      split at h
      · rename_i c hc
        split at h
        · rename_i hl
          obtain ⟨rfl, hl⟩ := hl
          injection h with h
          injection h with e1 e2
          subst e1 e2
          cases hy with
          | own _ _ _ _ cap hi hn hcc =>
            obtain ⟨a', ha', _, hr⟩ := reads_ptr hs hc (Rel.ptr id off hi)
            injection ha' with ha'
            injection ha' with ha'
            subst ha'
            obtain ⟨us, q1, q2, q3⟩ := reads_list hr (m * sz') (by rw [List.length_drop]; omega)
            exact ⟨us, Src.ofSlice w (under_sl ht hk) _ m cap us q2 q3 (relL_one q1 h1), q1⟩
          | own0 _ _ _ a hi hcc =>
            cases a with
            | none => exact ⟨[], Src.ofNil w (under_sl ht hk) 0, by simp, fun j z u hz => by simp at hz⟩
            | some a => exact ⟨[], Src.ofSlice w (under_sl ht hk) a 0 0 [] (by simp) (fun j u hu => by simp at hu) (fun u hu => by cases hu), by simp, fun j z u hz => by simp at hz⟩
        · cases h
      · cases h
    · rename_i e' hk
      injection h with h
      injection h with e1 e2
      subst e1 e2
      obtain rfl := hy.v_eq
      exact ⟨[], Src.ofNil w (under_sl ht hk) 0, rfl, fun j z u hz => by simp at hz⟩
    · rename_i b hk
      split at h
      · rename_i hsz
        subst hsz
        injection h with h
        injection h with e1 e2
        subst e1 e2
        obtain rfl := hy.v_eq
        refine ⟨byteCells b, Src.ofString w (under_str ht hk) b, by simp [byteAV, byteCells], fun j z u hz hu => ?_⟩
        unfold byteAV at hz
        unfold byteCells at hu
        rw [List.getElem?_map] at hz hu
        cases hj : b.data.toList[j]? with
        | none => rw [hj] at hz; cases hz
        | some x =>
          rw [hj] at hz hu
          injection hz with hz
          injection hu with hu
          subst hz hu
          exact .v _
      · cases h
    · cases h
  · cases h

/-- append. -/
def xappend (P : Program) (s : St) (t tx : TypeId) (x y : AV) : Option (AV × St) :=
  match tiOf P t with
  | some ti => match ti.k with
    | .sl e => match tiOf P e with
      | some ei => match xsrc P s tx y ei.size with
        | some (m, zs) => if ei.zero.length = ei.size ∧ zs.length = m * ei.size ∧ zs.all AV.one = true then match x with
            | .own id off n sz => match s.get id with
              | some c => if sz = ei.size ∧ c.length = off + n * sz ∧ (n + m) * ei.bytes ≤ 140737488355328 ∧ n + m ≤ 9223372036854775807 then some (.own s.nx 0 (n + m) sz, (s.kill id).push (c.drop off ++ zs)) else none
              | none => none
            | .v (.slice none 0 0) => if m = 0 then some (.v (.slice none 0 0), s) else if m * ei.bytes ≤ 140737488355328 ∧ m ≤ 9223372036854775807 then some (.own s.nx 0 m ei.size, s.push zs) else none
            | _ => none
          else none
        | none => none
      | none => none
    | _ => none
  | none => none
theorem Sim.drew' {w0 w : World} {k : KW} {s : St} (h : Sim w0 k w s) : Sim w0 k w.drew s := h.drew _
theorem append_grown {w0 w : World} {k : KW} {s : St} (hs : Sim w0 k w s) {e : TypeId} {ei : TI} (hei : tiOf P e = some ei) (hz : ei.zero.length = ei.size) {i : TypeInfo} {zv : Value} (hzv : i.zero = some zv) (hcz : zv.cells.toList = ei.zero)
    (need old : Nat) (c : List AV) (us : List Value) (hr : RelL k c us) (hl : us.length = need * ei.size) :
    let cap := grownCap w need old e
    let k' := k.push ⟨w.heap.size, 0, (us ++ (Builtin.zeroCells zv.cells (cap - need)).toList).length⟩
    Sim w0 k' (w.drew.alloc (.cells (us.toArray ++ Builtin.zeroCells zv.cells (cap - need)) e)) (s.push c) ∧ Rel k' (.own s.nx 0 need ei.size) (.slice (some ⟨w.heap.size, 0, none⟩) need cap) := by
  intro cap k'
  have hge : need ≤ cap := grownCap_ge w need old e
  have hsz : zv.cells.size = ei.size := by rw [← hz, ← hcz]; simp
  have hlen : (us ++ (Builtin.zeroCells zv.cells (cap - need)).toList).length = cap * ei.size := by
    rw [List.length_append, hl, Array.length_toList, size_zeroCells, hsz, ← Nat.add_mul]
    congr 1
    omega
  have hp := hs.drew'.push (us ++ (Builtin.zeroCells zv.cells (cap - need)).toList) e c (by rw [List.length_append, hr.1]; omega) (by
    intro j z u hz hu
    have hj := (List.getElem?_eq_some_iff.1 hz).1
    rw [List.getElem?_append_left (by rw [hr.1]; exact hj)] at hu
    exact hr.2 j z u hz hu)
  have e1 : (us ++ (Builtin.zeroCells zv.cells (cap - need)).toList).toArray = us.toArray ++ Builtin.zeroCells zv.cells (cap - need) := by
    apply Array.ext'
    simp
  rw [e1] at hp
  refine ⟨hp, ?_⟩
  have := Rel.own (k := k') k.m 0 need ei.size cap (Nat.lt_succ_self _) hge (by
    show 0 + cap * ei.size ≤ ((k.push _).φ k.m).cap
    rw [KW.push_same]
    simp only [hlen]
    omega)
  rw [show k'.φ k.m = _ from KW.push_same _ _] at this
  rw [← hs.m]
  exact this
theorem append_gives {w0 w : World} {k : KW} {s s' : St} (hs : Sim w0 k w s) {t tx ty : TypeId} {x y z : AV} {ux uy : Value} (hx : Rel k x ux) (hy : Rel k y uy) (h : xappend P s t tx x y = some (z, s')) :
    GivesV P w0 k (Builtin.append_ #[t, tx] ty #[ux, uy]) w z s' := by
  unfold xappend at h
  split at h
  · rename_i ti ht
    split at h
    · rename_i e hk
      have hu := under_sl ht hk
      split at h
      · rename_i ei hei
        obtain ⟨d, i, zv, hd, hi, hz, hs2, hby, hcz, hk2⟩ := ti_info hei
        split at h
        · rename_i m zs hsrc
          split at h
          · rename_i hh
            obtain ⟨hz0, hzl, hone⟩ := hh
            obtain ⟨news, hS, hN⟩ := src_gives hs hy hsrc hone
            rw [← hs2] at hS
            split at h
            · rename_i id off n sz
              split at h
              · rename_i c hc
                split at h
                · rename_i hcond
                  obtain ⟨rfl, hcl, hb, h63⟩ := hcond
                  injection h with h
                  injection h with e1 e2
                  subst e1 e2
                  have grow : ∀ (a : Option Addr) (cap : Nat), cap < n + m → (0 < n → a = some ((k.φ id).at off) ∧ id < k.m) → GivesV P w0 k (Builtin.append_ #[t, tx] ty #[.slice a n cap, uy]) w (.own s.nx 0 (n + m) ei.size) ((s.kill id).push (c.drop off ++ zs)) := by
                    intro a cap hlt ha
                    have old : ∃ olds, RelL k (c.drop off) olds ∧ (Builtin.firstCells i.size n (.slice a n cap)).run P w.drew = .ok olds.toArray w.drew := by
                      by_cases hn : 0 < n
                      · obtain ⟨rfl, hid⟩ := ha hn
                        obtain ⟨a', ha', _, hr⟩ := reads_ptr hs.drew' hc (Rel.ptr id off hid)
                        injection ha' with ha'
                        injection ha' with ha'
                        subst ha'
                        obtain ⟨us, q1, q2, _, q3⟩ := loadCells_reads (P := P) hr (n := n * ei.size) (by rw [List.length_drop]; omega)
                        refine ⟨us, ⟨by rw [q1, List.length_drop]; omega, q3⟩, ?_⟩
                        unfold Builtin.firstCells
                        rw [hs2]
                        exact q2
                      · obtain rfl : n = 0 := by omega
                        have : c.drop off = [] := List.eq_nil_of_length_eq_zero (by rw [List.length_drop]; omega)
                        rw [this]
                        refine ⟨[], ⟨rfl, fun j z u hz => by simp at hz⟩, ?_⟩
                        unfold Builtin.firstCells
                        rw [Nat.zero_mul]
                        cases a <;> rfl
                    obtain ⟨olds, ho1, ho2⟩ := old
                    have hr := run_append_grow_src (P := P) w t tx ty e i zv hu hi hz a n cap olds ho2 uy m news hS hlt (by omega) (growslice_fits hlt (by rw [hby]; exact hb))
                    have hrel : RelL k (c.drop off ++ zs) (olds ++ news) := by
                      refine ⟨by simp [ho1.1, hN.1], fun j z u hz hu => ?_⟩
                      by_cases hj : j < (c.drop off).length
                      · rw [List.getElem?_append_left hj] at hz
                        rw [List.getElem?_append_left (by rw [ho1.1]; exact hj)] at hu
                        exact ho1.2 j z u hz hu
                      · rw [List.getElem?_append_right (by omega)] at hz
                        rw [List.getElem?_append_right (by rw [ho1.1]; omega), ho1.1] at hu
                        exact hN.2 _ z u hz hu
                    obtain ⟨p1, p2⟩ := append_grown (hs.kill id) hei hz0 hz hcz (n + m) cap (c.drop off ++ zs) (olds ++ news) hrel (by
                      rw [hrel.1, List.length_append, List.length_drop, hcl, hzl, Nat.add_mul]
                      omega)
                    exact ⟨_, _, _, hr, p2, p1, k.push_le _⟩
                  cases hx with
                  | own _ _ _ _ cap hi2 hn hcc =>
                    by_cases hroom : n + m ≤ cap
                    · have hcap : (n + m) * ei.size ≤ cap * ei.size := Nat.mul_le_mul_right _ hroom
                      have hnl : news.length = m * ei.size := by rw [hN.1, hzl]
                      have hml : (n + m) * ei.size = n * ei.size + m * ei.size := Nat.add_mul _ _ _
                      have hbox := (hs.box id c hc).2
                      have hat : ∀ j, (⟨(k.φ id).b, (k.φ id).o + off + n * i.size + j, none⟩ : Addr) = (k.φ id).at (off + n * ei.size + j) := fun j => by
                        rw [hs2]
                        unfold Rng.at
                        rw [Nat.add_assoc, Nat.add_assoc, Nat.add_assoc]
                      have hr := run_append_room_src (P := P) w t tx ty e i hu hi (k.φ id).b ((k.φ id).o + off) n cap uy m news hS hroom
                        (fun j hj => by
                          rw [hat]
                          obtain ⟨u, g1, _⟩ := hbox (off + n * ei.size + j) (by omega)
                          rw [g1]
                          rfl)
                        (fun j hj => by
                          rw [hat]
                          obtain ⟨u, g1, g2, _⟩ := hbox (off + n * ei.size + j) (by omega)
                          exact g2)
                      have hmv := hs.move hc off (c.drop off ++ List.replicate (m * ei.size) .no) (by
                        rw [List.length_append, List.length_drop, List.length_replicate]
                        omega) (by
                        intro j z hz
                        by_cases hj : j < (c.drop off).length
                        · rw [List.getElem?_append_left hj, List.getElem?_drop] at hz
                          exact .inr hz
                        · rw [List.getElem?_append_right (by omega)] at hz
                          exact .inl (List.eq_of_mem_replicate (List.mem_of_getElem? hz)))
                      have hdl : (c.drop off).length = n * ei.size := by rw [List.length_drop]; omega
                      have hm : k.m = s.nx := hs.m
                      have hw := Sim.writes (id := k.m) news zs (n * ei.size) (RelL.mk_mono hN (k.push_le _)) hmv (c := c.drop off ++ List.replicate (m * ei.size) .no) (by rw [hm]; exact St.push_same (s.kill id) _) (by
                        rw [List.length_append, List.length_replicate, hdl]
                        omega)
                      rw [spl_append zs _ _ _ hdl.symm (by rw [List.length_replicate, hzl])] at hw
                      rw [KW.push_same] at hw
                      have hset : ((s.kill id).push (c.drop off ++ List.replicate (m * ei.size) .no)).set k.m (c.drop off ++ zs) = (s.kill id).push (c.drop off ++ zs) := by
                        rw [hm]
                        unfold St.set St.push
                        congr 1
                        funext j
                        by_cases hj : j = s.nx <;> simp [hj, St.nx_kill]
                      rw [hset] at hw
                      refine ⟨_, _, k.push ⟨(k.φ id).b, (k.φ id).o + off, (k.φ id).cap - off⟩, hr, ?_, ?_, k.push_le _⟩
                      rotate_left
                      · rw [hs2]
                        exact hw
                      · have := Rel.own (k := k.push ⟨(k.φ id).b, (k.φ id).o + off, (k.φ id).cap - off⟩) k.m 0 (n + m) ei.size cap (Nat.lt_succ_self _) hroom (by rw [KW.push_same]; simp only; omega)
                        rw [KW.push_same] at this
                        rw [← hm]
                        exact this
                    · exact grow _ cap (by omega) (fun _ => ⟨rfl, hi2⟩)
                  | own0 _ _ _ a hi2 hcc =>
                    by_cases hm0 : m = 0
                    · subst hm0
                      have hzs : zs = [] := List.eq_nil_of_length_eq_zero (by simpa using hzl)
                      subst hzs
                      have hnews : news = [] := List.eq_nil_of_length_eq_zero (by simpa using hN.1)
                      subst hnews
                      have hdl : c.drop off = [] := List.eq_nil_of_length_eq_zero (by rw [List.length_drop]; omega)
                      have hmv := hs.move hc off [] (by
                        have := (hs.box id c hc).1
                        simp only [List.length_nil]
                        omega) (fun j z hz => by simp at hz)
                      rw [hdl]
                      have ra : (Builtin.append_ #[t, tx] ty #[.slice a 0 0, uy]).run P w = .ok (.slice a 0 0) w := by
                        cases a <;> rcases hS.kind with ⟨e', hk⟩ | hk <;> simp [Builtin.append_, run_underlying hu, run_underlying hk, Go.sizeOf, typeInfo, hi, hS.len, hS.cells, storeCells]
                      refine ⟨_, _, _, ra, ?_, hmv, k.push_le _⟩
                      rw [← hs.m]
                      exact .own0 _ _ _ _ (Nat.lt_succ_self _) (Nat.zero_le _)
                    · exact grow a 0 (by omega) (fun h => absurd h (Nat.lt_irrefl _))
                · cases h
              · cases h
            · obtain rfl := hx.v_eq
              split at h
              · rename_i hm0
                subst hm0
                injection h with h
                injection h with e1 e2
                subst e1 e2
                have hzs : zs = [] := List.eq_nil_of_length_eq_zero (by simpa using hzl)
                subst hzs
                have hnews : news = [] := List.eq_nil_of_length_eq_zero (by simpa using hN.1)
                subst hnews
                refine .pure hs ?_ (.v _)
                rcases hS.kind with ⟨e', hk⟩ | hk <;> simp [Builtin.append_, run_underlying hu, run_underlying hk, Go.sizeOf, typeInfo, hi, hS.len, hS.cells]
              · rename_i hm0
                split at h
                · rename_i hcond
                  injection h with h
                  injection h with e1 e2
                  subst e1 e2
                  have hr := run_append_grow_src (P := P) w t tx ty e i zv hu hi hz none 0 0 [] (by rfl) uy m news hS (by omega) (by omega) (growslice_fits (by omega) (by rw [hby, Nat.zero_add]; exact hcond.1))
                  simp only [Nat.zero_add, List.nil_append] at hr
                  obtain ⟨p1, p2⟩ := append_grown hs hei hz0 hz hcz m 0 zs news hN (by rw [hN.1, hzl])
                  exact ⟨_, _, _, hr, p2, p1, k.push_le _⟩
                · cases h
            · cases h
          · cases h
        · cases h
      · cases h
    · cases h
  · cases h
end Go.Proofs.YtppmamcoehhopaaDoor.Ax
