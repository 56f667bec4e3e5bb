/- The abstract machine, part D: indexing, slicing, building, making. -/
import Derived.Test.YtppmamcoehhopaaDoorAxC
import Derived.Laws.Slices
set_option linter.unusedVariables false
set_option linter.unusedSimpArgs false
namespace Go.Proofs.YtppmamcoehhopaaDoor.Ax
open Go Go.RowKit
variable {P : Program}

theorem field_gives {w0 w : World} {k : KW} {s : St} (hs : Sim w0 k w s) {t : TypeId} {f : Nat} {c : List AV} {z : AV} {u : Value} (hu : Rel k (.ag c) u) (h : xfield P t (.ag c) f = some z) :
    GivesV P w0 k (Instr.field t u f) w z s := by
  unfold xfield at h
  split at h
  · rename_i ti ht
    split at h
    · rename_i fs hk
      split at h
      · rename_i off ft hf
        split at h
        · rename_i fi hfi
          split at h
          · cases h
          · obtain ⟨gs, g, h1, h2, rfl, rfl⟩ := field_st ht hk hf
            cases hu with
            | ag _ us hl hr =>
              have hg : ∀ (j : Nat) (y : AV) (x : Value), (c.drop g.offset)[j]? = some y → (us.drop g.offset)[j]? = some x → Rel k y x := by
                intro j y x hy hx
                rw [List.getElem?_drop] at hy hx
                exact hr _ _ _ hy hx
              simp only at h
              unfold loadA at h
              split at h
              · rename_i ha
                split at h
                · rename_i hsz
                  injection h with h
                  subst h
                  refine .pure hs (v := .agg ((us.drop g.offset).take fi.size).toArray) ?_ (.ag _ _ (by simp [hl]) fun j y x hy hx => ?_)
                  · simp only [Instr.field, Sem.run_bind, run_underlying h1, Result.andThen_ok, h2, asAgg, Sem.run_pure, part, run_isAgg hfi, ha, if_true, run_sizeOf hfi]
                    congr 1
                    simp [List.take_drop]
                  · rw [List.getElem?_take] at hy hx
                    split at hy
                    · rw [if_pos (by assumption)] at hx
                      exact hg j y x hy hx
                    · cases hy
                · cases h
              · rename_i ha
                have h0 : (c.drop g.offset)[0]? = some z := by rw [← h]; cases c.drop g.offset <;> rfl
                rw [List.getElem?_drop, Nat.add_zero] at h0
                have hlt := (List.getElem?_eq_some_iff.1 h0).1
                have hx : us[g.offset]? = some (us[g.offset]'(by omega)) := List.getElem?_eq_getElem _
                refine .pure hs (v := us[g.offset]'(by omega)) ?_ (hr _ _ _ h0 hx)
                simp only [Instr.field, Sem.run_bind, run_underlying h1, Result.andThen_ok, h2, asAgg, Sem.run_pure, part, run_isAgg hfi, ha, Bool.false_eq_true, if_false]
                simp [hx]
        · cases h
      · cases h
    · cases h
  · cases h

/-- An element's address. -/
def xindexAddr (P : Program) (t : TypeId) (x i : AV) : Option AV :=
  match tiOf P t, i with
  | some ti, .v (.int _ i) => match ti.k with
    | .sl e => match tiOf P e with
      | some ei => match x with
        | .sl n c => if 0 ≤ i ∧ i < (n : Int) then some (.rf (c.drop (i.toNat * ei.size))) else none
        | .own id off n sz => if sz = ei.size ∧ 0 ≤ i ∧ i < (n : Int) then some (.ptr id (off + i.toNat * ei.size)) else none
        | _ => none
      | none => none
    | _ => none
  | _, _ => none
theorem under_sl {t e : TypeId} {ti : TI} (ht : tiOf P t = some ti) (hk : ti.k = .sl e) : P.underlying t = some (.slice e) := by
  obtain ⟨d, i, z, hd, hi, hz, hsz, hb, hc, hk2⟩ := ti_info ht
  exact kind_sl (hk ▸ hk2).symm
theorem under_str {t : TypeId} {ti : TI} (ht : tiOf P t = some ti) (hk : ti.k = .str) : P.underlying t = some .string := by
  obtain ⟨d, i, z, hd, hi, hz, hsz, hb, hc, hk2⟩ := ti_info ht
  exact kind_str (hk ▸ hk2).symm
theorem under_int {t : TypeId} {k : IntKind} {ti : TI} (ht : tiOf P t = some ti) (hk : ti.k = .int k) : P.underlying t = some (.int k) := by
  obtain ⟨d, i, z, hd, hi, hz, hsz, hb, hc, hk2⟩ := ti_info ht
  exact kind_int (hk ▸ hk2).symm
theorem under_bool {t : TypeId} {ti : TI} (ht : tiOf P t = some ti) (hk : ti.k = .bool) : P.underlying t = some .bool := by
  obtain ⟨d, i, z, hd, hi, hz, hsz, hb, hc, hk2⟩ := ti_info ht
  exact kind_bool (hk ▸ hk2).symm
theorem under_pt {t e : TypeId} {ti : TI} (ht : tiOf P t = some ti) (hk : ti.k = .pt e) : P.underlying t = some (.pointer e) := by
  obtain ⟨d, i, z, hd, hi, hz, hsz, hb, hc, hk2⟩ := ti_info ht
  exact kind_pt (hk ▸ hk2).symm
theorem Rel.sl_form {k : KW} {n : Nat} {c : List AV} {u : Value} (h : Rel k (.sl n c) u) : ∃ a cap, u = .slice a n cap ∧ (0 < n → ∃ b, a = some b ∧ n ≤ cap) ∧ ∀ b, a = some b → Rel k (.rf c) (.pointer (some b)) := by
  cases h with
  | sl _ cap _ a us hn h1 h2 => exact ⟨some a, cap, rfl, fun _ => ⟨a, rfl, hn⟩, fun b hb => by injection hb with hb; subst hb; exact .rf _ _ us h1 h2⟩
  | sl0 a cap => exact ⟨a, cap, rfl, fun h => absurd h (Nat.lt_irrefl _), fun b hb => .rf _ _ (fun _ => undef) (fun j hj => absurd hj (Nat.not_lt_zero _)) (fun j z hz => by simp at hz)⟩
theorem Rel.v_eq {k : KW} {x u : Value} (h : Rel k (.v x) u) : u = x := by cases h; rfl
theorem indexAddr_gives {w0 w : World} {k : KW} {s : St} (hs : Sim w0 k w s) {t : TypeId} {x i z : AV} {ux ui : Value} (hx : Rel k x ux) (hi : Rel k i ui) (h : xindexAddr P t x i = some z) :
    GivesV P w0 k (Instr.indexAt t ux ui) w z s := by
  unfold xindexAddr at h
  split at h
  · rename_i ti ik i ht
    obtain rfl := hi.v_eq
    split at h
    · rename_i e hk
      have hun := under_sl ht hk
      split at h
      · rename_i ei hei
        have run : ∀ (a : Addr) (n cap : Nat), 0 ≤ i ∧ i < (n : Int) → (Instr.indexAt t (.slice (some a) n cap) (.int ik i)).run P w = .ok (.pointer (some (a.add (i.toNat * ei.size)))) w := by
          intro a n cap hb
          simp only [Instr.indexAt, asIntOf, Sem.run_bind, Sem.run_pure, Result.andThen_ok, run_underlying hun]
          simp only [hb, and_self, if_true, run_sizeOf hei, Sem.run_bind, Result.andThen_ok, Sem.run_pure]
        split at h
        · rename_i n c
          split at h
          · rename_i hb
            injection h with h
            subst h
            obtain ⟨a, cap, rfl, h1, h2⟩ := hx.sl_form
            obtain ⟨b, rfl, _⟩ := h1 (by omega)
            exact .pure hs (run b n cap hb) ((h2 b rfl).rf_drop _)
          · cases h
        · rename_i id off n sz
          split at h
          · rename_i hb
            obtain ⟨rfl, hb⟩ := hb
            injection h with h
            subst h
            cases hx with
            | own _ _ _ _ cap hi hn hc => exact .pure hs (run _ n cap hb) ((Rel.ptr _ _ hi).ptr_add _)
            | own0 => omega
          · cases h
        · cases h
      · cases h
    · cases h
  · cases h

/-- A byte of a string. -/
def xindex (P : Program) (t : TypeId) (x i : AV) : Option AV :=
  match tiOf P t, x, i with
  | some ti, .v (.string b), .v (.int _ i) => match ti.k with
    | .str => if 0 ≤ i ∧ i < (b.size : Int) then some (.v (.int .u8 ((b.data.toList.getD i.toNat 0).toNat : Int))) else none
    | _ => none
  | _, _, _ => none
theorem index_gives {w0 w : World} {k : KW} {s : St} (hs : Sim w0 k w s) {t : TypeId} {x i z : AV} {ux ui : Value} (hx : Rel k x ux) (hi : Rel k i ui) (h : xindex P t x i = some z) :
    GivesV P w0 k (Instr.index t ux ui) w z s := by
  unfold xindex at h
  split at h
  · rename_i ti b ik i ht
    obtain rfl := hi.v_eq
    obtain rfl := hx.v_eq
    split at h
    · rename_i hk
      split at h
      · rename_i hb
        injection h with h
        subst h
        refine .pure hs ?_ (.v _)
        have hlt : i.toNat < b.size := by omega
        have hg : b[i.toNat]? = some (b.data.toList.getD i.toNat 0) := by
          rw [getElem?_pos b i.toNat hlt]
          congr 1
          rw [List.getD_eq_getElem?_getD, List.getElem?_eq_getElem (by simpa using hlt)]
          rfl
        simp only [Instr.index, asIntOf, Sem.run_bind, Sem.run_pure, Result.andThen_ok, run_underlying (under_str ht hk), hb.1, if_true, hg]
      · cases h
    · cases h
  · cases h

/-- A part of a slice or of a string. -/
def bnd (x : Option AV) (d : Int) : Option Int :=
  match x with
  | none => some d
  | some (.v (.int _ i)) => some i
  | _ => none
def xslice (P : Program) (t : TypeId) (x : AV) (lo hi : Option AV) : Option AV :=
  match tiOf P t, bnd lo 0 with
  | some ti, some l => match ti.k, x with
    | .str, .v (.string b) => match bnd hi b.size with
      | some h => if 0 ≤ l ∧ l ≤ h ∧ h ≤ (b.size : Int) then some (.v (.string (b.extract l.toNat h.toNat))) else none
      | none => none
    | .sl e, .sl n c => match bnd hi n, tiOf P e with
      | some h, some ei => if 0 ≤ l ∧ l ≤ h ∧ h ≤ (n : Int) then some (.sl (h.toNat - l.toNat) ((c.drop (l.toNat * ei.size)).take ((h.toNat - l.toNat) * ei.size))) else none
      | _, _ => none
    | .sl e, .own id off n sz => match bnd hi n, tiOf P e with
      | some h, some ei => if sz = ei.size ∧ 0 ≤ l ∧ l ≤ h ∧ h ≤ (n : Int) then some (.own id (off + l.toNat * ei.size) (h.toNat - l.toNat) sz) else none
      | _, _ => none
    | _, _ => none
  | _, _ => none
theorem run_bound {x : Option AV} {ux : Option Value} {k : KW} (hx : match x, ux with | none, none => True | some z, some u => Rel k z u | _, _ => False) {d l : Int} (hb : bnd x d = some l) :
    (x = none ∧ ux = none ∧ l = d) ∨ ∃ ik, ux = some (.int ik l) := by
  unfold bnd at hb
  split at hb
  · injection hb with hb
    subst hb
    cases ux with
    | none => exact .inl ⟨rfl, rfl, rfl⟩
    | some u => exact hx.elim
  · injection hb with hb
    subst hb
    cases ux with
    | none => exact hx.elim
    | some u => exact .inr ⟨_, by rw [Rel.v_eq hx]⟩
  · cases hb
theorem run_sliceBounds {isSlice : Bool} {lo hi : Option AV} {ulo uhi : Option Value} {k : KW} (hlo : match lo, ulo with | none, none => True | some z, some u => Rel k z u | _, _ => False) (hhi : match hi, uhi with | none, none => True | some z, some u => Rel k z u | _, _ => False)
    {len cap : Nat} {l h : Int} (h1 : bnd lo 0 = some l) (h2 : bnd hi len = some h) (hb : 0 ≤ l ∧ l ≤ h ∧ h ≤ (len : Int)) (hc : len ≤ cap) (w : World) :
    (Instr.sliceBounds isSlice len cap ulo uhi none).run P w = .ok (l.toNat, h.toNat, cap) w := by
  have e1 : 0 ≤ h ∧ h ≤ (cap : Int) := by omega
  have e2 : 0 ≤ l ∧ l ≤ (h.toNat : Int) := by omega
  rcases run_bound hlo h1 with ⟨rfl, rfl, rfl⟩ | ⟨ik, rfl⟩ <;> rcases run_bound hhi h2 with ⟨rfl, rfl, rfl⟩ | ⟨ik', rfl⟩
  · simp [Instr.sliceBounds, Sem.run_bind]
  · simp [Instr.sliceBounds, Sem.run_bind, Instr.sliceBound, asIntOf, e1]
  · simp [Instr.sliceBounds, Sem.run_bind, Instr.sliceBound, asIntOf, hb.1, hb.2.1]
  · simp [Instr.sliceBounds, Sem.run_bind, Instr.sliceBound, asIntOf, e1, e2]
    intro hlt
    omega
theorem slice_gives {w0 w : World} {k : KW} {s : St} (hs : Sim w0 k w s) {t : TypeId} {x z : AV} {lo hi : Option AV} {ux : Value} {ulo uhi : Option Value} (hx : Rel k x ux)
    (hlo : match lo, ulo with | none, none => True | some z, some u => Rel k z u | _, _ => False) (hhi : match hi, uhi with | none, none => True | some z, some u => Rel k z u | _, _ => False)
    (h : xslice P t x lo hi = some z) : GivesV P w0 k (Instr.sliceAt t ux ulo uhi none) w z s := by
  unfold xslice at h
  split at h
  · rename_i ti l ht hl
    split at h
    · rename_i b hk
      obtain rfl := hx.v_eq
      split at h
      · rename_i hh hhb
        split at h
        · rename_i hb
          injection h with h
          subst h
          refine .pure hs ?_ (.v _)
          simp only [Instr.sliceAt, Instr.slice, Sem.run_bind, run_underlying (under_str ht hk), Result.andThen_ok, Option.isSome_none, Bool.false_eq_true, if_false, run_sliceBounds (P := P) hlo hhi hl hhb hb (Nat.le_refl _) w, Sem.run_pure]
        · cases h
      · cases h
    · rename_i e n c hk
      split at h
      · rename_i hh ei hhb hei
        split at h
        · rename_i hb
          injection h with h
          subst h
          obtain ⟨a, cap, rfl, h1, h2⟩ := hx.sl_form
          by_cases hn : 0 < n
          · obtain ⟨b, rfl, hcap⟩ := h1 hn
            have hrf := (h2 b rfl)
            have run : (Instr.sliceAt t (.slice (some b) n cap) ulo uhi none).run P w = .ok (.slice (if cap = l.toNat then some b else some (b.add (l.toNat * ei.size))) (hh.toNat - l.toNat) (cap - l.toNat)) w := by
              simp only [Instr.sliceAt, Instr.slice, Sem.run_bind, run_underlying (under_sl ht hk), Result.andThen_ok, run_sliceBounds (P := P) hlo hhi hl hhb hb hcap w, run_sizeOf hei, Sem.run_pure, Option.map_some]
            refine .pure hs run ?_
            by_cases hcl : cap = l.toNat
            · rw [if_pos hcl]
              have e0 : hh.toNat - l.toNat = 0 := by omega
              rw [e0, Nat.zero_mul, List.take_zero]
              exact .sl0 _ _
            · rw [if_neg hcl]
              have hd := hrf.rf_drop (l.toNat * ei.size)
              cases hd with
              | rf _ _ us h1 h2 =>
                refine .sl _ _ _ _ us (by omega) (fun j hj => h1 j ?_) (fun j z hz => h2 j z ?_)
                · rw [List.length_take] at hj; omega
                · rw [List.getElem?_take] at hz
                  split at hz
                  · exact hz
                  · cases hz
          · obtain rfl : n = 0 := by omega
            have l0 : l = 0 := by omega
            have hh0 : hh = 0 := by omega
            subst l0 hh0
            have run : ∃ a' cap', (Instr.sliceAt t (.slice a 0 cap) ulo uhi none).run P w = .ok (.slice a' 0 cap') w := by
              refine ⟨if cap = 0 then a else a.map (·.add (0 * ei.size)), cap - 0, ?_⟩
              · simp only [Instr.sliceAt, Instr.slice, Sem.run_bind, run_underlying (under_sl ht hk), Result.andThen_ok, run_sliceBounds (P := P) (len := 0) (cap := cap) hlo hhi hl hhb (by omega) (Nat.zero_le _) w, run_sizeOf hei, Sem.run_pure]
                rfl
            obtain ⟨a', cap', run⟩ := run
            refine .pure hs run ?_
            simp only [Int.toNat_zero, Nat.sub_self, Nat.zero_mul, List.take_zero]
            exact .sl0 _ _
        · cases h
      · cases h
    · rename_i e id off n sz hk
      split at h
      · rename_i hh ei hhb hei
        split at h
        · rename_i hb
          obtain ⟨rfl, hb⟩ := hb
          injection h with h
          subst h
          cases hx with
          | own _ _ _ _ cap hi hn hc =>
            have run : (Instr.sliceAt t (.slice (some ((k.φ id).at off)) n cap) ulo uhi none).run P w = .ok (.slice (if cap = l.toNat then some ((k.φ id).at off) else some (((k.φ id).at off).add (l.toNat * ei.size))) (hh.toNat - l.toNat) (cap - l.toNat)) w := by
              simp only [Instr.sliceAt, Instr.slice, Sem.run_bind, run_underlying (under_sl ht hk), Result.andThen_ok, run_sliceBounds (P := P) hlo hhi hl hhb hb hn w, run_sizeOf hei, Sem.run_pure, Option.map_some]
            refine .pure hs run ?_
            have hle : l.toNat * ei.size ≤ cap * ei.size := Nat.mul_le_mul_right _ (by omega)
            by_cases hcl : cap = l.toNat
            · rw [if_pos hcl]
              have e0 : hh.toNat - l.toNat = 0 := by omega
              have e1 : cap - l.toNat = 0 := by omega
              rw [e0, e1]
              exact .own0 _ _ _ _ hi (by omega)
            · rw [if_neg hcl, Rng.at_add]
              refine .own _ _ _ _ _ hi (by omega) ?_
              have : (cap - l.toNat) * ei.size = cap * ei.size - l.toNat * ei.size := Nat.sub_mul _ _ _
              omega
          | own0 _ _ _ a hi hc =>
            cases a with
            | none =>
              have l0 : l = 0 := by omega
              have hh0 : hh = 0 := by omega
              subst l0 hh0
              have run : (Instr.sliceAt t (.slice none 0 0) ulo uhi none).run P w = .ok (.slice none 0 0) w := by
                simp only [Instr.sliceAt, Instr.slice, Sem.run_bind, run_underlying (under_sl ht hk), Result.andThen_ok, run_sliceBounds (P := P) (len := 0) (cap := 0) hlo hhi hl hhb (by omega) (Nat.le_refl _) w, run_sizeOf hei, Sem.run_pure]
                rfl
              refine .pure hs run ?_
              simp only [Int.toNat_zero, Nat.sub_self, Nat.zero_mul, Nat.add_zero]
              exact .own0 _ _ _ _ hi hc
            | some a =>
            have l0 : l = 0 := by omega
            have hh0 : hh = 0 := by omega
            subst l0 hh0
            have run : (Instr.sliceAt t (.slice (some a) 0 0) ulo uhi none).run P w = .ok (.slice (some a) 0 0) w := by
              simp only [Instr.sliceAt, Instr.slice, Sem.run_bind, run_underlying (under_sl ht hk), Result.andThen_ok, run_sliceBounds (P := P) (len := 0) (cap := 0) hlo hhi hl hhb (by omega) (Nat.le_refl _) w, run_sizeOf hei, Sem.run_pure]
              rfl
            refine .pure hs run ?_
            simp only [Int.toNat_zero, Nat.sub_self, Nat.zero_mul, Nat.add_zero]
            exact .own0 _ _ _ _ hi hc
        · cases h
      · cases h
    · cases h
  · cases h
end Go.Proofs.YtppmamcoehhopaaDoor.Ax
