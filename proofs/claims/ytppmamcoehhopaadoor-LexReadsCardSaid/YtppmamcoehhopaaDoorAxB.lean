/- The abstract machine, part B: what single operations do to abstract values. -/
import Derived.Test.YtppmamcoehhopaaDoorAxA
import Derived.Laws.Cells
import Derived.WalkLawsBesides
import Derived.Maps.AppendAt
import Derived.Laws.MakeOwn
set_option linter.unusedVariables false
set_option linter.unusedSimpArgs false
namespace Go.Proofs.YtppmamcoehhopaaDoor.Ax
open Go Go.RowKit
variable {P : Program}

/-- What a type is, as far as the machine asks. -/
inductive K where
  | int (k : IntKind) | str | bool | sl (e : TypeId) | st (fs : List (Nat × TypeId)) | ar (n : Nat) (e : TypeId) | pt (e : TypeId) | ifc | mp (k e : TypeId) | fn | ot
structure TI where
  k : K
  size : Nat
  bytes : Nat
  zero : List Value
def kindOf (P : Program) (t : TypeId) : K :=
  match P.underlying t with
  | some (.int k) => .int k
  | some .string => .str
  | some .bool => .bool
  | some (.slice e) => .sl e
  | some (.struct fs) => .st (fs.toList.map fun f => (f.offset, f.type))
  | some (.array n e) => .ar n e
  | some (.pointer e) => .pt e
  | some (.interface _) => .ifc
  | some (.map k e) => .mp k e
  | some (.func ..) => .fn
  | _ => .ot
def tiOf (P : Program) (t : TypeId) : Option TI :=
  match P.underlying t, P.info? t with
  | some _, some i => match i.zero with
    | some z => some ⟨kindOf P t, i.size, i.bytes, z.cells.toList⟩
    | none => none
  | _, _ => none
theorem ti_info {t : TypeId} {ti : TI} (h : tiOf P t = some ti) : ∃ d i z, P.underlying t = some d ∧ P.info? t = some i ∧ i.zero = some z ∧ i.size = ti.size ∧ i.bytes = ti.bytes ∧ z.cells.toList = ti.zero ∧ ti.k = kindOf P t := by
  unfold tiOf at h
  split at h
  · rename_i d i hd hi
    split at h
    · rename_i z hz
      injection h with h
      subst h
      exact ⟨d, i, z, hd, hi, hz, rfl, rfl, rfl, rfl⟩
    · cases h
  · cases h
theorem kind_sl {t e : TypeId} (h : kindOf P t = .sl e) : P.underlying t = some (.slice e) := by
  unfold kindOf at h
  split at h <;> first | (injection h with h; subst h; assumption) | cases h
theorem kind_st {t : TypeId} {fs : List (Nat × TypeId)} (h : kindOf P t = .st fs) : ∃ gs, P.underlying t = some (.struct gs) ∧ fs = gs.toList.map fun f => (f.offset, f.type) := by
  unfold kindOf at h
  split at h <;> first | (injection h with h; exact ⟨_, by assumption, h.symm⟩) | cases h
theorem kind_ar {t e : TypeId} {n : Nat} (h : kindOf P t = .ar n e) : P.underlying t = some (.array n e) := by
  unfold kindOf at h
  split at h <;> first | (injection h with h h'; subst h h'; assumption) | cases h
theorem kind_str {t : TypeId} (h : kindOf P t = .str) : P.underlying t = some .string := by
  unfold kindOf at h
  split at h <;> first | assumption | cases h
theorem kind_int {t : TypeId} {k : IntKind} (h : kindOf P t = .int k) : P.underlying t = some (.int k) := by
  unfold kindOf at h
  split at h <;> first | (injection h with h; subst h; assumption) | cases h
theorem kind_bool {t : TypeId} (h : kindOf P t = .bool) : P.underlying t = some .bool := by
  unfold kindOf at h
  split at h <;> first | assumption | cases h
theorem kind_pt {t e : TypeId} (h : kindOf P t = .pt e) : P.underlying t = some (.pointer e) := by
  unfold kindOf at h
  split at h <;> first | (injection h with h; subst h; assumption) | cases h
theorem kind_ifc {t : TypeId} (h : kindOf P t = .ifc) : ∃ ms, P.underlying t = some (.interface ms) := by
  unfold kindOf at h
  split at h <;> first | exact ⟨_, by assumption⟩ | cases h
def TI.agg (t : TI) : Bool := match t.k with | .st _ | .ar .. => true | _ => false

def aggDesc : TypeDesc → Bool | .struct _ | .array _ _ => true | _ => false
theorem agg_desc {t : TypeId} {ti : TI} {d : TypeDesc} (hd : P.underlying t = some d) (hk : ti.k = kindOf P t) : ti.agg = aggDesc d := by
  unfold TI.agg
  rw [hk]
  unfold kindOf
  simp only [hd]
  cases d <;> rfl
theorem run_isAgg {t : TypeId} {ti : TI} (h : tiOf P t = some ti) (w : World) : (isAgg t).run P w = .ok ti.agg w := by
  obtain ⟨d, i, z, hd, hi, hz, hs, hb, hc, hk⟩ := ti_info h
  rw [agg_desc hd hk]
  unfold isAgg underlying
  cases d <;> simp [program, Sem.run, Sem.run_bind, hd, Result.andThen] <;> rfl
theorem run_sizeOf {t : TypeId} {ti : TI} (h : tiOf P t = some ti) (w : World) : (sizeOf t).run P w = .ok ti.size w := by
  obtain ⟨d, i, z, hd, hi, hz, hs, hb, hc, hk⟩ := ti_info h
  unfold Go.sizeOf typeInfo
  simp [program, Sem.run, Sem.run_bind, hi, Result.andThen, hs]

def AV.cells : AV → List AV
  | .ag c => c
  | z => [z]
def AV.one : AV → Bool
  | .v x => x.oneCell'
  | .sl .. | .rf .. | .own .. | .ptr .. => true
  | _ => false
theorem Rel.one {k : KW} {z : AV} {u : Value} (h : Rel k z u) (h1 : z.one = true) : u.oneCell' = true ∧ u.cells = #[u] := by
  cases h with
  | v => exact ⟨h1, by cases u <;> first | rfl | cases h1⟩
  | sl | sl0 | rf | own | own0 | ptr => exact ⟨rfl, rfl⟩
  | ag | tp | no => cases h1

/-- Cells that can be read. -/
def Reads (k : KW) (w : World) (a : Addr) (c : List AV) : Prop := ∀ (j : Nat) (z : AV), c[j]? = some z → ∃ u, w.cell? (a.add j) = some u ∧ Rel k z u
theorem Reads.drop {k : KW} {w : World} {a : Addr} {c : List AV} (h : Reads k w a c) (n : Nat) : Reads k w (a.add n) (c.drop n) := by
  intro j z hz
  rw [List.getElem?_drop] at hz
  rw [Addr.add_add]
  exact h _ _ hz
theorem reads_rf {w0 w : World} {k : KW} {s : St} (hs : Sim w0 k w s) {c : List AV} {u : Value} (h : Rel k (.rf c) u) : ∃ a, u = .pointer (some a) ∧ Reads k w a c := by
  cases h with
  | rf _ a us h1 h2 =>
    refine ⟨a, rfl, fun j z hz => ⟨us j, hs.fz _ _ (h1 j ?_), h2 j z hz⟩⟩
    exact (List.getElem?_eq_some_iff.1 hz).1
theorem reads_ptr {w0 w : World} {k : KW} {s : St} (hs : Sim w0 k w s) {id off : Nat} {c : List AV} {u : Value} (hc : s.get id = some c) (h : Rel k (.ptr id off) u) : ∃ a, u = .pointer (some a) ∧ a = (k.φ id).at off ∧ Reads k w a (c.drop off) := by
  cases h with
  | ptr _ _ hi =>
    refine ⟨_, rfl, rfl, fun j z hz => ?_⟩
    rw [List.getElem?_drop] at hz
    rw [Rng.at_add]
    obtain ⟨hl, hb⟩ := hs.box id c hc
    have hlt := (List.getElem?_eq_some_iff.1 hz).1
    obtain ⟨u, h1, h2, h3, h4⟩ := hb (off + j) (by omega)
    exact ⟨u, h1, h4 z hz⟩
theorem loadCells_reads {k : KW} {w : World} {a : Addr} {c : List AV} (h : Reads k w a c) {n : Nat} (hn : n ≤ c.length) : ∃ us : List Value, us.length = n ∧ (loadCells a n).run P w = .ok us.toArray w ∧ (∀ (j : Nat) (u : Value), us[j]? = some u → w.cell? (a.add j) = some u) ∧ ∀ (j : Nat) (z : AV) (u : Value), c[j]? = some z → us[j]? = some u → Rel k z u := by
  have hx : ∀ j : Fin n, ∃ u, w.cell? (a.add j.1) = some u ∧ Rel k (c[j.1]'(by omega)) u := fun j => h j.1 _ (by simp)
  have hf := fun j => Classical.choose_spec (hx j)
  let f : Nat → Value := fun j => if hj : j < n then Classical.choose (hx ⟨j, hj⟩) else undef
  have hf' : ∀ j, (hj : j < n) → w.cell? (a.add j) = some (f j) ∧ Rel k (c[j]'(by omega)) (f j) := by
    intro j hj
    have : f j = Classical.choose (hx ⟨j, hj⟩) := dif_pos hj
    rw [this]
    exact hf ⟨j, hj⟩
  refine ⟨(List.range n).map f, by simp, ?_, ?_, ?_⟩
  · exact run_loadCells (P := P) (w := w) a n f (fun j hj => (hf' j hj).1)
  · intro j u hu
    rw [List.getElem?_map] at hu
    by_cases hj : j < n
    · rw [List.getElem?_range hj] at hu
      injection hu with hu
      subst hu
      exact (hf' j hj).1
    · rw [List.getElem?_eq_none (by simpa using hj)] at hu
      cases hu
  · intro j z u hz hu
    rw [List.getElem?_map] at hu
    by_cases hj : j < n
    · rw [List.getElem?_range hj] at hu
      injection hu with hu
      subst hu
      have e : c[j]'(by omega) = z := by
        have := List.getElem?_eq_getElem (l := c) (i := j) (by omega)
        rw [this] at hz
        injection hz
      rw [← e]
      exact (hf' j hj).2
    · rw [List.getElem?_eq_none (by simpa using hj)] at hu
      cases hu
/-- A load. -/
def loadA (ti : TI) (c : List AV) : Option AV :=
  if ti.agg then (if ti.size ≤ c.length then some (.ag (c.take ti.size)) else none) else c.head?
theorem load_reads {k : KW} {w : World} {a : Addr} {c : List AV} (h : Reads k w a c) {t : TypeId} {ti : TI} (ht : tiOf P t = some ti) {z : AV} (hz : loadA ti c = some z) :
    ∃ u, (loadVar t a).run P w = .ok u w ∧ Rel k z u := by
  unfold loadA at hz
  unfold loadVar
  split at hz
  · rename_i hg
    split at hz
    · rename_i hs
      injection hz with hz
      subst hz
      obtain ⟨us, hl, hr, hq, hrel⟩ := loadCells_reads (P := P) h hs
      refine ⟨.agg us.toArray, ?_, ?_⟩
      · simp only [Sem.run_bind, run_isAgg ht, hg, Result.andThen_ok, if_true, run_sizeOf ht, hr, Sem.run_pure]
      · refine .ag _ us (by simp [hl]; omega) fun j z u hz hu => ?_
        rw [List.getElem?_take] at hz
        split at hz
        · exact hrel j z u hz hu
        · cases hz
    · cases hz
  · rename_i hg
    obtain ⟨u, h1, h2⟩ := h 0 z (by rw [← hz]; cases c <;> rfl)
    have e : a.add 0 = a := by simp [Addr.add]
    rw [e] at h1
    refine ⟨u, ?_, h2⟩
    simp only [Sem.run_bind, run_isAgg ht, hg, Result.andThen_ok, Bool.false_eq_true, if_false]
    rw [run_load, h1]
end Go.Proofs.YtppmamcoehhopaaDoor.Ax
