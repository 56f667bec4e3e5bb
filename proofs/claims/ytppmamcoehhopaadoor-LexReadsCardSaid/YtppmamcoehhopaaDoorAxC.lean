/- The abstract machine, part C: the operations that read, make and write memory. -/
import Derived.Test.YtppmamcoehhopaaDoorAxB
import Derived.Deep.AppendSrc
set_option linter.unusedVariables false
set_option linter.unusedSimpArgs false
namespace Go.Proofs.YtppmamcoehhopaaDoor.Ax
open Go Go.RowKit
variable {P : Program}

/-- An operation gives an abstract value and an abstract memory. -/
def Gives (P : Program) (w0 : World) (k : KW) (m : Sem Next) (w : World) (z : AV) (s' : St) : Prop :=
  ∃ n w' k', m.run P w = .ok n w' ∧ (match n with | .value v => Rel k' z v | .skip => z = .no | _ => False) ∧ Sim w0 k' w' s' ∧ KW.le k.m k k'
/-- The same of an operation that gives a value. -/
def GivesV (P : Program) (w0 : World) (k : KW) (m : Sem Value) (w : World) (z : AV) (s' : St) : Prop :=
  ∃ v w' k', m.run P w = .ok v w' ∧ Rel k' z v ∧ Sim w0 k' w' s' ∧ KW.le k.m k k'
theorem GivesV.gives {w0 : World} {k : KW} {m : Sem Value} {w : World} {z : AV} {s' : St} (h : GivesV P w0 k m w z s') : Gives P w0 k (do pure (.value (← m))) w z s' := by
  obtain ⟨v, w', k', h1, h2, h3, h4⟩ := h
  exact ⟨.value v, w', k', by simp only [Sem.run_bind, h1, Result.andThen_ok, Sem.run_pure], h2, h3, h4⟩
theorem GivesV.pure {w0 : World} {k : KW} {m : Sem Value} {w : World} {z : AV} {s : St} {v : Value} (hs : Sim w0 k w s) (h : m.run P w = .ok v w) (hr : Rel k z v) : GivesV P w0 k m w z s :=
  ⟨v, w, k, h, hr, hs, KW.le_refl (Nat.le_refl _)⟩

def AV.boxable : AV → Bool
  | .ag _ => true
  | z => z.one
theorem Rel.cells {k : KW} {z : AV} {u : Value} (h : Rel k z u) (h1 : z.boxable = true) : ∃ us : List Value, u.cells = us.toArray ∧ us.length = z.cells.length ∧ ∀ (j : Nat) (y : AV) (x : Value), z.cells[j]? = some y → us[j]? = some x → Rel k y x := by
  have single : z.one = true → z.cells = [z] → ∃ us : List Value, u.cells = us.toArray ∧ us.length = z.cells.length ∧ ∀ (j : Nat) (y : AV) (x : Value), z.cells[j]? = some y → us[j]? = some x → Rel k y x := by
    intro ho hc
    refine ⟨[u], (h.one ho).2, by rw [hc]; rfl, fun j y x hy hx => ?_⟩
    rw [hc] at hy
    match j with
    | 0 =>
      simp at hy hx
      subst hy hx
      exact h
    | j + 1 => simp at hy
  cases z with
  | ag c =>
    cases h with
    | ag _ us hl hr => exact ⟨us, rfl, hl, hr⟩
  | v => exact single h1 rfl
  | sl => exact single h1 rfl
  | rf => exact single h1 rfl
  | own => exact single h1 rfl
  | ptr => exact single h1 rfl
  | tp => cases h1
  | no => cases h1

theorem alloc_gives {w0 w : World} {k : KW} {s : St} (hs : Sim w0 k w s) {e : TypeId} {ti : TI} (he : tiOf P e = some ti) :
    GivesV P w0 k (Instr.alloc e true (.tuple #[])) w (.ptr s.nx 0) (s.push (ti.zero.map .v)) := by
  obtain ⟨d, i, z, hd, hi, hz, hsz, hb, hc, hk⟩ := ti_info he
  have h := hs.push ti.zero e (ti.zero.map .v) (by simp) (by
    intro j y u hy hu
    rw [List.getElem?_map, hu] at hy
    injection hy with hy
    subst hy
    exact .v u)
  refine ⟨.pointer (some ⟨w.heap.size, 0, none⟩), _, _, ?_, ?_, h, k.push_le _⟩
  · have e1 : z.cells = ti.zero.toArray := by rw [← hc]
    simp [Instr.alloc, zeroValue, typeInfo, program, Sem.run_bind, Sem.run, hi, hz, Result.andThen, newVar, newRow, newObj, e1]
  · have := Rel.ptr (k := k.push ⟨w.heap.size, 0, ti.zero.length⟩) k.m 0 (Nat.lt_succ_self _)
    rw [KW.push_same] at this
    rw [← hs.m]
    exact this
theorem box_gives {w0 w : World} {k : KW} {s : St} (hs : Sim w0 k w s) {e : TypeId} {z : AV} {u : Value} (hu : Rel k z u) (hb : z.boxable = true) :
    GivesV P w0 k (Instr.box e u) w (.ptr s.nx 0) (s.push z.cells) := by
  obtain ⟨us, h1, h2, h3⟩ := hu.cells hb
  have h := hs.push us e z.cells (by omega) h3
  refine ⟨.pointer (some ⟨w.heap.size, 0, none⟩), _, _, ?_, ?_, h, k.push_le _⟩
  · simp [Instr.box, newVar, newRow, newObj, Sem.run_bind, Sem.run, Result.andThen, h1]
  · have := Rel.ptr (k := k.push ⟨w.heap.size, 0, us.length⟩) k.m 0 (Nat.lt_succ_self _)
    rw [KW.push_same] at this
    rw [← hs.m]
    exact this

/-- A load through what is at hand. -/
def xload (P : Program) (s : St) (t : TypeId) (x : AV) : Option AV :=
  match tiOf P t with
  | none => none
  | some ti => match x with
    | .rf c => loadA ti c
    | .ptr id off => match s.get id with
      | some c => loadA ti (c.drop off)
      | none => none
    | _ => none
theorem load_gives {w0 w : World} {k : KW} {s : St} (hs : Sim w0 k w s) {t : TypeId} {x z : AV} {u : Value} (hu : Rel k x u) (h : xload P s t x = some z) :
    GivesV P w0 k (Instr.loadAt t u) w z s := by
  unfold xload at h
  split at h
  · cases h
  · rename_i ti ht
    split at h
    · obtain ⟨a, rfl, hr⟩ := reads_rf hs hu
      obtain ⟨v, h1, h2⟩ := load_reads hr ht h
      exact .pure hs (by simp only [Instr.loadAt, Instr.sureAddr, Sem.run_bind, Sem.run_pure, Result.andThen_ok, h1]) h2
    · split at h
      · rename_i c hc
        obtain ⟨a, rfl, _, hr⟩ := reads_ptr hs hc hu
        obtain ⟨v, h1, h2⟩ := load_reads hr ht h
        exact .pure hs (by simp only [Instr.loadAt, Instr.sureAddr, Sem.run_bind, Sem.run_pure, Result.andThen_ok, h1]) h2
      · cases h
    · cases h

/-- Cells written from a place on. -/
def spl (c : List AV) : Nat → List AV → List AV
  | _, [] => c
  | n, z :: zs => spl (c.set n z) (n + 1) zs
theorem spl_length (zs : List AV) : ∀ (c : List AV) (n : Nat), (spl c n zs).length = c.length := by
  induction zs with
  | nil => intro c n; rfl
  | cons z zs ih => intro c n; rw [spl, ih, List.length_set]
theorem St.set_set (s : St) (i : Nat) (a b : List AV) : (s.set i a).set i b = s.set i b := by
  unfold St.set
  congr 1
  funext j
  by_cases h : j = i <;> simp [h]
theorem St.set_get (s : St) (i : Nat) (a : List AV) (h : s.get i = some a) : s.set i a = s := by
  unfold St.set
  cases s
  congr 1
  funext j
  by_cases e : j = i
  · subst e; simpa using h.symm
  · simp [e]
theorem storeCells_box (id off : Nat) (us : List Value) : ∀ (zs : List AV) (i : Nat) (w0 w : World) (k : KW) (s : St) (c : List AV), us.length = zs.length → (∀ (j : Nat) (u : Value), us[j]? = some u → u.oneCell' = true) →
    (∀ (j : Nat) (z : AV) (u : Value), zs[j]? = some z → us[j]? = some u → Rel k z u) → Sim w0 k w s → s.get id = some c → off + i + us.length ≤ c.length →
    ∃ w', (storeCells ((k.φ id).at off) us i).run P w = .ok () w' ∧ Sim w0 k w' (s.set id (spl c (off + i) zs)) := by
  induction us with
  | nil =>
    intro zs i w0 w k s c hl h1 hr hs hc hb
    have : zs = [] := List.eq_nil_of_length_eq_zero (by simpa using hl.symm)
    subst this
    exact ⟨w, rfl, by rw [spl, St.set_get _ _ _ hc]; exact hs⟩
  | cons u us ih =>
    intro zs i w0 w k s c hl h1 hr hs hc hb
    cases zs with
    | nil => cases hl
    | cons z zs =>
      simp only [List.length_cons] at hl hb
      have hw := hs.write hc (j := off + i) (by omega) (hr 0 z u rfl rfl)
      obtain ⟨w', r1, r2⟩ := ih zs (i + 1) w0 _ k (s.set id (c.set (off + i) z)) (c.set (off + i) z) (by omega) (fun j v hv => h1 (j + 1) v hv) (fun j y v hy hv => hr (j + 1) y v hy hv) hw (St.set_same _ _ _) (by rw [List.length_set]; omega)
      refine ⟨w', ?_, ?_⟩
      · obtain ⟨hbl, hbb⟩ := hs.box id c hc
        obtain ⟨x, g1, g2, g3, g4⟩ := hbb (off + i) (by omega)
        simp only [storeCells, Sem.run_bind, Rng.at_add]
        rw [run_store P w _ u _ (h1 0 u rfl), g1]
        simp only [g2, Bool.false_eq_true, if_false, Result.andThen_ok]
        exact r1
      · rw [St.set_set] at r2
        exact r2
/-- A store. -/
def xstore (P : Program) (s : St) (t : TypeId) (p x : AV) : Option St :=
  match p, tiOf P t with
  | .ptr id off, some ti => match s.get id with
    | some c => if x.cells.length = ti.size ∧ off + ti.size ≤ c.length ∧ x.cells.all AV.one = true then some (s.set id (spl c off x.cells)) else none
    | none => none
  | _, _ => none
theorem AV.boxable_of_all {z : AV} (h : z.cells.all AV.one = true) : z.boxable = true := by
  cases z <;> first | rfl | (simpa [AV.cells, AV.boxable] using h)
theorem store_gives {w0 w : World} {k : KW} {s s' : St} (hs : Sim w0 k w s) {t : TypeId} {p x : AV} {up ux : Value} (hp : Rel k p up) (hx : Rel k x ux) (h : xstore P s t p x = some s') :
    ∃ w', (Instr.storeAt t up ux).run P w = .ok () w' ∧ Sim w0 k w' s' := by
  unfold xstore at h
  split at h
  · rename_i id off ti ht
    split at h
    · rename_i c hc
      split at h
      · rename_i hh
        obtain ⟨e1, e2, e3⟩ := hh
        injection h with h
        subst h
        obtain ⟨a, rfl, rfl, _⟩ := reads_ptr hs hc hp
        obtain ⟨us, h1, h2, h3⟩ := hx.cells (AV.boxable_of_all e3)
        obtain ⟨w', r1, r2⟩ := storeCells_box (P := P) id off us x.cells 0 w0 w k s c h2 (by
          intro j u hu
          have hj := (List.getElem?_eq_some_iff.1 hu).1
          have hy : x.cells[j]? = some (x.cells[j]'(by omega)) := List.getElem?_eq_getElem _
          exact ((h3 j _ u hy hu).one (List.all_eq_true.1 e3 _ (List.getElem_mem _))).1) h3 hs hc (by omega)
        refine ⟨w', ?_, r2⟩
        simp only [Instr.storeAt, Instr.sureAddr, storeVar, Sem.run_bind, Sem.run_pure, Result.andThen_ok, run_sizeOf ht, h1]
        have : us.toArray.size = ti.size := by simp; omega
        simp only [this, ne_eq, not_true_eq_false, if_false, Sem.run_bind, Sem.run_pure, Result.andThen_ok]
        exact r1
      · cases h
    · cases h
  · cases h

/-- A field's address, an element's address. -/
def xfield (P : Program) (t : TypeId) (x : AV) (f : Nat) : Option AV :=
  match tiOf P t with
  | some ti => match ti.k with
    | .st fs => match fs[f]? with
      | some (off, ft) => match tiOf P ft with
        | some fi => if fi.size = 0 then none else match x with
          | .rf c => some (.rf (c.drop off))
          | .ptr id o => some (.ptr id (o + off))
          | .ag c => loadA fi (c.drop off)
          | _ => none
        | none => none
      | none => none
    | _ => none
  | none => none
theorem Rel.rf_drop {k : KW} {c : List AV} {a : Addr} (h : Rel k (.rf c) (.pointer (some a))) (n : Nat) : Rel k (.rf (c.drop n)) (.pointer (some (a.add n))) := by
  cases h with
  | rf _ _ us h1 h2 =>
    refine .rf _ _ (fun j => us (n + j)) (fun j hj => ?_) (fun j z hz => ?_)
    · rw [Addr.add_add]
      exact h1 (n + j) (by rw [List.length_drop] at hj; omega)
    · rw [List.getElem?_drop] at hz
      exact h2 _ _ hz
theorem Rel.ptr_add {k : KW} {id off : Nat} {a : Addr} (h : Rel k (.ptr id off) (.pointer (some a))) (n : Nat) : Rel k (.ptr id (off + n)) (.pointer (some (a.add n))) := by
  cases h with
  | ptr _ _ hi =>
    rw [Rng.at_add]
    exact .ptr _ _ hi
theorem field_st {t : TypeId} {ti : TI} {fs : List (Nat × TypeId)} {f off : Nat} {ft : TypeId} (ht : tiOf P t = some ti) (hk : ti.k = .st fs) (hf : fs[f]? = some (off, ft)) :
    ∃ gs g, P.underlying t = some (.struct gs) ∧ gs[f]? = some g ∧ g.offset = off ∧ g.type = ft := by
  obtain ⟨d, i, z, hd, hi, hz, hsz, hb, hc, hk2⟩ := ti_info ht
  rw [hk] at hk2
  obtain ⟨gs, h1, h2⟩ := kind_st hk2.symm
  subst h2
  rw [List.getElem?_map] at hf
  cases hg : gs.toList[f]? with
  | none => rw [hg] at hf; cases hf
  | some g =>
    rw [hg] at hf
    injection hf with hf
    injection hf with hf1 hf2
    exact ⟨gs, g, h1, by simpa using hg, hf1, hf2⟩
theorem fieldAt_gives {w0 w : World} {k : KW} {s : St} (hs : Sim w0 k w s) {t : TypeId} {f : Nat} {x z : AV} {u : Value} (hu : Rel k x u) (hx : ∀ c, x ≠ .ag c) (h : xfield P t x f = some z) :
    GivesV P w0 k (Instr.fieldAt t u f) w z s := by
  unfold xfield at h
  split at h
  · rename_i ti ht
    split at h
    · rename_i fs hk
      split at h
      · rename_i off ft hf
        split at h
        · rename_i fi hfi
          split at h
          · cases h
          · rename_i hz
            obtain ⟨gs, g, h1, h2, rfl, rfl⟩ := field_st ht hk hf
            have run : ∀ a, (Instr.fieldAt t (.pointer (some a)) f).run P w = .ok (.pointer (some (a.add g.offset))) w := by
              intro a
              simp [Instr.fieldAt, run_underlying h1, h2, Instr.sureAddr, fieldPlace, run_sizeOf hfi, hz, Sem.run_bind]
            split at h
            · injection h with h
              subst h
              obtain ⟨a, rfl, _⟩ := reads_rf hs hu
              exact .pure hs (run a) (hu.rf_drop _)
            · injection h with h
              subst h
              cases hu with
              | ptr _ _ hi => exact .pure hs (run _) ((Rel.ptr _ _ hi).ptr_add _)
            · exact absurd rfl (hx _)
            · cases h
        · cases h
      · cases h
    · cases h
  · cases h
end Go.Proofs.YtppmamcoehhopaaDoor.Ax
