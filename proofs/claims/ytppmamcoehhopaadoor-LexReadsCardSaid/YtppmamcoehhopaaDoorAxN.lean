/- The abstract machine, part N: walking a region that draws its order. -/
import Derived.Test.YtppmamcoehhopaaDoorAxM
set_option linter.unusedVariables false
set_option linter.unusedSimpArgs false
namespace Go.Proofs.YtppmamcoehhopaaDoor.Ax
open Go Go.RowKit
variable {P : Program}

/-- May this operation come first, whatever else the region does, if the boxes that are held stay? -/
def tk (held : List Nat) (e : Env) : Op → Prop
  | .load _ x => match e.ev x with | .ptr id _ => id ∈ held | _ => True
  | .convert _ _ x => match e.ev x with | .own .. => False | _ => True
  | .move _ | .assign _ | .pick .. | .build .. | .nilCheck _ | .binOp .. | .unOp .. | .slice .. | .fieldAddr .. | .field .. | .indexAddr .. | .index .. | .extract .. | .makeInterface .. => True
  | .call c => match c.callee with | .builtin .len | .builtin .min | .builtin .max => True | _ => False
  | _ => False
theorem map_st {x : Option AV} {s s1 : St} {z : AV} (h : x.map (·, s) = some (z, s1)) : s1 = s ∧ ∀ s' : St, x.map (·, s') = some (z, s') := by
  cases x with
  | none => cases h
  | some y =>
    injection h with h
    injection h with h1 h2
    subst h1 h2
    exact ⟨rfl, fun s' => rfl⟩
theorem conv_st {s s' : St} {a b : TypeId} {x : AV} (h : ∀ id off n sz, x ≠ .own id off n sz) : xconv P s' a b x = xconv P s a b x := by
  unfold xconv
  cases tiOf P b with
  | none => rfl
  | some td =>
    cases tiOf P a with
    | none => rfl
    | some ts =>
      simp only
      generalize td.k = u
      generalize ts.k = v
      cases x with
      | own id off n sz => exact absurd rfl (h _ _ _ _)
      | v y => cases u <;> cases v <;> first | rfl | (cases y <;> rfl)
      | _ => cases u <;> cases v <;> rfl
theorem tk_op {held : List Nat} {e : Env} {s s1 : St} {op : Op} {z : AV} (ht : tk held e op) (h : xop P e s op = some (z, s1)) : s1 = s ∧ ∀ s', heldEq s held s' → xop P e s' op = some (z, s') := by
  have mem : ∀ (l : List Nat) (s' : St) (id : Nat), heldEq s l s' → id ∈ l → s'.get id = s.get id := by
    intro l
    induction l with
    | nil => intro s' id _ hm; cases hm
    | cons i l ih =>
      intro s' id hh hm
      rcases List.mem_cons.1 hm with rfl | hm
      · exact hh.1
      · exact ih s' id hh.2 hm
  cases op <;> simp only [tk] at ht <;> simp only [xop] at h ⊢
  case move x => injection h with h; injection h with h1 h2; subst h1 h2; exact ⟨rfl, fun s' _ => rfl⟩
  case assign x => injection h with h; injection h with h1 h2; subst h1 h2; exact ⟨rfl, fun s' _ => rfl⟩
  case pick c x y =>
    split at h
    · injection h with h; injection h with h1 h2; subst h1 h2; exact ⟨rfl, fun s' _ => by simp⟩
    · cases h
  case build t ps =>
    split at h
    · split at h
      · split at h
        · split at h
          · injection h with h; injection h with h1 h2; subst h1 h2
            refine ⟨rfl, fun s' _ => ?_⟩
            simp_all
          · cases h
        · cases h
      · cases h
    · cases h
  case load t x =>
    refine ⟨(map_st h).1, fun s' hh => ?_⟩
    have : xload P s' t (e.ev x) = xload P s t (e.ev x) := by
      unfold xload
      cases tiOf P t with
      | none => rfl
      | some ti =>
        simp only
        split
        · rfl
        · rename_i id off he
          rw [he] at ht
          simp only [mem held s' id hh ht]
        · rfl
    rw [this]
    exact (map_st h).2 s'
  case nilCheck x =>
    split at h
    · injection h with h; injection h with h1 h2; subst h1 h2; exact ⟨rfl, fun s' _ => by simp⟩
    · injection h with h; injection h with h1 h2; subst h1 h2; exact ⟨rfl, fun s' _ => by simp⟩
    · cases h
  case binOp op t x y u =>
    cases hx : xbin P op t (isK x) (isK y) (e.ev x) (e.ev y) with
    | none => rw [hx] at h; cases h
    | some v => rw [hx] at h; injection h with h; injection h with h1 h2; subst h1 h2; exact ⟨rfl, fun s' _ => rfl⟩
  case unOp op t x => exact ⟨(map_st h).1, fun s' _ => (map_st h).2 s'⟩
  case convert a b x =>
    refine ⟨(map_st h).1, fun s' _ => ?_⟩
    rw [conv_st (s := s) (s' := s') (fun id off n sz he => by rw [he] at ht; exact ht)]
    exact (map_st h).2 s'
  case slice t x lo hi mx =>
    cases mx with
    | none => exact ⟨(map_st h).1, fun s' _ => (map_st h).2 s'⟩
    | some m => cases h
  case fieldAddr t x f =>
    split at h
    · cases h
    · exact ⟨(map_st h).1, fun s' _ => (map_st h).2 s'⟩
  case field t x f =>
    split at h
    · rename_i c hc
      exact ⟨(map_st h).1, fun s' _ => (map_st h).2 s'⟩
    · cases h
  case indexAddr t x i => exact ⟨(map_st h).1, fun s' _ => (map_st h).2 s'⟩
  case index t x i => exact ⟨(map_st h).1, fun s' _ => (map_st h).2 s'⟩
  case extract x i =>
    split at h
    · exact ⟨(map_st h).1, fun s' _ => (map_st h).2 s'⟩
    · cases h
  case makeInterface t x =>
    split at h
    · split at h
      · cases h
      · injection h with h; injection h with h1 h2; subst h1 h2
        refine ⟨rfl, fun s' _ => ?_⟩
        simp_all
    · cases h
  case call c =>
    split at ht
    all_goals first | exact ht.elim | skip
    all_goals
      rename_i hc
      rw [hc] at h ⊢
      simp only at h ⊢
      unfold xbuiltin at h ⊢
      split at h
      all_goals first
        | exact ⟨(map_st h).1, fun s' _ => (map_st h).2 s'⟩
        | (rename_i e1 _ _; cases e1)
        | cases h
theorem tk_callee {held : List Nat} {e : Env} {op : Op} (ht : tk held e op) : calleeOf e op = none := by
  cases op <;> simp only [tk] at ht <;> simp only [calleeOf]
  case call c =>
    split at ht
    all_goals first | exact ht.elim | skip
    all_goals
      rename_i hc
      rw [hc]
/-- The plan, walked as a region is. -/
def xpl (P : Program) (ops : Array Oper) (held : List Nat) (K : Env → St → Prop) : Plan → Env → St → Prop
  | .done, e, s => K e s
  | .take i p, e, s => match ops[i]? with
    | none => False
    | some o => (∀ g, xguard ops o e = some g → g = true → tk held e o.op) ∧ xgo P ops o e s (xpl P ops held K p)
  | .one i p, e, s => match ops[i]? with
    | none => False
    | some o => xgo P ops o e s fun e' s' => heldEq s held s' ∧ xpl P ops held K p e' s'
  | .two i p j q, e, s => match ops[i]?, ops[j]? with
    | some o, some o' => (xgo P ops o e s fun e' s' => heldEq s held s' ∧ xpl P ops held K p e' s') ∧ xgo P ops o' e s fun e' s' => heldEq s held s' ∧ xpl P ops held K q e' s'
    | _, _ => False
theorem heldEq_trans {a b c : St} {l : List Nat} (h : heldEq a l b) (g : heldEq b l c) : heldEq a l c := by
  induction l with
  | nil => trivial
  | cons i l ih => exact ⟨g.1.trans h.1, ih h.2 g.2⟩
theorem heldEq_symm {a b : St} {l : List Nat} (h : heldEq a l b) : heldEq b l a := by
  induction l with
  | nil => trivial
  | cons i l ih => exact ⟨h.1.symm, ih h.2⟩
theorem xpl_plan {ops : Array Oper} {s0 : St} {held : List Nat} {K : Env → St → Prop} (p : Plan) : ∀ (e : Env) (s : St), heldEq s0 held s → xpl P ops held K p e s → xplan P ops s0 held K p e s := by
  induction p with
  | done => exact fun e s hh h => h
  | take i p ih =>
    intro e s hh h
    unfold xpl at h
    unfold xplan
    split at h
    · exact h.elim
    · rename_i o ho
      try rw [ho]
      obtain ⟨ht, h⟩ := h
      unfold xgo at h
      try simp only
      cases hg : xguard ops o e with
      | none => rw [hg] at h; exact h.elim
      | some g =>
        rw [hg] at h
        cases g with
        | true =>
          have htk := ht true hg rfl
          obtain ⟨hd, h2⟩ := h.1 rfl
          clear h
          rw [tk_callee htk] at h2
          simp only at h2
          split at h2
          · rename_i z s1 hx
            obtain ⟨rfl, hall⟩ := tk_op htk hx
            have hv : tval P ops o e s1 = z := by unfold tval; rw [hg]; simp only [hx]
            rw [hv]
            refine ⟨fun s' hs' => .inl ⟨hg, tk_callee htk, hall s' (heldEq_trans (heldEq_symm hh) hs')⟩, hd, ih _ _ hh h2⟩
          · exact h2.elim
        | false =>
          obtain ⟨hd, h⟩ := h.2 rfl
          have hv : tval P ops o e s = .v undef := by unfold tval; rw [hg]
          rw [hv]
          exact ⟨fun s' _ => .inr ⟨hg, rfl⟩, hd, ih _ _ hh h⟩
  | one i p ih =>
    intro e s hh h
    unfold xpl at h
    unfold xplan
    split at h
    · exact h.elim
    · rename_i o ho
      try rw [ho]
      exact xgo_mono h fun e' s' ⟨q1, q2⟩ => ⟨heldEq_trans hh q1, ih _ _ (heldEq_trans hh q1) q2⟩
  | two i p j q ihp ihq =>
    intro e s hh h
    unfold xpl at h
    unfold xplan
    split at h
    · rename_i o o' ho ho'
      try rw [ho, ho']
      exact ⟨xgo_mono h.1 fun e' s' ⟨q1, q2⟩ => ⟨heldEq_trans hh q1, ihp _ _ (heldEq_trans hh q1) q2⟩, xgo_mono h.2 fun e' s' ⟨q1, q2⟩ => ⟨heldEq_trans hh q1, ihq _ _ (heldEq_trans hh q1) q2⟩⟩
    · exact h.elim
theorem aw_drw {id : Nat} {l : List Oper} {m0 : Nat} {e : Env} {s : St} {Q : Exit → Env → St → Prop} (p : Plan) (held : List Nat) (hm : P.follows .mixedOrders = true) (hp : planOk l.toArray p l.toArray.size (Array.replicate l.toArray.size false) = true)
    (h : ∀ K : Env → St → Prop, (∀ e s, Q .normal e s → K e s) → xpl P l.toArray held K p (e.put none .no) s) : AW P (.region id l.toArray true) m0 e s Q :=
  aw_draw p held hm hp (xpl_plan p _ s (heldEq_refl s held) (h _ fun _ _ h => h))
/-- Continuations by name, and the rows. -/
def PK (P : Program) (ops : Array Oper) (held : List Nat) (K : Env → St → Prop) (p : Plan) (e : Env) (s : St) : Prop := xpl P ops held K p e s
def PH (P : Program) (ops : Array Oper) (held : List Nat) (K : Env → St → Prop) (p : Plan) (s : St) (e' : Env) (s' : St) : Prop := heldEq s held s' ∧ xpl P ops held K p e' s'
def PT (P : Program) (ops : Array Oper) (held : List Nat) (K : Env → St → Prop) (p : Plan) (e : Env) (s : St) (o : Oper) : Prop := (∀ g, xguard ops o e = some g → g = true → tk held e o.op) ∧ xgo P ops o e s (PK P ops held K p)
def PO (P : Program) (ops : Array Oper) (held : List Nat) (K : Env → St → Prop) (p : Plan) (e : Env) (s : St) (o : Oper) : Prop := xgo P ops o e s (PH P ops held K p s)
/-- A guard's word on what may come first. -/
def GT (ops : Array Oper) (o : Oper) (e : Env) (held : List Nat) (b : Bool) : Prop := b = true → tk held e o.op
section
variable (ops : Array Oper) (held : List Nat) (K : Env → St → Prop) (p q : Plan) (d : Option Nat) (z : AV) (e : Env) (s : St) (i j : Nat) (op : Op) (ty : TypeId) (pos : String) (af : Array Edge) (g : Option (Nat × Bool))
theorem pl_done : xpl P ops held K .done (e.put d z) s = K (e.put d z) s := rfl
theorem pl_take : xpl P ops held K (.take i p) (e.put d z) s = onO (ops[i]?) (PT P ops held K p (e.put d z) s) := by
  unfold onO
  rw [xpl]
  cases ops[i]? <;> rfl
theorem pl_one : xpl P ops held K (.one i p) (e.put d z) s = onO (ops[i]?) (PO P ops held K p (e.put d z) s) := by
  unfold onO
  rw [xpl]
  cases ops[i]? <;> rfl
theorem pl_two : xpl P ops held K (.two i p j q) (e.put d z) s = (onO (ops[i]?) (PO P ops held K p (e.put d z) s) ∧ onO (ops[j]?) (PO P ops held K q (e.put d z) s)) := by
  unfold onO
  rw [xpl]
  cases ops[i]? <;> cases ops[j]? <;> first | rfl | simp
theorem pk_go : PK P ops held K p (e.put d z) s = xpl P ops held K p (e.put d z) s := rfl
theorem ph_go (s' : St) : PH P ops held K p s (e.put d z) s' = (heldEq s held s' ∧ xpl P ops held K p (e.put d z) s') := rfl
theorem po_go : PO P ops held K p e s ⟨d, op, ty, pos, af, g⟩ = xgo P ops ⟨d, op, ty, pos, af, g⟩ e s (PH P ops held K p s) := rfl
theorem pt_plain : PT P ops held K p e s ⟨d, op, ty, pos, af, none⟩ = (tk held e op ∧ xgo P ops ⟨d, op, ty, pos, af, none⟩ e s (PK P ops held K p)) := by
  unfold PT xguard
  simp
theorem pt_guard (w : Bool) : PT P ops held K p e s ⟨d, op, ty, pos, af, some (j, w)⟩ = (onO (gval ((ops[j]?).bind (·.dst)) e w) (GT ops ⟨d, op, ty, pos, af, some (j, w)⟩ e held) ∧ xgo P ops ⟨d, op, ty, pos, af, some (j, w)⟩ e s (PK P ops held K p)) := by
  unfold PT onO GT
  have hx : xguard ops ⟨d, op, ty, pos, af, some (j, w)⟩ e = gval ((ops[j]?).bind (·.dst)) e w := rfl
  rw [hx]
  generalize hq : gval ((ops[j]?).bind (·.dst)) e w = r
  cases r with
  | none =>
    have : xgo P ops ⟨d, op, ty, pos, af, some (j, w)⟩ e s (PK P ops held K p) = False := by
      unfold xgo
      rw [hx, hq]
    rw [this]
    simp
  | some b => simp
theorem gt_true : GT ops ⟨d, op, ty, pos, af, g⟩ e held true = tk held e op := by unfold GT; simp
theorem gt_false (o : Oper) : GT ops o e held false = True := by unfold GT; simp
end
theorem held_nil (s s' : St) : heldEq s [] s' = True := rfl
theorem held_cons (s s' : St) (i : Nat) (l : List Nat) : heldEq s (i :: l) s' = (s'.get i = s.get i ∧ heldEq s l s') := rfl
theorem drows (P : Program) :
    (∀ ops held K d z e s, xpl P ops held K .done (Env.put e d z) s = K (e.put d z) s) ∧
    (∀ ops held K p d z e s i, xpl P ops held K (.take i p) (Env.put e d z) s = onO (ops[i]?) (PT P ops held K p (e.put d z) s)) ∧
    (∀ ops held K p d z e s i, xpl P ops held K (.one i p) (Env.put e d z) s = onO (ops[i]?) (PO P ops held K p (e.put d z) s)) ∧
    (∀ ops held K p q d z e s i j, xpl P ops held K (.two i p j q) (Env.put e d z) s = (onO (ops[i]?) (PO P ops held K p (e.put d z) s) ∧ onO (ops[j]?) (PO P ops held K q (e.put d z) s))) ∧
    (∀ ops held K p d z e s, PK P ops held K p (Env.put e d z) s = xpl P ops held K p (e.put d z) s) ∧
    (∀ ops held K p d z e s s', PH P ops held K p s (Env.put e d z) s' = (heldEq s held s' ∧ xpl P ops held K p (e.put d z) s')) ∧
    (∀ ops held K p d e s op ty pos af g, PO P ops held K p e s ⟨d, op, ty, pos, af, g⟩ = xgo P ops ⟨d, op, ty, pos, af, g⟩ e s (PH P ops held K p s)) ∧
    (∀ ops held K p d e s op ty pos af, PT P ops held K p e s ⟨d, op, ty, pos, af, none⟩ = (tk held e op ∧ xgo P ops ⟨d, op, ty, pos, af, none⟩ e s (PK P ops held K p))) ∧
    (∀ ops held K p d e s j op ty pos af w, PT P ops held K p e s ⟨d, op, ty, pos, af, some (j, w)⟩ = (onO (gval ((ops[j]?).bind (·.dst)) e w) (GT ops ⟨d, op, ty, pos, af, some (j, w)⟩ e held) ∧ xgo P ops ⟨d, op, ty, pos, af, some (j, w)⟩ e s (PK P ops held K p))) ∧
    (∀ ops held d e op ty pos af g, GT ops ⟨d, op, ty, pos, af, g⟩ e held true = tk held e op) ∧
    (∀ ops held e o, GT ops o e held false = True) :=
  ⟨by intros; apply pl_done, by intros; apply pl_take, by intros; apply pl_one, by intros; apply pl_two, by intros; apply pk_go, by intros; apply ph_go, by intros; apply po_go, by intros; apply pt_plain, by intros; apply pt_guard, by intros; apply gt_true, by intros; apply gt_false⟩
theorem mapM_nil_o {α β : Type} (f : α → Option β) : List.mapM f [] = some [] := rfl
theorem mapM_cons_o {α β : Type} (f : α → Option β) (a : α) (l : List α) : List.mapM f (a :: l) = (f a).bind fun b => Option.map (fun c => b :: c) (List.mapM f l) := by
  rw [List.mapM_cons]
  cases f a <;> cases List.mapM f l <;> rfl
/-- A box laid down; what the slots then hold is told by rows. -/
theorem aw_freeze2 {P : Program} {code : Code} {m0 : Nat} {e : Env} {s : St} {Q : Exit → Env → St → Prop} (i : Nat) (c : List AV) (hi : s.get i = some c) (g : Nat → Bool)
    (h : ∀ e' s', e'.n = e.n → (∀ t, e'.m t = frz i c (e.m t)) → s'.nx = s.nx → (∀ j, s'.get j = if j = i then none else if g j = true then (s.get j).map (frz.frzL i c) else s.get j) → AW P code m0 e' s' Q) : AW P code m0 e s Q :=
  aw_freeze i c hi g (h _ _ rfl (fun _ => rfl) rfl fun _ => rfl)
/-- A slot read more loosely. -/
theorem aw_slot {P : Program} {code : Code} {m0 : Nat} {e : Env} {s : St} {Q : Exit → Env → St → Prop} (t : Nat) (z z' : AV) (hz : e.m t = z) (hl : Le z z') (ht : dstOk (some t) e.n = true) (h : AW P code m0 (e.put (some t) z') s Q) : AW P code m0 e s Q := by
  intro w0 kb k w a hk hs he
  refine h w0 kb k w a hk hs ⟨he.d, he.n, fun t' => ?_⟩
  show Rel _ (if t = t' then z' else e.m t') _
  by_cases e' : t = t'
  · subst e'
    rw [if_pos rfl]
    have hr := he.r t
    rw [hz] at hr
    exact hl _ _ hr
  · rw [if_neg e']
    exact he.r t'
end Go.Proofs.YtppmamcoehhopaaDoor.Ax
