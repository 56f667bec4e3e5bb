/- The abstract machine, part P: a region that draws its order, of which the last operations come in one order: the boxes need stay only until the first of them. -/
import Derived.Test.YtppmamcoehhopaaDoorAxO
set_option linter.unusedVariables false
set_option linter.unusedSimpArgs false
namespace Go.Proofs.YtppmamcoehhopaaDoor.Ax
open Go Go.RowKit
variable {P : Program}

def Closed (ops : Array Oper) (listed : Array Bool) : Prop := ∀ j o, ops[j]? = some o → listed.getD j false = true → ∀ x ∈ o.after, Region.binds .any x = true → listed.getD x.on false = true
theorem closed_none (ops : Array Oper) (n : Nat) : Closed ops (Array.replicate n false) := fun j o _ h => by
  exfalso
  rw [Array.getD_eq_getD_getElem?, Array.getElem?_replicate] at h
  split at h <;> cases h
theorem closed_set {ops : Array Oper} {listed : Array Bool} {i : Nat} (h : Closed ops listed) (hi : i ∈ Region.ready .any ops listed) : Closed ops (listed.setIfInBounds i true) := by
  intro j o ho hj x hx hb
  by_cases hij : i = j
  · subst hij
    obtain ⟨_, o', ho', hall⟩ := mem_ready.1 hi
    rw [ho] at ho'
    injection ho' with ho'
    subst ho'
    exact getD_set_true (hall x hx hb)
  · rw [getD_set_ne false hij] at hj
    exact getD_set_true (h j o ho hj x hx hb)
/-- Must i have come before r? -/
def preB (ops : Array Oper) : Nat → Nat → Nat → Bool
  | 0, _, _ => false
  | n + 1, r, i => match ops[r]? with
    | some o => o.after.any fun x => Region.binds .any x && (x.on == i || preB ops n x.on i)
    | none => false
theorem pre_spec {ops : Array Oper} {listed : Array Bool} {i : Nat} (hc : Closed ops listed) (n : Nat) : ∀ r, preB ops n r i = true → listed.getD r false = true → listed.getD i false = true := by
  induction n with
  | zero => intro r h; cases h
  | succ n ih =>
    intro r h hr
    unfold preB at h
    cases ho : ops[r]? with
    | none => rw [ho] at h; cases h
    | some o =>
      rw [ho] at h
      obtain ⟨x, hx, hb⟩ := Array.any_eq_true'.1 h
      simp only [Bool.and_eq_true, Bool.or_eq_true, beq_iff_eq] at hb
      have hl := hc r o ho hr x hx hb.1
      rcases hb.2 with hb | hb
      · rw [← hb]; exact hl
      · exact ih x.on hb hl
/-- The boxes stay until r. -/
def HeldR (s0 : St) (held : List Nat) (r : Nat) (listed : Array Bool) (s : St) : Prop := listed.getD r false = false → heldEq s0 held s
def AnyR (P : Program) (ops : Array Oper) (s0 : St) (held : List Nat) (r : Nat) (K : Env → St → Prop) : Nat → Array Bool → Env → St → Prop
  | 0, listed, e, s => HeldR s0 held r listed s ∧ Region.ready .any ops listed = [] ∧ K e s
  | n + 1, listed, e, s => HeldR s0 held r listed s ∧ (Region.ready .any ops listed = [] → K e s) ∧ ∀ i ∈ Region.ready .any ops listed, ∃ o, ops[i]? = some o ∧ xgo P ops o e s (AnyR P ops s0 held r K n (listed.setIfInBounds i true))
section
variable {ops : Array Oper} {s0 : St} {held : List Nat} {r : Nat} {K : Env → St → Prop}
theorem AnyR.heldR {n : Nat} {listed : Array Bool} {e : Env} {s : St} (h : AnyR P ops s0 held r K n listed e s) : HeldR s0 held r listed s := by cases n <;> exact h.1
theorem AnyR.sound {m0 : Nat} {Q : Exit → Env → St → Prop} (n : Nat) : ∀ {listed : Array Bool} {e : Env} {s : St}, AnyR P ops s0 held r (Q .normal) n listed e s → ∀ {w0 w : World} {kb k : KW} {a : Act}, KW.le m0 kb k → Sim w0 k w s → EnvRel k e a →
    wpAny P .any ops (APost m0 w0 kb Q) n listed a w := by
  induction n with
  | zero => exact fun h w0 w kb k a hk hs he => ⟨h.2.1, _, _, k, h.2.2, hk, hs, he⟩
  | succ n ih =>
    intro listed e s h w0 w kb k a hk hs he
    obtain ⟨_, h0, h1⟩ := h
    refine ⟨fun hr => ⟨_, _, k, h0 hr, hk, hs, he⟩, fun i hi => ?_⟩
    obtain ⟨o, ho, hx⟩ := h1 i hi
    unfold wpOp
    try rw [ho]
    simp only
    unfold xgo at hx
    split at hx
    · rename_i g hg
      have hw := xguard_sound hg he
      cases g with
      | true =>
        rw [if_pos hw]
        exact .inl (xstep_sound (hx.1 rfl) hk hs he fun e' s' k' a' w' q1 q2 q3 q4 => ih q1 q2 q3 q4)
      | false =>
        rw [if_neg (by rw [hw]; simp)]
        obtain ⟨hd, hx⟩ := hx.2 rfl
        exact ih hx hk hs (he.put hd (.v _))
    · exact hx.elim
theorem AnyR.take {i : Nat} {oi : Oper} {z : AV} (hi : ops[i]? = some oi) (hir : i ≠ r) (hpre : preB ops ops.size r i = true) (n : Nat) : ∀ (listed : Array Bool) (e : Env) (s : St), Closed ops listed →
    (∀ (j : Nat) (oj : Oper), ops[j]? = some oj → j ≠ i → listed.getD j true = false → (∀ x ∈ oj.after, Region.binds .any x = true → x.on ≠ i) → oi.apart ops oj = true) →
    i ∈ Region.ready .any ops listed → (∀ s, heldEq s0 held s → Takes P ops oi e s z) → dstOk oi.dst e.n = true →
    AnyR P ops s0 held r K n (listed.setIfInBounds i true) (e.put oi.dst z) s → AnyR P ops s0 held r K (n + 1) listed e s := by
  have hlt : i < ops.size := (Array.getElem?_eq_some_iff.1 hi).1
  have key : ∀ (listed : Array Bool) (s : St), Closed ops listed → i ∈ Region.ready .any ops listed → HeldR s0 held r (listed.setIfInBounds i true) s → heldEq s0 held s ∧ HeldR s0 held r listed s := by
    intro listed s hc hr hh
    have hi0 : listed.getD i false ≠ true := fun h => by
      have := (mem_ready.1 hr).1
      by_cases hl : i < listed.size
      · simp [hl] at this h
        rw [this] at h
        cases h
      · simp [Nat.le_of_not_lt hl] at this
    have hr0 : listed.getD r false = false := by
      cases hq : listed.getD r false with
      | false => rfl
      | true => exact absurd (pre_spec hc _ r hpre hq) hi0
    have h1 : heldEq s0 held s := hh (by rw [getD_set_ne false hir]; exact hr0)
    exact ⟨h1, fun _ => h1⟩
  induction n with
  | zero =>
    intro listed e s hc hap hr ht hd h
    obtain ⟨q1, q2⟩ := key listed s hc hr h.heldR
    refine ⟨q2, fun h0 => (by rw [h0] at hr; cases hr), fun j hj => ?_⟩
    by_cases hji : j = i
    · subst hji
      exact ⟨oi, hi, (ht s q1).go hd h⟩
    · have := ready_mono (md := .any) (ops := ops) hj hji
      rw [h.2.1] at this
      cases this
  | succ n ih =>
    intro listed e s hc hap hr ht hd h
    obtain ⟨q1, q2⟩ := key listed s hc hr h.heldR
    refine ⟨q2, fun h0 => (by rw [h0] at hr; cases hr), fun j hj => ?_⟩
    by_cases hji : j = i
    · subst hji
      exact ⟨oi, hi, (ht s q1).go hd h⟩
    · have hj' := ready_mono (md := .any) (ops := ops) hj hji
      obtain ⟨oj, hoj, hx⟩ := h.2.2 j hj'
      refine ⟨oj, hoj, ?_⟩
      have hjr := mem_ready.1 hj
      have hir := mem_ready.1 hr
      obtain ⟨hj0, oj2, hoj2, hjall⟩ := hjr
      rw [hoj] at hoj2
      injection hoj2 with hoj2
      subst hoj2
      have hapj := hap j oj hoj hji hj0 (fun x hx hb he => by
        have := hjall x hx hb
        rw [he] at this
        have h1 : listed.getD i true = false := hir.1
        by_cases hl : i < listed.size
        · simp [hl] at this h1
          rw [h1] at this
          cases this
        · simp [Nat.le_of_not_lt hl] at h1)
      refine xgo_mono (xgo_put hapj hx) fun e' s' ⟨hn, y, hy⟩ => ?_
      subst hy
      obtain ⟨_, _, h3⟩ := Oper.apart_spec hapj
      refine ih _ _ _ (closed_set hc hj) ?_ (ready_mono hr (Ne.symm hji)) (fun s hs => (ht s hs).put h3) (by rw [Env.put_n]; exact hd) ?_
      · intro q oq hoq hqi hq0 hqn
        exact hap q oq hoq hqi (by
          by_cases hqj : j = q
          · subst hqj
            by_cases hl : j < listed.size
            · simp [hl] at hq0
            · simp [Nat.le_of_not_lt hl] at hq0
          · rwa [getD_set_ne true hqj] at hq0) hqn
      · rw [Array.setIfInBounds_comm _ _ hji]
        exact hn
end
/-- The last operations, one behind the other. -/
def tailOk (ops : Array Oper) : List Nat → Nat → Array Bool → Bool
  | [], _, listed => Region.ready .any ops listed == []
  | j :: tl, n + 1, listed => Region.ready .any ops listed == [j] && decide (j < listed.size) && tailOk ops tl n (listed.setIfInBounds j true)
  | _ :: _, 0, _ => false
def planOkR (ops : Array Oper) (r : Nat) (tl : List Nat) : Plan → Nat → Array Bool → Bool
  | .done, n, listed => tailOk ops (r :: tl) n listed
  | .take i p, n + 1, listed => (Region.ready .any ops listed).contains i && Region.free .any ops listed i && preB ops ops.size r i && i != r && planOkR ops r tl p n (listed.setIfInBounds i true)
  | .one i p, n + 1, listed => Region.ready .any ops listed == [i] && i != r && planOkR ops r tl p n (listed.setIfInBounds i true)
  | _, _, _ => false
def TailK (P : Program) (ops : Array Oper) (K : Env → St → Prop) : List Nat → Env → St → Prop
  | [], e, s => K e s
  | j :: tl, e, s => match ops[j]? with
    | some o => xgo P ops o e s (TailK P ops K tl)
    | none => False
def TG (P : Program) (ops : Array Oper) (K : Env → St → Prop) (tl : List Nat) (e : Env) (s : St) (o : Oper) : Prop := xgo P ops o e s (TailK P ops K tl)
theorem tl_nil (ops : Array Oper) (K : Env → St → Prop) (e : Env) (d : Option Nat) (z : AV) (s : St) : TailK P ops K [] (e.put d z) s = K (e.put d z) s := rfl
theorem tl_cons (ops : Array Oper) (K : Env → St → Prop) (j : Nat) (tl : List Nat) (e : Env) (d : Option Nat) (z : AV) (s : St) : TailK P ops K (j :: tl) (e.put d z) s = onO (ops[j]?) (TG P ops K tl (e.put d z) s) := by
  unfold onO
  rw [TailK]
  cases ops[j]? <;> rfl
theorem tg_go (ops : Array Oper) (K : Env → St → Prop) (tl : List Nat) (e : Env) (s : St) (d : Option Nat) (op : Op) (ty : TypeId) (pos : String) (af : Array Edge) (g : Option (Nat × Bool)) : TG P ops K tl e s ⟨d, op, ty, pos, af, g⟩ = xgo P ops ⟨d, op, ty, pos, af, g⟩ e s (TailK P ops K tl) := rfl
theorem tail_any {ops : Array Oper} {s0 : St} {held : List Nat} {r : Nat} {K : Env → St → Prop} (tl : List Nat) : ∀ (n : Nat) (listed : Array Bool) (e : Env) (s : St), tailOk ops tl n listed = true → listed.getD r false = true → TailK P ops K tl e s → AnyR P ops s0 held r K n listed e s := by
  induction tl with
  | nil =>
    intro n listed e s hp hr h
    simp only [tailOk, beq_iff_eq] at hp
    have hh : HeldR s0 held r listed s := fun q => by rw [hr] at q; cases q
    cases n with
    | zero => exact ⟨hh, hp, h⟩
    | succ n => exact ⟨hh, fun _ => h, by rw [hp]; simp⟩
  | cons j tl ih =>
    intro n listed e s hp hr h
    cases n with
    | zero => cases hp
    | succ n =>
      simp only [tailOk, Bool.and_eq_true, beq_iff_eq] at hp
      unfold TailK at h
      split at h
      · rename_i o ho
        refine ⟨fun q => (by rw [hr] at q; cases q), fun h0 => (by rw [hp.1.1] at h0; cases h0), fun i hi => ?_⟩
        rw [hp.1.1] at hi
        obtain rfl : i = j := by simpa using hi
        exact ⟨o, ho, xgo_mono h fun e' s' q => ih n _ _ _ hp.2 (getD_set_true hr) q⟩
      · exact h.elim
theorem xplanR_any {ops : Array Oper} {s0 : St} {held : List Nat} {r : Nat} {tl : List Nat} {K : Env → St → Prop} (p : Plan) : ∀ (n : Nat) (listed : Array Bool) (e : Env) (s : St), planOkR ops r tl p n listed = true → Closed ops listed → heldEq s0 held s → xplan P ops s0 held (TailK P ops K (r :: tl)) p e s → AnyR P ops s0 held r K n listed e s := by
  induction p with
  | done =>
    intro n listed e s hp hc hh h
    cases n with
    | zero => cases hp
    | succ n =>
      simp only [planOkR, tailOk, Bool.and_eq_true, beq_iff_eq, decide_eq_true_eq] at hp
      unfold xplan TailK at h
      split at h
      · rename_i o ho
        refine ⟨fun _ => hh, fun h0 => (by rw [hp.1.1] at h0; cases h0), fun i hi => ?_⟩
        rw [hp.1.1] at hi
        obtain rfl : i = r := by simpa using hi
        exact ⟨o, ho, xgo_mono h fun e' s' q => tail_any tl n _ _ _ hp.2 (by simp [hp.1.2]) q⟩
      · exact h.elim
  | take i p ih =>
    intro n listed e s hp hc hh h
    cases n with
    | zero => cases hp
    | succ n =>
      simp only [planOkR, Bool.and_eq_true, bne_iff_ne] at hp
      obtain ⟨⟨⟨⟨hr, hf⟩, hpre⟩, hir⟩, hp⟩ := hp
      have hr' : i ∈ Region.ready .any ops listed := by simpa using hr
      unfold xplan at h
      split at h
      · exact h.elim
      · rename_i o ho
        obtain ⟨ht, hd, h⟩ := h
        exact AnyR.take ho hir hpre n listed e s hc (Region.free_spec ho hf) hr' ht hd (ih n _ _ _ hp (closed_set hc hr') hh h)
  | one i p ih =>
    intro n listed e s hp hc hh h
    cases n with
    | zero => cases hp
    | succ n =>
      simp only [planOkR, Bool.and_eq_true, beq_iff_eq, bne_iff_ne] at hp
      obtain ⟨⟨hr, hir⟩, hp⟩ := hp
      unfold xplan at h
      split at h
      · exact h.elim
      · rename_i o ho
        refine ⟨fun _ => hh, fun h0 => (by rw [hr] at h0; cases h0), fun j hj => ?_⟩
        have hj' := hj
        rw [hr] at hj
        obtain rfl : j = i := by simpa using hj
        exact ⟨o, ho, xgo_mono h fun e' s' ⟨q1, q2⟩ => ih n _ _ _ hp (closed_set hc hj') q1 q2⟩
  | two i p j q ihp ihq =>
    intro n listed e s hp
    cases n <;> cases hp
theorem aw_drwR {id : Nat} {l : List Oper} {m0 : Nat} {e : Env} {s : St} {Q : Exit → Env → St → Prop} (p : Plan) (r : Nat) (tl : List Nat) (held : List Nat) (hm : P.follows .mixedOrders = true) (hp : planOkR l.toArray r tl p l.toArray.size (Array.replicate l.toArray.size false) = true)
    (h : ∀ K : Env → St → Prop, (∀ e s, Q .normal e s → K e s) → xpl P l.toArray held (TailK P l.toArray K (r :: tl)) p (e.put none .no) s) : AW P (.region id l.toArray true) m0 e s Q := by
  intro w0 kb k w a hk hs he
  exact wp_region_any hm (AnyR.sound _ (xplanR_any p _ _ _ _ hp (closed_none _ _) (heldEq_refl s held) (xpl_plan p _ s (heldEq_refl s held) (h _ fun _ _ h => h))) hk (hs.drew _) he)
theorem trows (P : Program) :
    (∀ (ops : Array Oper) (K : Env → St → Prop) (e : Env) (d : Option Nat) (z : AV) (s : St), TailK P ops K [] (e.put d z) s = K (e.put d z) s) ∧
    (∀ (ops : Array Oper) (K : Env → St → Prop) (j : Nat) (tl : List Nat) (e : Env) (d : Option Nat) (z : AV) (s : St), TailK P ops K (j :: tl) (e.put d z) s = onO (ops[j]?) (TG P ops K tl (e.put d z) s)) ∧
    (∀ (ops : Array Oper) (K : Env → St → Prop) (tl : List Nat) (e : Env) (s : St) (d : Option Nat) (op : Op) (ty : TypeId) (pos : String) (af : Array Edge) (g : Option (Nat × Bool)), TG P ops K tl e s ⟨d, op, ty, pos, af, g⟩ = xgo P ops ⟨d, op, ty, pos, af, g⟩ e s (TailK P ops K tl)) :=
  ⟨fun ops K e d z s => tl_nil ops K e d z s, fun ops K j tl e d z s => tl_cons ops K j tl e d z s, fun ops K tl e s d op ty pos af g => tg_go ops K tl e s d op ty pos af g⟩
/-- A reader's call whose answer is a new box. -/
theorem acall_own {f : FuncId} {zs : List AV} {s : St} {r : AV} (hf : idf r = true) (h : ACall P f zs s fun r' s' => ∃ i c, s.nx ≤ i ∧ s'.get i = some c ∧ frz i c r' = r ∧ ∀ j, j < s.nx → s'.get j = s.get j) : ACall P f zs s fun r' s' => r' = r ∧ s' = s :=
  acall_drop (R := fun r' => r' = r) (acall_lay (h.mono fun r' s' ⟨i, c, h1, h2, h3, h4⟩ => ⟨i, c, fun _ => false, h2, h3, by rw [h3]; exact hf, fun j hj => by rw [frz_false _ _ _ _ (by omega)]; exact h4 j hj⟩))
/-- A part that goes on in one way, or ends. -/
theorem aw_way {x : Code} {m0 : Nat} {e : Env} {s : St} {Q : Exit → Env → St → Prop} (I : Env → St → Prop) (h1 : AW P x m0 e s fun ex e' s' => (ex = .normal ∧ I e' s') ∨ (ex = .ret ∧ Q .ret e' s')) (h2 : ∀ e' s', I e' s' → Q .normal e' s') : AW P x m0 e s Q :=
  aw_mono h1 fun ex e' s' h => by
    rcases h with ⟨hn, hI⟩ | ⟨hn, hQ⟩
    · subst hn; exact h2 e' s' hI
    · subst hn; exact hQ
end Go.Proofs.YtppmamcoehhopaaDoor.Ax
