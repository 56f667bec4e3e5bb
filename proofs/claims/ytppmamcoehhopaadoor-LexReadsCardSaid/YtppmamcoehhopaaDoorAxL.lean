/- The abstract machine, part L: regions that draw their order. -/
import Derived.Test.YtppmamcoehhopaaDoorAxK
set_option linter.unusedVariables false
set_option linter.unusedSimpArgs false
namespace Go.Proofs.YtppmamcoehhopaaDoor.Ax
open Go Go.RowKit
variable {P : Program}

theorem Env.ev_put (e : Env) (d : Option Nat) (z : AV) (x : Operand) (h : ∀ t, d = some t → x ≠ .tmp t) : (e.put d z).ev x = e.ev x := by
  cases d with
  | none => rfl
  | some t =>
    cases x with
    | tmp t' =>
      have : t ≠ t' := fun he => h t rfl (by rw [he])
      show upd e.m t z t' = e.m t'
      unfold upd
      rw [if_neg this]
    | _ => rfl
theorem Env.put_comm (e : Env) (d d' : Option Nat) (z z' : AV) (h : ∀ t, d = some t → d' ≠ some t) : (e.put d z).put d' z' = (e.put d' z').put d z := by
  cases d with
  | none => rfl
  | some t =>
    cases d' with
    | none => rfl
    | some t' =>
      have hne : t ≠ t' := fun he => h t rfl (by rw [he])
      show (⟨e.n, upd (upd e.m t z) t' z'⟩ : Env) = ⟨e.n, upd (upd e.m t' z') t z⟩
      congr 1
      funext q
      unfold upd
      by_cases h1 : t' = q
      · subst h1
        rw [if_pos rfl, if_neg hne, if_pos rfl]
      · rw [if_neg h1]
        by_cases h2 : t = q
        · rw [if_pos h2, if_pos h2]
        · rw [if_neg h2, if_neg h2, if_neg h1]
theorem Env.put_n (e : Env) (d : Option Nat) (z : AV) : (e.put d z).n = e.n := by cases d <;> rfl

theorem xop_congr {e e' : Env} (s : St) (op : Op) (h : ∀ x ∈ op.operands, e.ev x = e'.ev x) : xop P e s op = xop P e' s op := by
  have pairs : ∀ ps : Array (Nat × Operand), (∀ x ∈ (ps.toList.map (·.2)).toArray, e.ev x = e'.ev x) → (ps.toList.map fun p => (p.1, e.ev p.2)) = ps.toList.map fun p => (p.1, e'.ev p.2) := by
    intro ps hp
    apply List.map_congr_left
    intro p hm
    rw [hp p.2 (by simp; exact ⟨p.1, by simpa using hm⟩)]
  cases op <;> simp only [Op.operands] at h <;> simp only [xop]
  case build t ps => rw [pairs ps h]
  case buildSlice t n ps => rw [pairs ps h]
  case call c =>
    have : c.args.toList.map e.ev = c.args.toList.map e'.ev := List.map_congr_left fun x hx => h x (by simp [Call.operands]; exact .inr (by simpa using hx))
    rw [this]
  case slice t x lo hi mx =>
    cases lo <;> cases hi <;> cases mx <;> simp_all
  all_goals first
    | rfl
    | (simp only [Array.mem_def, List.mem_cons, List.not_mem_nil, or_false, forall_eq_or_imp, forall_eq] at h; first | rw [h] | (rw [h.1, h.2]) | (rw [h.1, h.2.1, h.2.2]) | simp_all)
theorem calleeOf_congr {e e' : Env} (op : Op) (h : ∀ x ∈ op.operands, e.ev x = e'.ev x) : calleeOf e op = calleeOf e' op := by
  cases op <;> simp only [calleeOf]
  case call c =>
    obtain ⟨callee, args, ts⟩ := c
    cases callee with
    | value x =>
      have h1 : e.ev x = e'.ev x := h x (by simp [Op.operands, Call.operands])
      have h2 : args.toList.map e.ev = args.toList.map e'.ev := List.map_congr_left fun x hx => h x (by simp [Op.operands, Call.operands]; exact .inr (by simpa using hx))
      simp only [h1, h2]
    | _ => rfl
theorem ev_looks {ops : Array Oper} {o : Oper} {e : Env} {d : Option Nat} {z : AV} (h : ∀ t, d = some t → t ∉ o.looksAt ops) : ∀ x ∈ o.op.operands, (e.put d z).ev x = e.ev x := by
  intro x hx
  refine Env.ev_put e d z x fun t ht hxt => h t ht ?_
  subst hxt
  exact List.mem_append_left _ (List.mem_filterMap.2 ⟨.tmp t, by simpa using hx, rfl⟩)
theorem xguard_put {ops : Array Oper} {o : Oper} {e : Env} {d : Option Nat} {z : AV} (h : ∀ t, d = some t → t ∉ o.looksAt ops) : xguard ops o (e.put d z) = xguard ops o e := by
  unfold xguard
  cases hg : o.guard with
  | none => rfl
  | some gw =>
    obtain ⟨g, want⟩ := gw
    cases ht : (ops[g]?).bind (·.dst) with
    | none => simp only [ht]
    | some t =>
      have : (e.put d z).m t = e.m t := by
        cases d with
        | none => rfl
        | some t' =>
          have hne : t' ≠ t := fun he => h t' rfl (by subst he; simp [Oper.looksAt, hg, ht])
          show upd e.m t' z t = _
          unfold upd
          rw [if_neg hne]
      simp only [ht, this]

/-- The operation yields z, and leaves the memory alone. -/
def Takes (P : Program) (ops : Array Oper) (o : Oper) (e : Env) (s : St) (z : AV) : Prop :=
  (xguard ops o e = some true ∧ calleeOf e o.op = none ∧ xop P e s o.op = some (z, s)) ∨ (xguard ops o e = some false ∧ z = .v undef)
theorem Takes.put {ops : Array Oper} {o : Oper} {e : Env} {s : St} {z y : AV} {d : Option Nat} (h : ∀ t, d = some t → t ∉ o.looksAt ops) (ht : Takes P ops o e s z) : Takes P ops o (e.put d y) s z := by
  have hev := ev_looks (e := e) (z := y) h
  unfold Takes
  rw [xguard_put h, calleeOf_congr o.op hev, xop_congr s o.op hev]
  exact ht
theorem Takes.go {ops : Array Oper} {o : Oper} {e : Env} {s : St} {z : AV} {K : Env → St → Prop} (ht : Takes P ops o e s z) (hd : dstOk o.dst e.n = true) (h : K (e.put o.dst z) s) : xgo P ops o e s K := by
  unfold xgo
  rcases ht with ⟨h1, h2, h3⟩ | ⟨h1, rfl⟩
  · rw [h1]
    refine ⟨fun _ => ⟨hd, ?_⟩, nofun⟩
    rw [h2, h3]
    exact h
  · rw [h1]
    exact ⟨nofun, fun _ => ⟨hd, h⟩⟩
theorem xgo_mono {ops : Array Oper} {o : Oper} {e : Env} {s : St} {K K' : Env → St → Prop} (h : xgo P ops o e s K) (hk : ∀ e s, K e s → K' e s) : xgo P ops o e s K' := by
  unfold xgo at *
  split at h
  · refine ⟨fun hg => ?_, fun hg => ⟨(h.2 hg).1, hk _ _ (h.2 hg).2⟩⟩
    obtain ⟨hd, h⟩ := h.1 hg
    refine ⟨hd, ?_⟩
    split at h
    · exact h.mono fun r s' => hk _ _
    · split at h
      · exact hk _ _ h
      · exact h.elim
  · exact h.elim
theorem xgo_put {ops : Array Oper} {oi oj : Oper} {e : Env} {s : St} {z : AV} {K : Env → St → Prop} (hap : oi.apart ops oj = true) (h : xgo P ops oj (e.put oi.dst z) s K) : xgo P ops oj e s fun e' s' => K (e'.put oi.dst z) s' ∧ ∃ y, e' = e.put oj.dst y := by
  obtain ⟨h1, h2, h3⟩ := Oper.apart_spec hap
  have hev := ev_looks (e := e) (z := z) h1
  unfold xgo at *
  rw [xguard_put h1] at h
  split at h
  · refine ⟨fun hg => ?_, fun hg => ?_⟩
    · obtain ⟨hd, h⟩ := h.1 hg
      refine ⟨by rwa [Env.put_n] at hd, ?_⟩
      rw [calleeOf_congr oj.op hev, xop_congr s oj.op hev] at h
      split at h
      · exact h.mono fun r s' hr => ⟨by rw [← Env.put_comm e oi.dst oj.dst z r h2]; exact hr, r, rfl⟩
      · split at h
        · exact ⟨by rw [← Env.put_comm e oi.dst oj.dst z _ h2]; exact h, _, rfl⟩
        · exact h.elim
    · obtain ⟨hd, h⟩ := h.2 hg
      exact ⟨by rwa [Env.put_n] at hd, by rw [← Env.put_comm e oi.dst oj.dst z _ h2]; exact h, _, rfl⟩
  · exact h.elim

/-- A region in whatever order; H holds of the memory all the while. -/
def AnyA (P : Program) (ops : Array Oper) (H : St → Prop) (K : Env → St → Prop) : Nat → Array Bool → Env → St → Prop
  | 0, listed, e, s => H s ∧ Region.ready .any ops listed = [] ∧ K e s
  | n + 1, listed, e, s => H s ∧ (Region.ready .any ops listed = [] → K e s) ∧ ∀ i ∈ Region.ready .any ops listed, ∃ o, ops[i]? = some o ∧ xgo P ops o e s (AnyA P ops H K n (listed.setIfInBounds i true))
theorem AnyA.held {ops : Array Oper} {H : St → Prop} {K : Env → St → Prop} {n : Nat} {listed : Array Bool} {e : Env} {s : St} (h : AnyA P ops H K n listed e s) : H s := by cases n <;> exact h.1
theorem AnyA.sound {ops : Array Oper} {H : St → Prop} {m0 : Nat} {Q : Exit → Env → St → Prop} (n : Nat) : ∀ {listed : Array Bool} {e : Env} {s : St}, AnyA P ops H (Q .normal) n listed e s → ∀ {w0 w : World} {kb k : KW} {a : Act}, KW.le m0 kb k → Sim w0 k w s → EnvRel k e a →
    wpAny P .any ops (APost m0 w0 kb Q) n listed a w := by
  induction n with
  | zero => exact fun h w0 w kb k a hk hs he => ⟨h.2.1, _, _, k, h.2.2, hk, hs, he⟩
  | succ n ih =>
    intro listed e s h w0 w kb k a hk hs he
    obtain ⟨_, h0, h1⟩ := h
    refine ⟨fun hr => ⟨_, _, k, h0 hr, hk, hs, he⟩, fun i hi => ?_⟩
    obtain ⟨o, ho, hx⟩ := h1 i hi
    unfold wpOp
    rw [ho]
    simp only
    unfold xgo at hx
    split at hx
    · rename_i g hg
      have hw := xguard_sound hg he
      cases g with
      | true =>
        rw [if_pos hw]
        exact .inl (xstep_sound (hx.1 rfl) hk hs he fun e' s' k' a' w' q1 q2 q3 q4 => ih q1 q2 q3 q4)
      | false =>
        rw [if_neg (by rw [hw]; simp)]
        obtain ⟨hd, hx⟩ := hx.2 rfl
        exact ih hx hk hs (he.put hd (.v _))
    · exact hx.elim
/-- What yields the same whenever it comes up may come up first. -/
theorem AnyA.take {ops : Array Oper} {H : St → Prop} {K : Env → St → Prop} {i : Nat} {oi : Oper} {z : AV} (hi : ops[i]? = some oi) (n : Nat) : ∀ (listed : Array Bool) (e : Env) (s : St),
    (∀ (j : Nat) (oj : Oper), ops[j]? = some oj → j ≠ i → listed.getD j true = false → (∀ x ∈ oj.after, Region.binds .any x = true → x.on ≠ i) → oi.apart ops oj = true) →
    i ∈ Region.ready .any ops listed → (∀ s, H s → Takes P ops oi e s z) → dstOk oi.dst e.n = true →
    AnyA P ops H K n (listed.setIfInBounds i true) (e.put oi.dst z) s → AnyA P ops H K (n + 1) listed e s := by
  induction n with
  | zero =>
    intro listed e s hap hr ht hd h
    refine ⟨h.1, fun h0 => (by rw [h0] at hr; cases hr), fun j hj => ?_⟩
    by_cases hji : j = i
    · subst hji
      exact ⟨oi, hi, (ht s h.1).go hd h⟩
    · have := ready_mono (md := .any) (ops := ops) hj hji
      rw [h.2.1] at this
      cases this
  | succ n ih =>
    intro listed e s hap hr ht hd h
    refine ⟨h.held, fun h0 => (by rw [h0] at hr; cases hr), fun j hj => ?_⟩
    by_cases hji : j = i
    · subst hji
      exact ⟨oi, hi, (ht s h.held).go hd h⟩
    · have hj' := ready_mono (md := .any) (ops := ops) hj hji
      obtain ⟨oj, hoj, hx⟩ := h.2.2 j hj'
      refine ⟨oj, hoj, ?_⟩
      have hjr := mem_ready.1 hj
      have hir := mem_ready.1 hr
      obtain ⟨hj0, oj2, hoj2, hjall⟩ := hjr
      rw [hoj] at hoj2
      injection hoj2 with hoj2
      subst hoj2
      have hapj := hap j oj hoj hji hj0 (fun x hx hb he => by
        have := hjall x hx hb
        rw [he] at this
        have h1 : listed.getD i true = false := hir.1
        by_cases hl : i < listed.size
        · simp [hl] at this h1
          rw [h1] at this
          cases this
        · simp [Nat.le_of_not_lt hl] at h1)
      refine xgo_mono (xgo_put hapj hx) fun e' s' ⟨hn, y, hy⟩ => ?_
      subst hy
      obtain ⟨_, _, h3⟩ := Oper.apart_spec hapj
      refine ih _ _ _ ?_ (ready_mono hr (Ne.symm hji)) (fun s hs => (ht s hs).put h3) (by rw [Env.put_n]; exact hd) ?_
      · intro q oq hoq hqi hq0 hqn
        exact hap q oq hoq hqi (by
          by_cases hqj : j = q
          · subst hqj
            by_cases hl : j < listed.size
            · simp [hl] at hq0
            · simp [Nat.le_of_not_lt hl] at hq0
          · rwa [getD_set_ne true hqj] at hq0) hqn
      · rw [Array.setIfInBounds_comm _ _ hji]
        exact hn

/-- An order to walk in. -/
inductive Plan where
  | done
  | take (i : Nat) (p : Plan)
  | one (i : Nat) (p : Plan)
  | two (i : Nat) (p : Plan) (j : Nat) (q : Plan)
def planOk (ops : Array Oper) : Plan → Nat → Array Bool → Bool
  | .done, _, listed => Region.ready .any ops listed == []
  | .take i p, n + 1, listed => (Region.ready .any ops listed).contains i && Region.free .any ops listed i && planOk ops p n (listed.setIfInBounds i true)
  | .one i p, n + 1, listed => Region.ready .any ops listed == [i] && planOk ops p n (listed.setIfInBounds i true)
  | .two i p j q, n + 1, listed => Region.ready .any ops listed == [i, j] && planOk ops p n (listed.setIfInBounds i true) && planOk ops q n (listed.setIfInBounds j true)
  | _, 0, _ => false
def heldEq (s : St) : List Nat → St → Prop
  | [], _ => True
  | i :: r, s' => s'.get i = s.get i ∧ heldEq s r s'
theorem heldEq_refl (s : St) (l : List Nat) : heldEq s l s := by
  induction l with
  | nil => trivial
  | cons i l ih => exact ⟨rfl, ih⟩
/-- The value that an operation takes. -/
def tval (P : Program) (ops : Array Oper) (o : Oper) (e : Env) (s : St) : AV :=
  match xguard ops o e with
  | some true => match xop P e s o.op with
    | some (z, _) => z
    | none => .no
  | _ => .v undef
def xplan (P : Program) (ops : Array Oper) (s0 : St) (held : List Nat) (K : Env → St → Prop) : Plan → Env → St → Prop
  | .done, e, s => K e s
  | .take i p, e, s => match ops[i]? with
    | none => False
    | some o => (∀ s', heldEq s0 held s' → Takes P ops o e s' (tval P ops o e s)) ∧ dstOk o.dst e.n = true ∧ xplan P ops s0 held K p (e.put o.dst (tval P ops o e s)) s
  | .one i p, e, s => match ops[i]? with
    | none => False
    | some o => xgo P ops o e s fun e' s' => heldEq s0 held s' ∧ xplan P ops s0 held K p e' s'
  | .two i p j q, e, s => match ops[i]?, ops[j]? with
    | some o, some o' => (xgo P ops o e s fun e' s' => heldEq s0 held s' ∧ xplan P ops s0 held K p e' s') ∧ xgo P ops o' e s fun e' s' => heldEq s0 held s' ∧ xplan P ops s0 held K q e' s'
    | _, _ => False
theorem xplan_any {ops : Array Oper} {s0 : St} {held : List Nat} {K : Env → St → Prop} (p : Plan) : ∀ (n : Nat) (listed : Array Bool) (e : Env) (s : St), planOk ops p n listed = true → heldEq s0 held s → xplan P ops s0 held K p e s → AnyA P ops (heldEq s0 held) K n listed e s := by
  induction p with
  | done =>
    intro n listed e s hp hh h
    have hr : Region.ready .any ops listed = [] := by
      cases n <;> simpa [planOk] using hp
    cases n with
    | zero => exact ⟨hh, hr, h⟩
    | succ n => exact ⟨hh, fun _ => h, by rw [hr]; simp⟩
  | take i p ih =>
    intro n listed e s hp hh h
    cases n with
    | zero => cases hp
    | succ n =>
      simp only [planOk, Bool.and_eq_true] at hp
      obtain ⟨⟨hr, hf⟩, hp⟩ := hp
      unfold xplan at h
      split at h
      · exact h.elim
      · rename_i o ho
        obtain ⟨ht, hd, h⟩ := h
        exact AnyA.take ho n listed e s (Region.free_spec ho hf) (by simpa using hr) ht hd (ih n _ _ _ hp hh h)
  | one i p ih =>
    intro n listed e s hp hh h
    cases n with
    | zero => cases hp
    | succ n =>
      simp only [planOk, Bool.and_eq_true, beq_iff_eq] at hp
      obtain ⟨hr, hp⟩ := hp
      unfold xplan at h
      split at h
      · exact h.elim
      · rename_i o ho
        refine ⟨hh, fun h0 => (by rw [hr] at h0; cases h0), fun j hj => ?_⟩
        rw [hr] at hj
        obtain rfl : j = i := by simpa using hj
        exact ⟨o, ho, xgo_mono h fun e' s' ⟨q1, q2⟩ => ih n _ _ _ hp q1 q2⟩
  | two i p j q ihp ihq =>
    intro n listed e s hp hh h
    cases n with
    | zero => cases hp
    | succ n =>
      simp only [planOk, Bool.and_eq_true, beq_iff_eq] at hp
      obtain ⟨⟨hr, hp⟩, hq⟩ := hp
      unfold xplan at h
      split at h
      · rename_i o o' ho ho'
        refine ⟨hh, fun h0 => (by rw [hr] at h0; cases h0), fun l hl => ?_⟩
        rw [hr] at hl
        rcases List.mem_cons.1 hl with rfl | hl
        · exact ⟨o, ho, xgo_mono h.1 fun e' s' ⟨q1, q2⟩ => ihp n _ _ _ hp q1 q2⟩
        · obtain rfl : l = j := by simpa using hl
          exact ⟨o', ho', xgo_mono h.2 fun e' s' ⟨q1, q2⟩ => ihq n _ _ _ hq q1 q2⟩
      · exact h.elim
theorem aw_draw {id : Nat} {ops : Array Oper} {m0 : Nat} {e : Env} {s : St} {Q : Exit → Env → St → Prop} (p : Plan) (held : List Nat) (hm : P.follows .mixedOrders = true) (hp : planOk ops p ops.size (Array.replicate ops.size false) = true)
    (h : xplan P ops s held (Q .normal) p e s) : AW P (.region id ops true) m0 e s Q := by
  intro w0 kb k w a hk hs he
  exact wp_region_any hm (AnyA.sound _ (xplan_any p _ _ e s hp (heldEq_refl s held) h) hk (hs.drew _) he)

/-- No box in it. -/
def idf : AV → Bool
  | .own .. | .ptr .. => false
  | .sl _ c | .rf c | .ag c | .tp c => idfL c
  | .v _ | .no => true
where idfL : List AV → Bool
  | [] => true
  | z :: r => idf z && idfL r
theorem idfL_iff (l : List AV) : idf.idfL l = true ↔ ∀ z ∈ l, idf z = true := by
  induction l with
  | nil => simp [idf.idfL]
  | cons z l ih => simp [idf.idfL, ih]
theorem rel_free {k k' : KW} {z : AV} {u : Value} (h : Rel k z u) (hS : ∀ a u, k.S a = some u → k'.S a = some u) : idf z = true → Rel k' z u := by
  induction h with
  | v x => exact fun _ => .v x
  | sl n cap c a us hn h1 h2 ih => exact fun hf => .sl n cap c a us hn (fun j hj => hS _ _ (h1 j hj)) (fun j z hz => ih j z hz ((idfL_iff c).1 hf z (List.mem_of_getElem? hz)))
  | sl0 a cap => exact fun _ => .sl0 a cap
  | rf c a us h1 h2 ih => exact fun hf => .rf c a us (fun j hj => hS _ _ (h1 j hj)) (fun j z hz => ih j z hz ((idfL_iff c).1 hf z (List.mem_of_getElem? hz)))
  | own => exact nofun
  | own0 => exact nofun
  | ptr => exact nofun
  | ag c us hl h ih => exact fun hf => .ag c us hl (fun j z u hz hu => ih j z u hz hu ((idfL_iff c).1 hf z (List.mem_of_getElem? hz)))
  | tp c us hl h ih => exact fun hf => .tp c us hl (fun j z u hz hu => ih j z u hz hu ((idfL_iff c).1 hf z (List.mem_of_getElem? hz)))
  | no u => exact fun _ => .no u
theorem rel_cut {k : KW} {z : AV} {u : Value} (h : Rel k z u) : ∀ {k' : KW} {u' : Value}, Rel k' z u' → Rel ⟨k'.φ, k.m, k'.S, k'.tab⟩ z u' := by
  induction h with
  | v x => intro k' u' g; cases g; exact .v _
  | sl n cap c a us hn h1 h2 ih =>
    intro k' u' g
    cases g with
    | sl _ cap' _ a' us' hn' g1 g2 => exact .sl _ _ _ _ us' hn' g1 (fun j z hz => ih j z hz (g2 j z hz))
    | sl0 a cap => exact .sl0 a cap
  | sl0 a cap =>
    intro k' u' g
    cases g with
    | sl _ cap' _ a' us' hn' g1 g2 => exact .sl _ _ _ _ us' hn' g1 (fun j z hz => by simp at hz)
    | sl0 a cap => exact .sl0 a cap
  | rf c a us h1 h2 ih =>
    intro k' u' g
    cases g with
    | rf _ a' us' g1 g2 => exact .rf _ _ us' g1 (fun j z hz => ih j z hz (g2 j z hz))
  | own id off n sz cap hi hn hc =>
    intro k' u' g
    cases g with
    | own _ _ _ _ cap' hi' hn' hc' => exact .own (k := ⟨k'.φ, k.m, k'.S, k'.tab⟩) id off _ sz cap' hi hn' hc'
    | own0 _ _ _ a hi' hc' => exact .own0 (k := ⟨k'.φ, k.m, k'.S, k'.tab⟩) id off sz a hi hc'
  | own0 id off sz a hi hc =>
    intro k' u' g
    cases g with
    | own _ _ _ _ cap' hi' hn' hc' => exact .own (k := ⟨k'.φ, k.m, k'.S, k'.tab⟩) id off _ sz cap' hi hn' hc'
    | own0 _ _ _ a hi' hc' => exact .own0 (k := ⟨k'.φ, k.m, k'.S, k'.tab⟩) id off sz a hi hc'
  | ptr id off hi =>
    intro k' u' g
    cases g with
    | ptr _ _ hi' => exact .ptr (k := ⟨k'.φ, k.m, k'.S, k'.tab⟩) id off hi
  | ag c us hl h ih =>
    intro k' u' g
    cases g with
    | ag _ us' hl' g => exact .ag _ _ hl' (fun j z u hz hu => by
        have hj := (List.getElem?_eq_some_iff.1 hz).1
        exact ih j z _ hz (List.getElem?_eq_getElem (by omega)) (g j z u hz hu))
  | tp c us hl h ih =>
    intro k' u' g
    cases g with
    | tp _ us' hl' g => exact .tp _ _ hl' (fun j z u hz hu => by
        have hj := (List.getElem?_eq_some_iff.1 hz).1
        exact ih j z _ hz (List.getElem?_eq_getElem (by omega)) (g j z u hz hu))
  | no u => intro k' u' g; exact .no u'

/-- A call that leaves the memory alone. -/
def PCall (P : Program) (f : FuncId) (zs : List AV) (r : AV) : Prop := ∀ s, ACall P f zs s fun r' s' => r' = r ∧ s' = s
theorem acall_drop {f : FuncId} {zs : List AV} {s : St} {R : AV → Prop} (h : ACall P f zs s fun r s' => R r ∧ idf r = true ∧ ∀ i, i < s.nx → s'.get i = s.get i) : ACall P f zs s fun r s' => R r ∧ s' = s := by
  refine ⟨h.1, fun w0 k w vs hs hv => (h.2 w0 k w vs hs hv).mono ?_⟩
  rintro en w' ⟨v, r, s', k', rfl, ⟨hR, hf, hg⟩, hs', hr, hk⟩
  refine ⟨v, r, s, ⟨k'.φ, s.nx, k'.S, k'.tab⟩, rfl, ⟨hR, rfl⟩, ⟨rfl, hs'.fz, hs.lt, ?_, ?_, hs'.shp, hs.tz⟩, rel_free hr (fun _ _ h => h) hf, ⟨Nat.le_refl _, hk.2.1, hk.2.2⟩⟩
  · intro i c hi
    have hlt := hs.lt i c hi
    obtain ⟨h1, h2⟩ := hs'.box i c ((hg i hlt).trans hi)
    obtain ⟨o1, o2⟩ := hs.box i c hi
    refine ⟨h1, fun j hj => ?_⟩
    obtain ⟨u, q1, q2, q3, q4⟩ := h2 j hj
    refine ⟨u, q1, q2, q3, fun z hz => ?_⟩
    obtain ⟨u0, _, _, _, p4⟩ := o2 j (by
      have := (List.getElem?_eq_some_iff.1 hz).1
      omega)
    have := rel_cut (p4 z hz) (q4 z hz)
    rwa [hs.m] at this
  · intro i j c d hi hj
    exact hs'.sep i j c d ((hg i (hs.lt i c hi)).trans hi) ((hg j (hs.lt j d hj)).trans hj)
/-- What reads as z reads as z', too. -/
def Le (z z' : AV) : Prop := ∀ k u, Rel k z u → Rel k z' u
theorem Le.refl (z : AV) : Le z z := fun _ _ h => h
theorem Le.nil (n m : Nat) (h : n = 0) : Le (.v (.slice none n m)) (.sl 0 []) := fun k u hr => by
  subst h
  rw [hr.v_eq]
  exact .sl0 _ _
theorem Le.ag {c d : List AV} (hl : d.length = c.length) (h : ∀ (j : Nat) (x y : AV), c[j]? = some x → d[j]? = some y → Le x y) : Le (.ag c) (.ag d) := fun k u hr => by
  cases hr with
  | ag _ us hl' hr => exact .ag _ us (by omega) (fun j z u hz hu => by
      have hj := (List.getElem?_eq_some_iff.1 hz).1
      have hc : c[j]? = some (c[j]'(by omega)) := List.getElem?_eq_getElem _
      exact h j _ z hc hz k u (hr j _ u hc hu))
theorem Le.tp {c d : List AV} (hl : d.length = c.length) (h : ∀ (j : Nat) (x y : AV), c[j]? = some x → d[j]? = some y → Le x y) : Le (.tp c) (.tp d) := fun k u hr => by
  cases hr with
  | tp _ us hl' hr => exact .tp _ us (by omega) (fun j z u hz hu => by
      have hj := (List.getElem?_eq_some_iff.1 hz).1
      have hc : c[j]? = some (c[j]'(by omega)) := List.getElem?_eq_getElem _
      exact h j _ z hc hz k u (hr j _ u hc hu))
theorem Le.two {a b a' b' : AV} (ha : Le a a') (hb : Le b b') : Le (.ag [a, b]) (.ag [a', b']) := Le.ag rfl fun j x y hx hy => by
  match j with
  | 0 => simp at hx hy; subst hx hy; exact ha
  | 1 => simp at hx hy; subst hx hy; exact hb
  | j + 2 => simp at hx
theorem Le.twoT {a b a' b' : AV} (ha : Le a a') (hb : Le b b') : Le (.tp [a, b]) (.tp [a', b']) := Le.tp rfl fun j x y hx hy => by
  match j with
  | 0 => simp at hx hy; subst hx hy; exact ha
  | 1 => simp at hx hy; subst hx hy; exact hb
  | j + 2 => simp at hx
theorem acall_le {f : FuncId} {zs : List AV} {s : St} {r : AV} {T : St → Prop} (h : ACall P f zs s fun r' s' => Le r' r ∧ T s') : ACall P f zs s fun r' s' => r' = r ∧ T s' :=
  ⟨h.1, fun w0 k w vs hs hv => (h.2 w0 k w vs hs hv).mono fun en w' ⟨v, r', s', k', h1, h2, h3, h4, h5⟩ => ⟨v, r, s', k', h1, ⟨rfl, h2.2⟩, h3, h2.1 _ _ h4, h5⟩⟩
theorem pcall_le {f : FuncId} {zs : List AV} {r : AV} (h : ∀ s, ACall P f zs s fun r' s' => Le r' r ∧ idf r = true ∧ ∀ i, i < s.nx → s'.get i = s.get i) : PCall P f zs r := fun s => by
  have := acall_drop (P := P) (f := f) (zs := zs) (s := s) (R := fun r' => r' = r) ((acall_le (h s)).mono fun r' s' ⟨h1, h2, h3⟩ => ⟨h1, by rw [h1]; exact h2, h3⟩)
  exact this
/-- A nil slice, told as an empty box. -/
theorem aw_nil {code : Code} {m0 : Nat} {e : Env} {s : St} {Q : Exit → Env → St → Prop} (t sz : Nat) (hn : e.m t = .v (.slice none 0 0)) (ht : dstOk (some t) e.n = true) (h : AW P code m0 (e.put (some t) (.own s.nx 0 0 sz)) (s.push []) Q) : AW P code m0 e s Q := by
  intro w0 kb k w a hk hs he
  have hle := k.push_le ⟨0, 0, 0⟩
  have hg := hs.ghost
  refine h w0 kb _ w a (KW.le_trans hk (KW.le_mono hle hk.1)) hg ⟨he.d, he.n, fun t' => ?_⟩
  show Rel _ (if t = t' then AV.own s.nx 0 0 sz else e.m t') _
  by_cases e' : t = t'
  · subst e'
    rw [if_pos rfl]
    have hr := he.r t
    rw [hn] at hr
    rw [hr.v_eq, ← hs.m]
    exact .own0 _ _ _ _ (Nat.lt_succ_self _) (Nat.zero_le _)
  · rw [if_neg e']
    exact (he.r t').mono hle
/-- The same in a box's cell. -/
theorem aw_nil_box {code : Code} {m0 : Nat} {e : Env} {s : St} {Q : Exit → Env → St → Prop} (i j sz : Nat) (c : List AV) (hi : s.get i = some c) (hj : c[j]? = some (.v (.slice none 0 0))) (h : AW P code m0 e ((s.push []).set i (c.set j (.own s.nx 0 0 sz))) Q) : AW P code m0 e s Q := by
  intro w0 kb k w a hk hs he
  have hle := k.push_le ⟨0, 0, 0⟩
  have hg := hs.ghost
  have hlt := hs.lt i c hi
  have hni : i ≠ s.nx := Nat.ne_of_lt hlt
  refine h w0 kb _ w a (KW.le_trans hk (KW.le_mono hle hk.1)) ⟨hg.m, hg.fz, ?_, ?_, ?_, hg.shp, hg.tz⟩ (he.mono hle)
  · intro q d hq
    by_cases e' : q = i
    · subst e'; exact hg.lt q c (by rw [St.push_ne _ _ _ hni]; exact hi)
    · rw [St.set_ne _ _ _ _ e'] at hq; exact hg.lt q d hq
  · intro q d hq
    by_cases e' : q = i
    · subst e'
      rw [St.set_same] at hq
      injection hq with hq
      subst hq
      obtain ⟨h1, h2⟩ := hg.box q c (by rw [St.push_ne _ _ _ hni]; exact hi)
      refine ⟨by simpa using h1, fun x hx => ?_⟩
      obtain ⟨u, q1, q2, q3, q4⟩ := h2 x hx
      refine ⟨u, q1, q2, q3, fun z hz => ?_⟩
      rw [List.getElem?_set] at hz
      split at hz
      · rename_i e2
        subst e2
        have hr := q4 _ hj
        split at hz
        · injection hz with hz
          subst hz
          rw [hr.v_eq, ← hs.m]
          exact .own0 _ _ _ _ (Nat.lt_succ_self _) (Nat.zero_le _)
        · cases hz
      · exact q4 z hz
    · rw [St.set_ne _ _ _ _ e'] at hq; exact hg.box q d hq
  · intro a b ca cb ha hb
    have alive : ∀ q cq, ((s.push []).set i (c.set j (.own s.nx 0 0 sz))).get q = some cq → ∃ c', (s.push []).get q = some c' := fun q cq hq => by
      by_cases e' : q = i
      · subst e'; exact ⟨c, by rw [St.push_ne _ _ _ hni]; exact hi⟩
      · rw [St.set_ne _ _ _ _ e'] at hq; exact ⟨cq, hq⟩
    obtain ⟨c1, h1⟩ := alive a ca ha
    obtain ⟨c2, h2⟩ := alive b cb hb
    exact hg.sep a b c1 c2 h1 h2
theorem pcall_of {f : FuncId} {zs : List AV} {r : AV} (h : ∀ s, ACall P f zs s fun r' s' => r' = r ∧ idf r = true ∧ ∀ i, i < s.nx → s'.get i = s.get i) : PCall P f zs r :=
  fun s => acall_drop ((h s).mono fun r' s' ⟨h1, h2, h3⟩ => ⟨h1, by rw [h1]; exact h2, h3⟩)
theorem PCall.then {f : FuncId} {zs : List AV} {r : AV} (h : PCall P f zs r) {s : St} {R : AV → St → Prop} (hR : R r s) : ACall P f zs s R := (h s).mono fun r' s' ⟨h1, h2⟩ => by rw [h1, h2]; exact hR

theorem Sim.below {w0 w w' : World} {k : KW} {s : St} (hs : Sim w0 k w s) (hb : Below w.heap.size w w') : Sim w0 k w' s := by
  have old : ∀ a u, w.cell? a = some u → w'.cell? a = some u := fun a u hu => (hb.cell (cell_block_lt hu)).trans hu
  refine ⟨hs.m, fun a u hu => old a u (hs.fz a u hu), hs.lt, fun i c hi => ?_, hs.sep, hs.shp.trans ⟨hb.os, hb.tape, hb.output, hb.size, fun i hi => ?_⟩, hs.tz⟩
  · obtain ⟨h1, h2⟩ := hs.box i c hi
    refine ⟨h1, fun j hj => ?_⟩
    obtain ⟨u, q1, q2, q3, q4⟩ := h2 j hj
    exact ⟨u, old _ _ q1, (hb.frozen (cell_block_lt q1)).trans q2, q3, q4⟩
  · rw [hb.block i hi]
    exact (Shp.refl w).block i hi
/-- A contract of the library, taken over. -/
theorem pcall_lift {f : FuncId} {us : List Value} {v : Value} {r : AV} (hen : Enters P f) (hr : ∀ k, Rel k r v) (h : ∀ w, Calls P f us.toArray w fun en w' => en = .returned v ∧ Below w.heap.size w w') : PCall P f (us.map .v) r := by
  refine fun s => ⟨hen, fun w0 k w vs hs hv => ?_⟩
  have : vs = us := by
    apply List.ext_getElem
    · simpa using hv.1
    · intro j h1 h2
      have := hv.2 j (.v us[j]) vs[j] (by simp [h2]) (by simp [h1])
      exact this.v_eq
  subst this
  refine (h w).mono ?_
  rintro en w' ⟨rfl, hb⟩
  exact ⟨v, r, s, k, rfl, ⟨rfl, rfl⟩, hs.below hb, hr k, KW.le_refl (by rw [hs.m]; exact Nat.le_refl _)⟩
/-- The same, of a contract that wants the tables. -/
theorem pcall_lift_tab {f : FuncId} {us : List Value} {v : Value} {r : AV} (hen : Enters P f) (hr : ∀ k, Rel k r v) (h : ∀ w, Tabs w.cell? → TabSize w → Calls P f us.toArray w fun en w' => en = .returned v ∧ Below w.heap.size w w') : PCall P f (us.map .v) r := by
  refine fun s => ⟨hen, fun w0 k w vs hs hv => ?_⟩
  have : vs = us := by
    apply List.ext_getElem
    · simpa using hv.1
    · intro j h1 h2
      have := hv.2 j (.v us[j]) vs[j] (by simp [h2]) (by simp [h1])
      exact this.v_eq
  subst this
  refine (h w (k.tab.mono hs.fz) (hs.shp.tz hs.tz)).mono ?_
  rintro en w' ⟨rfl, hb⟩
  exact ⟨v, r, s, k, rfl, ⟨rfl, rfl⟩, hs.below hb, hr k, KW.le_refl (by rw [hs.m]; exact Nat.le_refl _)⟩
/-- From the machine back to the program's own memory. -/
theorem calls_of_pcall {f : FuncId} {zs : List AV} {r : AV} (h : PCall P f zs r) (w : World) (ht : Tabs w.cell?) (hz : TabSize w) (vs : List Value) (hv : RelL ⟨fun _ => ⟨0, 0, 0⟩, 0, w.cell?, ht⟩ zs vs) :
    Calls P f vs.toArray w fun en w' => ∃ v k', en = .returned v ∧ Below w.heap.size w w' ∧ Rel k' r v := by
  have hs : Sim w ⟨fun _ => ⟨0, 0, 0⟩, 0, w.cell?, ht⟩ w ⟨fun _ => none, 0⟩ := ⟨rfl, fun _ _ h => h, fun i c hi => (by cases hi), fun i c hi => (by cases hi), fun i j c d hi => (by cases hi), Shp.refl w, hz⟩
  refine ((h _).2 w _ w vs hs hv).mono ?_
  rintro en w' ⟨v, r', s', k', rfl, ⟨rfl, _⟩, hs', hr, hk⟩
  exact ⟨v, k', rfl, hs'.shp.below fun a u ha => hs'.fz a u (hk.2.2 a u ha), hr⟩
end Go.Proofs.YtppmamcoehhopaaDoor.Ax
