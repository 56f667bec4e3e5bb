/- The abstract machine, part J: calls, regions, codes, functions. -/
import Derived.Test.YtppmamcoehhopaaDoorAxI
set_option linter.unusedVariables false
set_option linter.unusedSimpArgs false
namespace Go.Proofs.YtppmamcoehhopaaDoor.Ax
open Go Go.RowKit
variable {P : Program}

/-- A call at abstract values returns, and what it returns meets R. -/
def ACall (P : Program) (f : FuncId) (zs : List AV) (s : St) (R : AV → St → Prop) : Prop :=
  Enters P f ∧ ∀ w0 k w vs, Sim w0 k w s → RelL k zs vs → Calls P f vs.toArray w fun en w' => ∃ v r s' k', en = .returned v ∧ R r s' ∧ Sim w0 k' w' s' ∧ Rel k' r v ∧ KW.le s.nx k k'
theorem ACall.mono {f : FuncId} {zs : List AV} {s : St} {R R' : AV → St → Prop} (h : ACall P f zs s R) (hr : ∀ r s', R r s' → R' r s') : ACall P f zs s R' :=
  ⟨h.1, fun w0 k w vs hs hv => (h.2 w0 k w vs hs hv).mono fun en w' ⟨v, r, s', k', h1, h2, h3⟩ => ⟨v, r, s', k', h1, hr _ _ h2, h3⟩⟩

def calleeOf (e : Env) : Op → Option (FuncId × List AV)
  | .call c => match c.callee with
    | .value x => match e.ev x with
      | .v (.func (.func f) fst cap) => some (f, fst.toList.map .v ++ c.args.toList.map e.ev ++ cap.toList.map .v)
      | _ => none
    | _ => none
  | _ => none
/-- One operation, then K. -/
def xstep (P : Program) (o : Oper) (e : Env) (s : St) (K : Env → St → Prop) : Prop :=
  dstOk o.dst e.n = true ∧ match calleeOf e o.op with
    | some (f, zs) => ACall P f zs s fun r s' => K (e.put o.dst r) s'
    | none => match xop P e s o.op with
      | some (z, s') => K (e.put o.dst z) s'
      | none => False
theorem relL_v {k : KW} (us : List Value) : RelL k (us.map .v) us := ⟨by simp, fun j z u hz hu => by
  rw [List.getElem?_map, hu] at hz
  injection hz with hz
  subst hz
  exact .v u⟩
theorem RelL.append {k : KW} {c d : List AV} {us vs : List Value} (h : RelL k c us) (g : RelL k d vs) : RelL k (c ++ d) (us ++ vs) := by
  refine ⟨by simp [h.1, g.1], fun j z u hz hu => ?_⟩
  by_cases hj : j < c.length
  · rw [List.getElem?_append_left hj] at hz
    rw [List.getElem?_append_left (by rw [h.1]; exact hj)] at hu
    exact h.2 j z u hz hu
  · rw [List.getElem?_append_right (by omega)] at hz
    rw [List.getElem?_append_right (by rw [h.1]; omega), h.1] at hu
    exact g.2 _ z u hz hu
theorem relL_ev {k : KW} {e : Env} {a : Act} (he : EnvRel k e a) (l : List Operand) : RelL k (l.map e.ev) (l.map a.eval) := ⟨by simp, fun j z u hz hu => by
  rw [List.getElem?_map] at hz hu
  cases hj : l[j]? with
  | none => rw [hj] at hz; cases hz
  | some x =>
    rw [hj] at hz hu
    injection hz with hz
    injection hu with hu
    subst hz hu
    exact he.ev x⟩
theorem xstep_sound {o : Oper} {e : Env} {s : St} {K : Env → St → Prop} (h : xstep P o e s K) {w0 w : World} {kb k : KW} {a : Act} {m0 : Nat} (hk : KW.le m0 kb k) (hs : Sim w0 k w s) (he : EnvRel k e a)
    {K' : Act → World → Prop} {Q : Exit → Act → World → Prop} (hK : ∀ e' s' k' a' w', K e' s' → KW.le m0 kb k' → Sim w0 k' w' s' → EnvRel k' e' a' → K' a' w') : o.wp P a w K' Q := by
  obtain ⟨hd, h⟩ := h
  have hm : m0 ≤ k.m := hk.1
  split at h
  · rename_i f zs hc
    obtain ⟨dst, op, ty, pos, after, guard⟩ := o
    cases op <;> simp only [calleeOf] at hc <;> try (cases hc; done)
    rename_i c
    obtain ⟨callee, args, ts⟩ := c
    cases callee <;> simp only at hc <;> try (cases hc; done)
    rename_i x
    split at hc
    · rename_i f' fst cap hx
      injection hc with hc
      injection hc with h1 h2
      subst h1 h2
      have hr := he.ev x
      rw [hx] at hr
      have hv := hr.v_eq
      obtain ⟨hen, hcall⟩ := h
      have hargs := ((relL_v (k := k) fst.toList).append (relL_ev he args.toList)).append (relL_v cap.toList)
      have := hcall w0 k w _ hs hargs
      unfold Oper.wp
      have e1 : (fst.toList ++ args.toList.map a.eval ++ cap.toList).toArray = fst ++ args.map a.eval ++ cap := by
        apply Array.ext'
        simp
      rw [e1] at this
      simp only [execOp, resolve, Deferred.ofValue, hv, Sem.run_bind, Sem.run_pure, Result.andThen_ok, invoke, hen _ w, Oper.upon]
      refine this.mono fun en w' ⟨v, r, s', k', q1, q2, q3, q4, q5⟩ => ?_
      subst q1
      have q5' : KW.le k.m k k' := by rw [hs.m]; exact q5
      exact hK _ _ k' _ _ q2 (KW.le_trans hk (KW.le_mono q5' hm)) q3 ((he.mono q5').put hd q4)
    · cases hc
  · split at h
    · rename_i z s' hx
      obtain ⟨n, w', k', r1, r2, r3, r4⟩ := xop_sound hs he hx
      unfold Oper.wp
      rw [r1]
      cases n with
      | value v => exact hK _ _ k' _ _ h (KW.le_trans hk (KW.le_mono r4 hm)) r3 ((he.mono r4).put hd r2)
      | skip =>
        subst r2
        exact hK _ _ k' _ _ h (KW.le_trans hk (KW.le_mono r4 hm)) r3 ((he.mono r4).put hd (.no _))
      | _ => exact r2.elim
    · exact h.elim

/-- Is a guarded operation wanted? -/
def xguard (ops : Array Oper) (o : Oper) (e : Env) : Option Bool :=
  match o.guard with
  | none => some true
  | some (j, want) => match (ops[j]?).bind (·.dst) with
    | some t => match e.m t with
      | .v (.bool b) => some (b == want)
      | .v (.tuple _) => some false
      | _ => none
    | none => none
theorem xguard_sound {ops : Array Oper} {o : Oper} {e : Env} {g : Bool} (h : xguard ops o e = some g) {k : KW} {a : Act} (he : EnvRel k e a) : Region.wanted o (yielded ops a.tmps) = g := by
  unfold xguard at h
  unfold Region.wanted
  split at h
  · rename_i hg
    injection h with h
    rw [hg]
    exact h
  · rename_i j want hg
    rw [hg]
    split at h
    · rename_i t ht
      have hr := he.r t
      split at h
      · rename_i b hb
        injection h with h
        subst h
        rw [hb] at hr
        have hv := hr.v_eq
        have hy : yielded ops a.tmps j = some b := by
          unfold yielded
          rw [ht]
          simp only [Option.bind_some]
          by_cases hl : t < a.tmps.size
          · rw [Array.getElem?_eq_getElem hl]
            simp only [Array.getD_eq_getD_getElem?, Array.getElem?_eq_getElem hl, Option.getD_some] at hv
            rw [hv]
          · simp only [Array.getD_eq_getD_getElem?, Array.getElem?_eq_none (Nat.le_of_not_lt hl), Option.getD_none] at hv
            cases hv
        show (yielded ops a.tmps j == some want) = _
        rw [hy]
        simp
      · rename_i u hb
        injection h with h
        subst h
        rw [hb] at hr
        have hv := hr.v_eq
        have hy : yielded ops a.tmps j = none := by
          unfold yielded
          rw [ht]
          simp only [Option.bind_some]
          by_cases hl : t < a.tmps.size
          · rw [Array.getElem?_eq_getElem hl]
            simp only [Array.getD_eq_getD_getElem?, Array.getElem?_eq_getElem hl, Option.getD_some] at hv
            rw [hv]
          · rw [Array.getElem?_eq_none (Nat.le_of_not_lt hl)]
        show (yielded ops a.tmps j == some want) = _
        rw [hy]
        rfl
      · cases h
    · cases h
/-- One operation of a region, its guard asked. -/
def xgo (P : Program) (ops : Array Oper) (o : Oper) (e : Env) (s : St) (K : Env → St → Prop) : Prop :=
  match xguard ops o e with
  | some g => (g = true → xstep P o e s K) ∧ (g = false → dstOk o.dst e.n = true ∧ K (e.put o.dst (.v undef)) s)
  | none => False
/-- The operations of a region, in the text's order. -/
def xops (P : Program) (ops : Array Oper) : List Oper → Env → St → (Env → St → Prop) → Prop
  | [], e, s, K => K e s
  | o :: r, e, s, K => xgo P ops o e s fun e' s' => xops P ops r e' s' K

/-- Where a code comes to. -/
def APost (m0 : Nat) (w0 : World) (kb : KW) (Q : Exit → Env → St → Prop) : Exit → Act → World → Prop := fun ex a w => ∃ e s k, Q ex e s ∧ KW.le m0 kb k ∧ Sim w0 k w s ∧ EnvRel k e a
theorem xops_sound {ops : Array Oper} {m0 : Nat} {Q : Exit → Env → St → Prop} (l : List Oper) : ∀ {e : Env} {s : St}, xops P ops l e s (Q .normal) → ∀ {w0 w : World} {kb k : KW} {a : Act}, KW.le m0 kb k → Sim w0 k w s → EnvRel k e a → wpList P ops (APost m0 w0 kb Q) l a w := by
  induction l with
  | nil => exact fun h w0 w kb k a hk hs he => ⟨_, _, k, h, hk, hs, he⟩
  | cons o l ih =>
    intro e s h w0 w kb k a hk hs he
    unfold xops xgo at h
    split at h
    · rename_i g hg
      have hw := xguard_sound hg he
      unfold wpList
      cases g with
      | true =>
        rw [if_pos hw]
        exact .inl (xstep_sound (h.1 rfl) hk hs he fun e' s' k' a' w' q1 q2 q3 q4 => ih q1 q2 q3 q4)
      | false =>
        rw [if_neg (by rw [hw]; simp)]
        obtain ⟨hd, h⟩ := h.2 rfl
        exact ih h hk hs (he.put hd (.v _))
    · exact h.elim

/-- A code at an abstract frame and memory. -/
def AW (P : Program) (c : Code) (m0 : Nat) (e : Env) (s : St) (Q : Exit → Env → St → Prop) : Prop :=
  ∀ w0 kb k w a, KW.le m0 kb k → Sim w0 k w s → EnvRel k e a → c.wp P (APost m0 w0 kb Q) a w
section
variable {m0 : Nat} {e : Env} {s : St} {Q : Exit → Env → St → Prop}
theorem aw_mono {c : Code} {Q' : Exit → Env → St → Prop} (h : AW P c m0 e s Q) (hq : ∀ ex e s, Q ex e s → Q' ex e s) : AW P c m0 e s Q' :=
  fun w0 kb k w a hk hs he => wp_mono (h w0 kb k w a hk hs he) fun ex a w ⟨e, s, k, q, r⟩ => ⟨e, s, k, hq _ _ _ q, r⟩
theorem aw_skip (h : Q .normal e s) : AW P .skip m0 e s Q := fun w0 kb k w a hk hs he => wp_skip ⟨e, s, k, h, hk, hs, he⟩
theorem aw_ret (h : Q .ret e s) : AW P .ret m0 e s Q := fun w0 kb k w a hk hs he => wp_ret ⟨e, s, k, h, hk, hs, he⟩
theorem aw_exit {id : Nat} (h : Q (.exit id) e s) : AW P (.exit id) m0 e s Q := fun w0 kb k w a hk hs he => wp_exit ⟨e, s, k, h, hk, hs, he⟩
/-- What a sequence asks of its first half. -/
def andThen (P : Program) (y : Code) (m0 : Nat) (Q : Exit → Env → St → Prop) : Exit → Env → St → Prop
  | .normal, e, s => AW P y m0 e s Q
  | ex, e, s => Q ex e s
theorem aw_seq {x y : Code} (h : AW P x m0 e s (andThen P y m0 Q)) : AW P (.seq x y) m0 e s Q :=
  fun w0 kb k w a hk hs he => wp_seq (wp_mono (h w0 kb k w a hk hs he) fun ex a w ⟨e, s, k', q, hk', hs', he'⟩ => by
    cases ex with
    | normal => exact q w0 kb k' w a hk' hs' he'
    | _ => exact ⟨e, s, k', q, hk', hs', he'⟩)
theorem aw_cond {c : Operand} {x y : Code} {b : Bool} (hc : e.ev c = .v (.bool b)) (ht : b = true → AW P x m0 e s Q) (hf : b = false → AW P y m0 e s Q) : AW P (.cond c x y) m0 e s Q := by
  intro w0 kb k w a hk hs he
  have hr := he.ev c
  rw [hc] at hr
  exact wp_cond_split hr.v_eq (fun h => ht h w0 kb k w a hk hs he) (fun h => hf h w0 kb k w a hk hs he)
def inBlock (id : Nat) (Q : Exit → Env → St → Prop) : Exit → Env → St → Prop
  | .exit id', e, s => if id' = id then Q .normal e s else Q (.exit id') e s
  | ex, e, s => Q ex e s
theorem aw_block {id : Nat} {c : Code} (h : AW P c m0 e s (inBlock id Q)) : AW P (.block id c) m0 e s Q :=
  fun w0 kb k w a hk hs he => wp_block (wp_mono (h w0 kb k w a hk hs he) fun ex a w ⟨e, s, k', q, r⟩ => by
    cases ex with
    | exit id' =>
      show if id' = id then APost m0 w0 kb Q .normal a w else APost m0 w0 kb Q (.exit id') a w
      have q' : if id' = id then Q .normal e s else Q (.exit id') e s := q
      by_cases h : id' = id
      · rw [if_pos h] at q' ⊢
        exact ⟨e, s, k', q', r⟩
      · rw [if_neg h] at q' ⊢
        exact ⟨e, s, k', q', r⟩
    | _ => exact ⟨e, s, k', q, r⟩)
theorem aw_region {id : Nat} {ops : Array Oper} (h : xops P ops ops.toList e s (Q .normal)) : AW P (.region id ops false) m0 e s Q :=
  fun w0 kb k w a hk hs he => wp_region_list (xops_sound _ h hk hs he)
/-- A loop: what holds at each round's head, and a number that goes down. -/
def inLoop (I : Nat → Env → St → Prop) (n : Nat) (Q : Exit → Env → St → Prop) : Exit → Env → St → Prop
  | .normal, e, s => ∃ n', n' < n ∧ I n' e s
  | ex, e, s => Q ex e s
theorem aw_loop {c : Code} (I : Nat → Env → St → Prop) (n : Nat) (h0 : I n e s) (round : ∀ n e s, I n e s → AW P c m0 e s (inLoop I n Q)) : AW P (.loop c) m0 e s Q := by
  intro w0 kb k w a hk hs he
  refine wp_loop_ghost (fun n a w => APost m0 w0 kb (fun _ e s => I n e s) .normal a w) n ⟨e, s, k, h0, hk, hs, he⟩ ?_
  rintro n a w ⟨e, s, k, hI, hk, hs, he⟩
  refine wp_mono (round n e s hI w0 kb k w a hk hs he) fun ex a w ⟨e, s, k', q, r⟩ => ?_
  cases ex with
  | normal =>
    obtain ⟨n', hn, hI'⟩ := q
    exact ⟨n', hn, e, s, k', hI', r⟩
  | _ => exact ⟨e, s, k', q, r⟩

end
end Go.Proofs.YtppmamcoehhopaaDoor.Ax
