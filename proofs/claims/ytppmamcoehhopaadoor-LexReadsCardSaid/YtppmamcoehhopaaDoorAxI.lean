/- The abstract machine, part I: one operation is sound; regions, codes, calls. -/
import Derived.Test.YtppmamcoehhopaaDoorAxH
import Derived.Deep.LoopGhost
import Derived.Shelf.Abstract
set_option linter.unusedVariables false
set_option linter.unusedSimpArgs false
namespace Go.Proofs.YtppmamcoehhopaaDoor.Ax
open Go Go.RowKit
variable {P : Program}

theorem gives_opt {w0 w : World} {k : KW} {s s' : St} {m : Sem Next} {x : Option AV} {z : AV} (h : x.map (·, s) = some (z, s')) (g : ∀ z, x = some z → Gives P w0 k m w z s) : Gives P w0 k m w z s' := by
  cases x with
  | none => cases h
  | some y =>
    injection h with h
    injection h with h1 h2
    subst h1 h2
    exact g y rfl
theorem optRel {k : KW} {e : Env} {a : Act} (he : EnvRel k e a) (x : Option Operand) : match x.map e.ev, x.map a.eval with | none, none => True | some z, some u => Rel k z u | _, _ => False := by
  cases x with
  | none => trivial
  | some x => exact he.ev x
theorem list_two {α β : Type} {f : α → β} {l : List α} {x y : β} (h : l.map f = [x, y]) : ∃ a b, l = [a, b] ∧ f a = x ∧ f b = y := by
  match l, h with
  | [a, b], h =>
    simp only [List.map_cons, List.map_nil, List.cons.injEq, and_true] at h
    exact ⟨a, b, rfl, h.1, h.2⟩
theorem list_one {α β : Type} {f : α → β} {l : List α} {x : β} (h : l.map f = [x]) : ∃ a, l = [a] ∧ f a = x := by
  match l, h with
  | [a], h =>
    simp only [List.map_cons, List.map_nil, List.cons.injEq, and_true] at h
    exact ⟨a, rfl, h⟩
theorem toList_eq {α : Type} {a : Array α} {l : List α} (h : a.toList = l) : a = l.toArray := by rw [← h]
theorem builtin_sound {w0 w : World} {k : KW} {s s' : St} (hs : Sim w0 k w s) {e : Env} {a : Act} (he : EnvRel k e a) {b : Builtin} {args : Array Operand} {ts : Array TypeId} {dst : Option Tmp} {ty : TypeId} {pos : String} {after : Array Edge} {guard : Option (Nat × Bool)} {z : AV}
    (h : xbuiltin P s b (args.toList.map e.ev) ts.toList = some (z, s')) : Gives P w0 k (execOp a.eval ⟨dst, .call ⟨.builtin b, args, ts⟩, ty, pos, after, guard⟩) w z s' := by
  unfold xbuiltin at h
  split at h
  · rename_i x t e1 e2
    obtain ⟨ox, h1, rfl⟩ := list_one e1
    obtain rfl := toList_eq h1
    obtain rfl := toList_eq e2
    refine gives_opt h fun z hz => ?_
    obtain ⟨v, w', k', r1, r2, r3, r4⟩ := len_gives (ty := ty) hs (he.ev ox) hz
    exact ⟨.value v, w', k', by simp [execOp, resolve, invoke, builtin, Sem.run_bind, r1], r2, r3, r4⟩
  · rename_i x y t u e1 e2
    obtain ⟨ox, oy, h1, rfl, rfl⟩ := list_two e1
    obtain rfl := toList_eq h1
    obtain rfl := toList_eq e2
    obtain ⟨v, w', k', r1, r2, r3, r4⟩ := append_gives (ty := ty) hs (he.ev ox) (he.ev oy) h
    exact ⟨.value v, w', k', by simp [execOp, resolve, invoke, builtin, Sem.run_bind, r1], r2, r3, r4⟩
  · rename_i x y e1
    obtain ⟨ox, oy, h1, rfl, rfl⟩ := list_two e1
    obtain rfl := toList_eq h1
    refine gives_opt h fun z hz => ?_
    have h1 := he.ev ox
    have h2 := he.ev oy
    unfold xminmax at hz
    split at hz
    · rename_i k1 b1 k2 b2 e1 e2
      injection hz with hz
      subst hz
      rw [e1] at h1
      rw [e2] at h2
      exact ⟨.value _, w, k, by simp [execOp, resolve, invoke, builtin, Sem.run_bind, h1.v_eq, h2.v_eq, Builtin.min_, Builtin.min2], .v _, hs, KW.le_refl (Nat.le_refl _)⟩
    · cases hz
  · rename_i x y e1
    obtain ⟨ox, oy, h1, rfl, rfl⟩ := list_two e1
    obtain rfl := toList_eq h1
    refine gives_opt h fun z hz => ?_
    have h1 := he.ev ox
    have h2 := he.ev oy
    unfold xminmax at hz
    split at hz
    · rename_i k1 b1 k2 b2 e1 e2
      injection hz with hz
      subst hz
      rw [e1] at h1
      rw [e2] at h2
      exact ⟨.value _, w, k, by simp [execOp, resolve, invoke, builtin, Sem.run_bind, h1.v_eq, h2.v_eq, Builtin.max_, Builtin.max2], .v _, hs, KW.le_refl (Nat.le_refl _)⟩
    · cases hz
  · cases h
set_option maxHeartbeats 1000000 in
theorem xop_sound {w0 w : World} {k : KW} {s s' : St} (hs : Sim w0 k w s) {e : Env} {a : Act} (he : EnvRel k e a) {o : Oper} {z : AV} (h : xop P e s o.op = some (z, s')) : Gives P w0 k (execOp a.eval o) w z s' := by
  obtain ⟨dst, op, ty, pos, after, guard⟩ := o
  unfold xop at h
  simp only at h
  split at h
  · rename_i x
    injection h with h
    injection h with h1 h2
    subst h1 h2
    exact ⟨.value (a.eval x), w, k, rfl, he.ev x, hs, KW.le_refl (Nat.le_refl _)⟩
  · rename_i x
    injection h with h
    injection h with h1 h2
    subst h1 h2
    exact ⟨.value (a.eval x), w, k, rfl, he.ev x, hs, KW.le_refl (Nat.le_refl _)⟩
  · rename_i c x y
    split at h
    · rename_i t hc
      injection h with h
      injection h with h1 h2
      subst h1 h2
      have := he.ev c
      rw [hc] at this
      have hcv := this.v_eq
      refine ⟨.value (if t then a.eval x else a.eval y), w, k, ?_, ?_, hs, KW.le_refl (Nat.le_refl _)⟩
      · simp only [execOp, hcv, asBool, Sem.run_bind, Sem.run_pure, Result.andThen_ok]
      · cases t
        · exact he.ev y
        · exact he.ev x
    · cases h
  · rename_i t
    split at h
    · rename_i ti ht
      injection h with h
      injection h with h1 h2
      subst h1 h2
      exact (alloc_gives hs ht).gives
    · cases h
  · rename_i t x
    split at h
    · rename_i hb
      injection h with h
      injection h with h1 h2
      subst h1 h2
      exact (box_gives hs (he.ev x) hb).gives
    · cases h
  · rename_i t ps
    split at h
    · rename_i ti ht
      split at h
      · rename_i fs hk
        split at h
        · rename_i places hp
          split at h
          · rename_i c hc
            injection h with h
            injection h with h1 h2
            subst h1 h2
            exact (build_gives hs he ht hk hp hc).gives
          · cases h
        · cases h
      · cases h
    · cases h
  · rename_i t n ps
    exact (buildSlice_gives hs (ps := ps.map fun p => (p.1, a.eval p.2)) (by simp) (fun j p q hp hq => by
      rw [Array.getElem?_map] at hp
      rw [List.getElem?_map] at hq
      cases hj : ps[j]? with
      | none => rw [hj] at hp; cases hp
      | some x =>
        rw [Array.getElem?_toList, hj] at hq
        rw [hj] at hp
        injection hp with hp
        injection hq with hq
        subst hp hq
        exact ⟨rfl, he.ev _⟩) h).gives
  · rename_i t x
    exact gives_opt h fun z hz => (load_gives hs (he.ev x) hz).gives
  · rename_i t p x
    cases hx : xstore P s t (e.ev p) (e.ev x) with
    | none => rw [hx] at h; cases h
    | some s1 =>
      rw [hx] at h
      injection h with h
      injection h with h1 h2
      subst h1 h2
      obtain ⟨w', r1, r2⟩ := store_gives hs (he.ev p) (he.ev x) hx
      exact ⟨.skip, w', k, by simp only [execOp, Sem.run_bind, r1, Result.andThen_ok, Sem.run_pure], rfl, r2, KW.le_refl (Nat.le_refl _)⟩
  · rename_i x
    split at h
    · rename_i id off hx
      injection h with h
      injection h with h1 h2
      subst h1 h2
      have := he.ev x
      rw [hx] at this
      generalize hu : a.eval x = u at this
      cases this with
      | ptr _ _ hi => exact ⟨.value _, w, k, by simp only [execOp, hu]; rfl, .ptr _ _ hi, hs, KW.le_refl (Nat.le_refl _)⟩
    · rename_i c hx
      injection h with h
      injection h with h1 h2
      subst h1 h2
      have := he.ev x
      rw [hx] at this
      generalize hu : a.eval x = u at this
      cases this with
      | rf _ b us q1 q2 => exact ⟨.value _, w, k, by simp only [execOp, hu]; rfl, .rf _ _ us q1 q2, hs, KW.le_refl (Nat.le_refl _)⟩
    · cases h
  · rename_i op t x y _
    cases hx : xbin P op t (isK x) (isK y) (e.ev x) (e.ev y) with
    | none => rw [hx] at h; cases h
    | some v =>
      rw [hx] at h
      injection h with h
      injection h with h1 h2
      subst h1 h2
      exact (bin_gives hs (he.ev x) (he.ev y) hx).gives
  · rename_i op t x
    refine gives_opt h fun z hz => GivesV.gives ?_
    have hr := he.ev x
    unfold xun at hz
    split at hz
    · rename_i k0 n hx
      injection hz with hz
      subst hz
      rw [hx] at hr
      rw [hr.v_eq]
      exact .pure hs (by simp [Op.unary, Op.intArith]) (.v _)
    · rename_i b hx
      injection hz with hz
      subst hz
      rw [hx] at hr
      rw [hr.v_eq]
      exact .pure hs (by simp [Op.unary]) (.v _)
    · cases hz
  · rename_i t1 t2 x
    exact gives_opt h fun z hz => (conv_gives hs (he.ev x) hz).gives
  · rename_i t l c
    exact (make_gives hs (he.ev l) (he.ev c) h).gives
  · rename_i t x lo hi mx
    cases mx with
    | some m => cases h
    | none =>
    exact gives_opt h fun z hz => (slice_gives hs (he.ev x) (optRel he lo) (optRel he hi) hz).gives
  · rename_i t x f
    split at h
    · cases h
    · rename_i hne
      exact gives_opt h fun z hz => (fieldAt_gives hs (he.ev x) hne hz).gives
  · rename_i t x f
    split at h
    · rename_i c hx
      have hr := he.ev x
      rw [hx] at hr
      exact gives_opt h fun z hz => (field_gives hs hr hz).gives
    · cases h
  · rename_i t x i
    exact gives_opt h fun z hz => (indexAddr_gives hs (he.ev x) (he.ev i) hz).gives
  · rename_i t x i
    exact gives_opt h fun z hz => (index_gives hs (he.ev x) (he.ev i) hz).gives
  · rename_i x i
    split at h
    · rename_i c hx
      have hr := he.ev x
      rw [hx] at hr
      refine gives_opt h fun z hz => GivesV.gives ?_
      generalize a.eval x = u at hr
      cases hr with
      | tp _ us hl hr =>
        have hj := (List.getElem?_eq_some_iff.1 hz).1
        have hu : us[i]? = some (us[i]'(by omega)) := List.getElem?_eq_getElem _
        refine .pure hs ?_ (hr i z _ hz hu)
        simp [Instr.extract, hu]
    · cases h
  · rename_i t x
    split at h
    · rename_i ti u ht hx
      split at h
      · cases h
      · rename_i hk
        injection h with h
        injection h with h1 h2
        subst h1 h2
        have hr := he.ev x
        rw [hx] at hr
        have hv := hr.v_eq
        obtain ⟨d, i, z, hd, hi, hz, hs2, hby, hcz, hk2⟩ := ti_info ht
        refine GivesV.gives (.pure hs ?_ (.v _))
        rw [hv]
        have : ∀ ms, d ≠ .interface ms := fun ms hms => hk (by rw [hk2]; unfold kindOf; rw [hd, hms])
        cases d <;> first | (simp [Instr.makeInterface, run_underlying hd]; done) | exact absurd rfl (this _)
    · cases h
  · rename_i c
    obtain ⟨callee, args, argTypes⟩ := c
    simp only at h
    split at h
    · rename_i b
      exact builtin_sound hs he h
    · cases h
  · cases h
end Go.Proofs.YtppmamcoehhopaaDoor.Ax
