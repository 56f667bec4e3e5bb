/- The law NumOrder: for every input the call answers true; the arguments read as they did. The tables of Go's library that the row lists are tied to the program's text. -/
import Derived.Test.YtfjelkjlfcafgaaGreatDoorPNumF
import Derived.WalkKit
import Derived.ProofKit
import Derived.OpenShut
import Derived.ShutString
import Derived.ChangeOld
import Derived.Below
import Derived.Carry
import Derived.Lay
import Derived.SizedLaws
import Derived.Stop.FmtTextKit
import Derived.Deep.DeepHandedRow
import Derived.Deep.DeepWitnessRowRef
import Derived.SevenTiedAt
section
namespace Go.Proofs.YtfjelkjlfcafgaaGreatDoor.numOrder
open Go.ChangeShapes Go.WideShapes Go.ChangeAt Go.RowKit
open Go.ChangeMaps (open_string shut_string)
open Go.Proofs.YtfjelkjlfcafgaaGreatDoor.Ax Go.Proofs.YtfjelkjlfcafgaaGreatDoor.NumLaid Go.Proofs.YtfjelkjlfcafgaaGreatDoor.NumOpen Go.Proofs.YtfjelkjlfcafgaaGreatDoor.NumO
set_option linter.unusedVariables false

set_option maxRecDepth 100000 in
theorem contract (H : Type) (enc : TypeId × Value → H) (W : World) (base : Nat) (args : Array Value) (ds gs : List (DataW H)) (before : List MemPlace)
    (hval0 : ∀ (j : Nat) t v, Tryz.f7.params[j]? = some t → args[j]? = some v → Value.okWide Tryz.prog W .any base t v)
    (hW : DataW.Whole enc Tryz.prog Tryz.f7.params.toList Rows.numOrderSpec.vars false W args.toList ds gs before)
    (hsz : (DataW.weightsEach Tryz.prog (Tryz.f7.params.toList ++ Rows.numOrderSpec.plain.varTypes Tryz.prog) (ds ++ gs)).all (· ≤ reachBytes) = true)
    (hL : laidMet Tryz.prog Rows.numShiftRow.laid W) :
    Calls Tryz.prog 7 args W fun e W' => ∃ v, e = .returned v ∧ Rows.numOrderSpec.post enc Tryz.prog Tryz.f7 false true false false W args v W' := by
  have hval : ∀ (j : Nat) t v, Tryz.f7.params[j]? = some t → args[j]? = some v → Value.okWide Tryz.prog W .any base t v := hval0
  have hW' := hW
  have hlt := hW.lt
  obtain ⟨p, q, hA0, hV, rfl, hfz, hnd⟩ := hW
  have hA : DataW.TrodAll enc Tryz.prog W 0 (fun _ => true) true Tryz.f7.params.toList args.toList ds p := hA0
  rw [Tryz.params7] at hA hval hsz
  obtain ⟨v0, vs0, d0, ds0, p0, q0, hargs, rfl, rfl, h0, r0⟩ := trodAll_cons hA
  obtain ⟨v1, vs1, d1, ds1, p1, q1, rfl, rfl, rfl, h1, r1⟩ := trodAll_cons r0
  obtain ⟨v2, vs2, d2, ds2, p2, q2, rfl, rfl, rfl, h2, r2⟩ := trodAll_cons r1
  obtain ⟨rfl, rfl, rfl⟩ := trodAll_nil r2
  obtain rfl : args = #[v0, v1, v2] := by cases args; simp_all
  obtain ⟨rfl, rfl⟩ := trodVars_none hV
  have k0 : DataW.Trod enc Tryz.prog W 0 (fun _ => true) true 24 v0 d0 p0 := h0
  have l0 : ∀ x ∈ p0, x.block < W.heap.size := fun x hx => hlt x (by simp only [List.mem_append]; simp [hx])
  have k1 : DataW.Trod enc Tryz.prog W 0 (fun _ => true) true 24 v1 d1 p1 := h1
  have l1 : ∀ x ∈ p1, x.block < W.heap.size := fun x hx => hlt x (by simp only [List.mem_append]; simp [hx])
  have k2 : DataW.Trod enc Tryz.prog W 0 (fun _ => true) true 24 v2 d2 p2 := h2
  have l2 : ∀ x ∈ p2, x.block < W.heap.size := fun x hx => hlt x (by simp only [List.mem_append]; simp [hx])
  obtain ⟨m0, x0, rfl, ym0, yx0⟩ := open_two (t := 24) (t0 := 2) (t1 := 3) Tryz.underlying24 rfl (by kernel_rfl) (by kernel_rfl) (by kernel_rfl) Tryz.underlying2 Tryz.underlying3 (hval 0 24 v0 rfl rfl) h0
  have bm0 : -9223372036854775808 ≤ m0 ∧ m0 ≤ 9223372036854775807 := by simpa [IntKind.min, IntKind.max, IntKind.signed, IntKind.bits] using Go.Extern.FmtText.int_bounds ym0
  have bx0 : -9223372036854775808 ≤ x0 ∧ x0 ≤ 9223372036854775807 := by simpa [IntKind.min, IntKind.max, IntKind.signed, IntKind.bits] using Go.Extern.FmtText.int_bounds yx0
  obtain ⟨m1, x1, rfl, ym1, yx1⟩ := open_two (t := 24) (t0 := 2) (t1 := 3) Tryz.underlying24 rfl (by kernel_rfl) (by kernel_rfl) (by kernel_rfl) Tryz.underlying2 Tryz.underlying3 (hval 1 24 v1 rfl rfl) h1
  have bm1 : -9223372036854775808 ≤ m1 ∧ m1 ≤ 9223372036854775807 := by simpa [IntKind.min, IntKind.max, IntKind.signed, IntKind.bits] using Go.Extern.FmtText.int_bounds ym1
  have bx1 : -9223372036854775808 ≤ x1 ∧ x1 ≤ 9223372036854775807 := by simpa [IntKind.min, IntKind.max, IntKind.signed, IntKind.bits] using Go.Extern.FmtText.int_bounds yx1
  obtain ⟨m2, x2, rfl, ym2, yx2⟩ := open_two (t := 24) (t0 := 2) (t1 := 3) Tryz.underlying24 rfl (by kernel_rfl) (by kernel_rfl) (by kernel_rfl) Tryz.underlying2 Tryz.underlying3 (hval 2 24 v2 rfl rfl) h2
  have bm2 : -9223372036854775808 ≤ m2 ∧ m2 ≤ 9223372036854775807 := by simpa [IntKind.min, IntKind.max, IntKind.signed, IntKind.bits] using Go.Extern.FmtText.int_bounds ym2
  have bx2 : -9223372036854775808 ≤ x2 ∧ x2 ≤ 9223372036854775807 := by simpa [IntKind.min, IntKind.max, IntKind.signed, IntKind.bits] using Go.Extern.FmtText.int_bounds yx2
  clear hA0 hval0 hsz
  have hcall := NumO.order_ax m0 x0 m1 x1 m2 x2
  refine (calls_of_pcall hcall W (tabs hL) (tabSize hL) [.agg #[.int .i64 m0, .int .i64 x0], .agg #[.int .i64 m1, .int .i64 x1], .agg #[.int .i64 m2, .int .i64 x2]] (relL_mk3 (.ag [.v (.int .i64 m0), .v (.int .i64 x0)] [.int .i64 m0, .int .i64 x0] rfl (rel_two (.v _) (.v _))) (.ag [.v (.int .i64 m1), .v (.int .i64 x1)] [.int .i64 m1, .int .i64 x1] rfl (rel_two (.v _) (.v _))) (.ag [.v (.int .i64 m2), .v (.int .i64 x2)] [.int .i64 m2, .int .i64 x2] rfl (rel_two (.v _) (.v _))))).mono fun e W' ⟨v, k', he, bel, hr⟩ => ?_
  subst he
  obtain rfl := hr.v_eq
  exact ⟨_, rfl, _, _, _, [], _, [], hW', trodAll_mk1 (shut_bool Tryz.underlying4 _), (trodAll_cons_mk (Below.trod laidOut (by kernel_rfl) (of_decide_eq_true (by kernel_rfl)) k0 bel l0) (trodAll_cons_mk (Below.trod laidOut (by kernel_rfl) (of_decide_eq_true (by kernel_rfl)) k1 bel l1) (trodAll_cons_mk (Below.trod laidOut (by kernel_rfl) (of_decide_eq_true (by kernel_rfl)) k2 bel l2) trodAll_mk0))), rfl, bel.frame _, fun h => by cases h⟩

set_option maxRecDepth 100000 in
theorem reads (os : Os) {H : Type} (enc : TypeId × Value → H) : ∃ places, DataW.whole enc Tryz.prog ((laidWorld os).forCall (fun _ _ => 0) ⟨#[], #[.agg #[.int .i64 0, .int .i64 0], .agg #[.int .i64 0, .int .i64 0], .agg #[.int .i64 0, .int .i64 0]], []⟩).memory Tryz.f7.params.toList Rows.numOrderSpec.vars false (#[.agg #[.int .i64 0, .int .i64 0], .agg #[.int .i64 0, .int .i64 0], .agg #[.int .i64 0, .int .i64 0]] : Array Value).toList 8 = some ([.agg [.lit (.int .i64 0), .lit (.int .i64 0)], .agg [.lit (.int .i64 0), .lit (.int .i64 0)], .agg [.lit (.int .i64 0), .lit (.int .i64 0)]], [], places) :=
  ⟨[], by kernel_rfl⟩

set_option maxRecDepth 100000 in
theorem lifted (os : Os) (started : os.Started) (H : Type) (enc : TypeId × Value → H) (F : Stop.Interp) :
    ReturnsInHanded {} Tryz.checked os 7 .any ((OpenSpec.ofChange Rows.numOrderSpec).preRow enc Tryz.prog Tryz.f7 Rows.numOrderRow.domain false Rows.numOrderRow.laid) (((OpenSpec.ofChange Rows.numOrderSpec).at F).post enc Tryz.prog Tryz.f7 false true false false) := by
  obtain ⟨places, hx⟩ := reads os enc
  refine returnsInHanded_of_row (C := Tryz.checked) (s := OpenSpec.ofChange Rows.numOrderSpec) own started (by kernel_rfl) Tryz.func7
    (witness_row_atRef (enc := enc) (C := Tryz.checked) false (laidWorld os) #[.agg #[.int .i64 0, .int .i64 0], .agg #[.int .i64 0, .int .i64 0], .agg #[.int .i64 0, .int .i64 0]] (laidWorld_os os) (by kernel_rfl) (by kernel_rfl) (by kernel_rfl)
      (OpenSpec.preRow_of_cond 8 hx (by kernel_rfl) (fun k hk => by cases hk) (by kernel_rfl) (laid_met os _))) ?_
  intro W base args ds gs before hval hW _ _ hsz hL _ _
  exact contract H enc W base args ds gs before hval hW hsz hL

theorem said : Rows.NumOrderSaid :=
  OpenClaim.holds_of_cond 7 Tryz.f7 rfl rfl rfl rfl rfl rfl rfl ⟨rfl, rfl, rfl, rfl, rfl⟩ rfl rfl rfl rfl rfl (by kernel_rfl) Tryz.func7 (by kernel_rfl)
    (of_decide_eq_true (by kernel_rfl)) (by unfold Func.isWrapper; first | (rw [if_pos (by decide +kernel)]; kernel_rfl) | (rw [if_neg (by decide +kernel)]; exact ⟨rfl, rfl⟩))
    (fun os started H enc _ F => by rw [OpenClaim.pre_eq_preRow]; exact lifted os started H enc F)

theorem plain (f : FuncId) (fn : Func) (hf : Tryz.pinned.checked.prog.funcNamed "shunt/shuntlaw03.NumOrder" = some f) (hfn : Tryz.pinned.checked.prog.funcs[f]? = some fn) :
    true = Tryz.pinned.checked.prog.looks [] ∧ ∀ (j : Nat) t, fn.params[j]? = some t → Tryz.pinned.checked.prog.wantsStandIn t = false := by
  obtain rfl : f = 7 := Option.some.inj ((show Tryz.prog.funcNamed "shunt/shuntlaw03.NumOrder" = some 7 by kernel_rfl).symm.trans hf) |>.symm
  obtain rfl : fn = Tryz.f7 := (Option.some.inj (Tryz.func7.symm.trans hfn)).symm
  refine ⟨by kernel_rfl, fun j t ht => ?_⟩
  rw [Tryz.params7] at ht
  have hm : t ∈ [24, 24, 24] := List.mem_of_getElem? (l := [24, 24, 24]) (i := j) (by rw [← ht]; simp)
  have hall : ([24, 24, 24].all fun u => !Tryz.prog.wantsStandIn u) = true := by kernel_rfl
  exact (show Tryz.prog.wantsStandIn t = false by simpa using List.all_eq_true.1 hall t hm)

theorem card : Rows.NumOrderCardSaid :=
  Claim7.holds_tied_plain_at .later [] _ _ _ _ said (fun _ h => by cases h) (by kernel_rfl) (fun _ h => by cases h) numOrder_row_tie rfl ⟨rfl, rfl⟩ (by kernel_rfl) rfl plain (by kernel_rfl)
end Go.Proofs.YtfjelkjlfcafgaaGreatDoor.numOrder
namespace Go.Proofs.YtfjelkjlfcafgaaGreatDoor
/-- The card, under a short name, for the claim. -/
theorem numOrder_holds : Rows.NumOrderCardSaid := numOrder.card
end Go.Proofs.YtfjelkjlfcafgaaGreatDoor
end
