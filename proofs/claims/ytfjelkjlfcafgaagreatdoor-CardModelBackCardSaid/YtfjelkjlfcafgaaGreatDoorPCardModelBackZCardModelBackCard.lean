/- The law CardModelBack: for every model and every row of words the call answers true (what is written is read as the same model; what is read is written, and read as the same); the arguments read as they did. The tables of Go's library that the row lists are tied to the program's text. -/
import Derived.Test.YtfjelkjlfcafgaaGreatDoorPCardModelBackE
import Derived.WalkKit
import Derived.ProofKit
import Derived.OpenShut
import Derived.ShutString
import Derived.ChangeOld
import Derived.Below
import Derived.Carry
import Derived.Lay
import Derived.SizedLaws
import Derived.Stop.FmtTextKit
import Derived.Deep.DeepHandedRow
import Derived.Deep.DeepWitnessRowRef
import Derived.SevenTiedAt
section
namespace Go.Proofs.YtfjelkjlfcafgaaGreatDoor.cardModelBack
open Go.ChangeShapes Go.WideShapes Go.ChangeAt Go.RowKit
open Go.ChangeMaps (open_string shut_string)
open Go.Proofs.YtfjelkjlfcafgaaGreatDoor.Ax Go.Proofs.YtfjelkjlfcafgaaGreatDoor.NumLaid Go.Proofs.YtfjelkjlfcafgaaGreatDoor.CardW
set_option linter.unusedVariables false

set_option maxRecDepth 100000 in
theorem contract (H : Type) (enc : TypeId × Value → H) (W : World) (base : Nat) (args : Array Value) (ds gs : List (DataW H)) (before : List MemPlace)
    (hval0 : ∀ (j : Nat) t v, Tryz.f12.params[j]? = some t → args[j]? = some v → Value.okWide Tryz.prog W .any base t v)
    (hW : DataW.Whole enc Tryz.prog Tryz.f12.params.toList Rows.cardModelBackSpec.vars false W args.toList ds gs before)
    (hsz : (DataW.weightsEach Tryz.prog (Tryz.f12.params.toList ++ Rows.cardModelBackSpec.plain.varTypes Tryz.prog) (ds ++ gs)).all (· ≤ reachBytes) = true)
    (hL : laidMet Tryz.prog Rows.numShiftRow.laid W) :
    Calls Tryz.prog 12 args W fun e W' => ∃ v, e = .returned v ∧ Rows.cardModelBackSpec.post enc Tryz.prog Tryz.f12 false true false false W args v W' := by
  have hval : ∀ (j : Nat) t v, Tryz.f12.params[j]? = some t → args[j]? = some v → Value.okWide Tryz.prog W .any base t v := hval0
  have hW' := hW
  have hlt := hW.lt
  obtain ⟨p, q, hA0, hV, rfl, hfz, hnd⟩ := hW
  have hA : DataW.TrodAll enc Tryz.prog W 0 (fun _ => true) true Tryz.f12.params.toList args.toList ds p := hA0
  rw [Tryz.params12] at hA hval hsz
  obtain ⟨v0, vs0, d0, ds0, p0, q0, hargs, rfl, rfl, h0, r0⟩ := trodAll_cons hA
  obtain ⟨v1, vs1, d1, ds1, p1, q1, rfl, rfl, rfl, h1, r1⟩ := trodAll_cons r0
  obtain ⟨rfl, rfl, rfl⟩ := trodAll_nil r1
  obtain rfl : args = #[v0, v1] := by cases args; simp_all
  obtain ⟨rfl, rfl⟩ := trodVars_none hV
  have k0 : DataW.Trod enc Tryz.prog W 0 (fun _ => true) true 82 v0 d0 p0 := h0
  have l0 : ∀ x ∈ p0, x.block < W.heap.size := fun x hx => hlt x (by simp only [List.mem_append]; simp [hx])
  have k1 : DataW.Trod enc Tryz.prog W 0 (fun _ => true) true 36 v1 d1 p1 := h1
  have l1 : ∀ x ∈ p1, x.block < W.heap.size := fun x hx => hlt x (by simp only [List.mem_append]; simp [hx])
  obtain ⟨cs0, rfl⟩ := CardX.struct_shape Tryz.underlying82 (hval 0 82 v0 rfl rfl)
  obtain ⟨fu0, hf0⟩ := h0
  obtain ⟨M0, hr0⟩ := CardX.op_m (tabs hL) fu0 _ _ hf0 (CardX.sized_arg hsz (j := 0) rfl (by simp))
  obtain ⟨ca1, cl1, cc1, rfl⟩ := CardX.slice_shape Tryz.underlying36 (hval 1 36 v1 rfl rfl)
  obtain ⟨fu1, hf1⟩ := h1
  obtain ⟨W1, hr1⟩ := CardX.op_ws (tabs hL) fu1 _ _ hf1 (CardX.sized_arg hsz (j := 1) rfl (by simp))
  clear hA0 hval0 hsz
  have hcall := CardW.modelBack_in M0 W1
  refine (calls_of_pcall hcall W (tabs hL) (tabSize hL) [.agg cs0, .slice ca1 cl1 cc1] (relL_mk2 (CardX.arg_cells hr0) (hr1.2 0 _ _ rfl rfl))).mono fun e W' ⟨v, k', he, bel, hr⟩ => ?_
  subst he
  obtain rfl := hr.v_eq
  exact ⟨_, rfl, _, _, _, [], _, [], hW', trodAll_mk1 (shut_bool Tryz.underlying4 _), (trodAll_cons_mk (Below.trod laidOut (by kernel_rfl) (of_decide_eq_true (by kernel_rfl)) k0 bel l0) (trodAll_cons_mk (Below.trod laidOut (by kernel_rfl) (of_decide_eq_true (by kernel_rfl)) k1 bel l1) trodAll_mk0)), rfl, bel.frame _, fun h => by cases h⟩

set_option maxRecDepth 100000 in
theorem reads (os : Os) {H : Type} (enc : TypeId × Value → H) : ∃ places, DataW.whole enc Tryz.prog ((laidWorld os).forCall (fun _ _ => 0) ⟨#[], #[.agg #[.string ByteArray.empty, .int .u8 0, .slice none 0 0, .slice none 0 0], .slice none 0 0], []⟩).memory Tryz.f12.params.toList Rows.cardModelBackSpec.vars false (#[.agg #[.string ByteArray.empty, .int .u8 0, .slice none 0 0, .slice none 0 0], .slice none 0 0] : Array Value).toList 8 = some ([.agg [.lit (.string []), .lit (.int .u8 0), .nil, .nil], .nil], [], places) :=
  ⟨[], by kernel_rfl⟩

set_option maxRecDepth 100000 in
theorem lifted (os : Os) (started : os.Started) (H : Type) (enc : TypeId × Value → H) (F : Stop.Interp) :
    ReturnsInHanded {} Tryz.checked os 12 .any ((OpenSpec.ofChange Rows.cardModelBackSpec).preRow enc Tryz.prog Tryz.f12 Rows.cardModelBackRow.domain false Rows.cardModelBackRow.laid) (((OpenSpec.ofChange Rows.cardModelBackSpec).at F).post enc Tryz.prog Tryz.f12 false true false false) := by
  obtain ⟨places, hx⟩ := reads os enc
  refine returnsInHanded_of_row (C := Tryz.checked) (s := OpenSpec.ofChange Rows.cardModelBackSpec) own started (by kernel_rfl) Tryz.func12
    (witness_row_atRef (enc := enc) (C := Tryz.checked) false (laidWorld os) #[.agg #[.string ByteArray.empty, .int .u8 0, .slice none 0 0, .slice none 0 0], .slice none 0 0] (laidWorld_os os) (by kernel_rfl) (by kernel_rfl) (by kernel_rfl)
      (OpenSpec.preRow_of_cond 8 hx (by kernel_rfl) (fun k hk => by cases hk) (by kernel_rfl) (laid_met os _))) ?_
  intro W base args ds gs before hval hW _ _ hsz hL _ _
  exact contract H enc W base args ds gs before hval hW hsz hL

theorem said : Rows.CardModelBackSaid :=
  OpenClaim.holds_of_cond 12 Tryz.f12 rfl rfl rfl rfl rfl rfl rfl ⟨rfl, rfl, rfl, rfl, rfl⟩ rfl rfl rfl rfl rfl (by kernel_rfl) Tryz.func12 (by kernel_rfl)
    (of_decide_eq_true (by kernel_rfl)) (by unfold Func.isWrapper; first | (rw [if_pos (by decide +kernel)]; kernel_rfl) | (rw [if_neg (by decide +kernel)]; exact ⟨rfl, rfl⟩))
    (fun os started H enc _ F => by rw [OpenClaim.pre_eq_preRow]; exact lifted os started H enc F)

theorem plain (f : FuncId) (fn : Func) (hf : Tryz.pinned.checked.prog.funcNamed "shunt/shuntlaw07.CardModelBack" = some f) (hfn : Tryz.pinned.checked.prog.funcs[f]? = some fn) :
    true = Tryz.pinned.checked.prog.looks [] ∧ ∀ (j : Nat) t, fn.params[j]? = some t → Tryz.pinned.checked.prog.wantsStandIn t = false := by
  obtain rfl : f = 12 := Option.some.inj ((show Tryz.prog.funcNamed "shunt/shuntlaw07.CardModelBack" = some 12 by kernel_rfl).symm.trans hf) |>.symm
  obtain rfl : fn = Tryz.f12 := (Option.some.inj (Tryz.func12.symm.trans hfn)).symm
  refine ⟨by kernel_rfl, fun j t ht => ?_⟩
  rw [Tryz.params12] at ht
  have hm : t ∈ [82, 36] := List.mem_of_getElem? (l := [82, 36]) (i := j) (by rw [← ht]; simp)
  have hall : ([82, 36].all fun u => !Tryz.prog.wantsStandIn u) = true := by kernel_rfl
  exact (show Tryz.prog.wantsStandIn t = false by simpa using List.all_eq_true.1 hall t hm)

theorem card : Rows.CardModelBackCardSaid :=
  Claim7.holds_tied_plain_at .later [] _ _ _ _ said (fun _ h => by cases h) (by kernel_rfl) (fun _ h => by cases h) cardModelBack_row_tie rfl ⟨rfl, rfl⟩ (by kernel_rfl) rfl plain (by kernel_rfl)
end Go.Proofs.YtfjelkjlfcafgaaGreatDoor.cardModelBack
namespace Go.Proofs.YtfjelkjlfcafgaaGreatDoor
theorem cardModelBack_holds : Rows.CardModelBackCardSaid := cardModelBack.card
end Go.Proofs.YtfjelkjlfcafgaaGreatDoor
end
