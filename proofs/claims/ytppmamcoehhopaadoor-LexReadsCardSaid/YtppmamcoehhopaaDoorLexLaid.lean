/- A world in which the listed tables lie as the program's text lays them. -/
import Derived.Test.YtppmamcoehhopaaDoorCards
import Derived.Test.YtppmamcoehhopaaDoorTie
import Derived.Test.YtppmamcoehhopaaDoorShelf
import Derived.Deep.DeepHandedRow
import Derived.Deep.DeepWitnessRowRef
import Derived.Lib.LaidCaseMet
import Derived.ProofKit
import Derived.SizedLaws
namespace Go.Proofs.YtppmamcoehhopaaDoor.LexLaid
open Go.ChangeShapes Go.WideShapes Go.ChangeAt Go.RowKit Go.Lib
set_option linter.unusedVariables false
set_option maxRecDepth 100000

theorem case_eq : Go.Pinned.caseRanges = caseData := by kernel_rfl
theorem first_eq : Go.Pinned.utf8First = firstData := by kernel_rfl
theorem own : ownKnob Tryd.prog.godebug = none := by kernel_rfl

/-- The order of the list is nothing to it. -/
theorem laid_swap {P : Program} {w : World} {x y z : String × DataW Unit} (h : laidMet P [x, y, z] w) : laidMet P [x, z, y] w := by
  obtain ⟨ps, ⟨g1, t1, c1, f1, p1, q1, a1, a2, a3, a4, ⟨g2, t2, c2, f2, p2, q2, b1, b2, b3, b4, ⟨g3, t3, c3, f3, p3, q3, d1, d2, d3, d4, rfl, rfl⟩, rfl⟩, rfl⟩, hn, hc⟩ := h
  have hp : (MemPlace.row ⟨g1, 0, none⟩ c1.size ++ p1 ++ (MemPlace.row ⟨g3, 0, none⟩ c3.size ++ p3 ++ (MemPlace.row ⟨g2, 0, none⟩ c2.size ++ p2 ++ []))).Perm
      (MemPlace.row ⟨g1, 0, none⟩ c1.size ++ p1 ++ (MemPlace.row ⟨g2, 0, none⟩ c2.size ++ p2 ++ (MemPlace.row ⟨g3, 0, none⟩ c3.size ++ p3 ++ []))) := by
    refine List.Perm.append_left _ ?_
    rw [List.append_nil, List.append_nil]
    exact List.perm_append_comm
  refine ⟨_, ⟨g1, t1, c1, f1, p1, _, a1, a2, a3, a4, ⟨g3, t3, c3, f3, p3, _, d1, d2, d3, d4, ⟨g2, t2, c2, f2, p2, _, b1, b2, b3, b4, rfl, rfl⟩, rfl⟩, rfl⟩, hp.nodup_iff.2 hn, fun b off hb => hc b off (hp.mem_iff.1 hb)⟩

noncomputable def laidWorld (os : Os) : World :=
  let N := (World.settled Tryd.prog os).heap.size
  let w0 := World.holding Tryd.prog os ⟨#[.cells Lib.caseCells5 (Tryd.lays262_ren.t 208)], #[], []⟩
  let put (h : Array Obj) (g : Nat) (cs : Array Value) : Array Obj := h.modify g fun
    | .cells _ t frozen => .cells cs t frozen
    | o => o
  let h1 := put w0.heap 2 (Lib.firstTab.map fun z => Value.int .u8 z).toArray
  let h2 := put h1 3 ((List.range 16).flatMap fun i => [Value.int .u8 (Lib.accLo i), Value.int .u8 (Lib.accHi i)]).toArray
  let h3 := put h2 1 #[.slice (some ⟨N, 0, none⟩) 336 336]
  { w0 with heap := h3 }

theorem accept_eq : (Rows.laid_unicode_utf8_acceptRanges : DataW Unit) = acceptData := by kernel_rfl
theorem laid_met (os : Os) (args : Array Value) : laidMet Tryd.prog [("unicode/utf8.acceptRanges", Rows.laid_unicode_utf8_acceptRanges), ("unicode.CaseRanges", Rows.laid_unicode_CaseRanges), ("unicode/utf8.first", Rows.laid_unicode_utf8_first)] ((laidWorld os).forCall (fun _ _ => 0) ⟨#[], args, []⟩).memory := by
  refine laid_swap ?_
  have h := laidMet_with_case (ρ := Tryd.lays262_ren) { Tryd.lays262 with } Tryd.lays262.t206 ⟨by kernel_rfl, by kernel_rfl, by kernel_rfl, by kernel_rfl, by kernel_rfl, by kernel_rfl⟩
    (w := ((laidWorld os).forCall (fun _ _ => 0) ⟨#[], args, []⟩).memory)
    (l := [("unicode/utf8.acceptRanges", acceptData), ("unicode/utf8.first", firstData)])
    10 (by kernel_rfl) (by kernel_rfl) (by kernel_rfl) (World.settled Tryd.prog default).heap.size (Tryd.lays262_ren.t 208) (of_decide_eq_true (by kernel_rfl)) (by kernel_rfl) (by kernel_rfl) (by kernel_rfl)
  rw [accept_eq]
  unfold Rows.laid_unicode_CaseRanges Rows.laid_unicode_utf8_first
  rw [case_eq, first_eq]
  exact h
end Go.Proofs.YtppmamcoehhopaaDoor.LexLaid
