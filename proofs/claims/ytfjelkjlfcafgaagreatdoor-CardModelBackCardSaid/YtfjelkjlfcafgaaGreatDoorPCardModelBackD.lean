/- A part of the proof. -/
import Derived.Test.YtfjelkjlfcafgaaGreatDoorPCardModelBackC
import Derived.Test.YtfjelkjlfcafgaaGreatDoorCards
import Derived.Test.YtfjelkjlfcafgaaGreatDoorTie
import Derived.Lib.LaidTab
import Derived.Lib.ItoaNum
import Derived.Lay
import Derived.Carry
section
/- Texts of numbers: num.letters. -/
namespace Go.Proofs.YtfjelkjlfcafgaaGreatDoor.NumV
open Go Go.RowKit Go.Proofs.YtfjelkjlfcafgaaGreatDoor.Ax Go.Proofs.YtfjelkjlfcafgaaGreatDoor.Ti Go.Proofs.YtfjelkjlfcafgaaGreatDoor.BigM Go.Proofs.YtfjelkjlfcafgaaGreatDoor.NumS Go.Proofs.YtfjelkjlfcafgaaGreatDoor.NumA Go.Proofs.YtfjelkjlfcafgaaGreatDoor.NumT Go.Proofs.YtfjelkjlfcafgaaGreatDoor.NumU Go.Proofs.YtfjelkjlfcafgaaGreatDoor.NumL
set_option linter.unusedSimpArgs false
set_option linter.unusedVariables false
set_option maxRecDepth 4000
set_option maxHeartbeats 2000000
theorem rTI : type_of% (cj @ti3 (cj @ti2 (cj @ti4 (cj @ti9 (cj @ti5 (cj @ti36 (cj @ti24 @ti25))))))) := cj @ti3 (cj @ti2 (cj @ti4 (cj @ti9 (cj @ti5 (cj @ti36 (cj @ti24 @ti25))))))

theorem fr_full (d : List Nat) : (fr d).length = d.length ↔ ∀ c ∈ d, isD c = true := by
  constructor
  · intro h
    have h1 := fr_bk d
    have h2 := congrArg List.length h1
    rw [List.length_append] at h2
    have h3 : bk d = [] := List.length_eq_zero_iff.1 (by omega)
    rw [h3, List.append_nil] at h1
    rw [← h1]
    exact fr_all d
  · intro h
    have := (fr_app d [] h (fun c hc => by cases hc)).1
    rw [List.append_nil] at this
    rw [this]
theorem slice_one (c : Nat) (r : List Nat) (n : Nat) (hn : n = r.length + 1) : (bs (c :: r)).extract 1 n = bs r := by
  subst hn
  rw [bs_slice, List.drop_one, List.tail_cons, Nat.add_sub_cancel, List.take_length]
theorem beq_c (l : List Nat) (h : By l) (m : List Nat) (hm : By m) (b : Bool) (hb : decide (l = m) = b) : ((bs l).toList == (bs m).toList) = b := by rw [bs_beq l m h hm, hb]
theorem letters_ax (l : List Nat) (h : By l) (hl : l.length ≤ 1000000000) : PCall Tryz.prog 51 [.v (.string (bs l))] (tailV (lettersS l)) := by
  have hid : idf (tailV (lettersS l)) = true := by cases lettersS l <;> rfl
  refine pcall_of fun s => ?_
  rw [hid]
  by_cases w5 : l = []
  · subst w5
    have e5 : ((bs []).toList == (ByteArray.mk #[]).toList) = true := beq_c [] h [] (letter_by 5) true (by decide)
    have e0 : ((bs []).toList == (ByteArray.mk #[102]).toList) = false := beq_c [] h [102] (letter_by 0) false (by decide)
    have e1 : ((bs []).toList == (ByteArray.mk #[112]).toList) = false := beq_c [] h [112] (letter_by 1) false (by decide)
    have e2 : ((bs []).toList == (ByteArray.mk #[110]).toList) = false := beq_c [] h [110] (letter_by 2) false (by decide)
    have e3 : ((bs []).toList == (ByteArray.mk #[117]).toList) = false := beq_c [] h [117] (letter_by 3) false (by decide)
    have e4 : ((bs []).toList == (ByteArray.mk #[109]).toList) = false := beq_c [] h [109] (letter_by 4) false (by decide)
    have e6 : ((bs []).toList == (ByteArray.mk #[107]).toList) = false := beq_c [] h [107] (letter_by 6) false (by decide)
    have e7 : ((bs []).toList == (ByteArray.mk #[109, 101, 103]).toList) = false := beq_c [] h [109, 101, 103] (letter_by 7) false (by decide)
    have e8 : ((bs []).toList == (ByteArray.mk #[103]).toList) = false := beq_c [] h [103] (letter_by 8) false (by decide)
    have e9 : ((bs []).toList == (ByteArray.mk #[116]).toList) = false := beq_c [] h [116] (letter_by 9) false (by decide)
    rw [show lettersS [] = some (0) from rfl]
    refine acall_of Tryz.func51 rfl rfl (by simp [Tryz.ntmps51]) ?_; rw [Tryz.ntmps51, Tryz.results51]
    refine go (cj rTI (cj @e5 (cj @e0 (cj @e1 (cj @e2 (cj @e3 (cj @e4 (cj @e6 (cj @e7 (cj @e8 @e9)))))))))) ?_
    all_goals (try (refine ifs ?_ ?_ <;> first | exact nope | intro hb; refine go (cj rTI (cj @e5 (cj @e0 (cj @e1 (cj @e2 (cj @e3 (cj @e4 (cj @e6 (cj @e7 (cj @e8 @e9)))))))))) ?_))
    all_goals rfl
  by_cases w0 : l = [102]
  · subst w0
    have e5 : ((bs [102]).toList == (ByteArray.mk #[]).toList) = false := beq_c [102] h [] (letter_by 5) false (by decide)
    have e0 : ((bs [102]).toList == (ByteArray.mk #[102]).toList) = true := beq_c [102] h [102] (letter_by 0) true (by decide)
    have e1 : ((bs [102]).toList == (ByteArray.mk #[112]).toList) = false := beq_c [102] h [112] (letter_by 1) false (by decide)
    have e2 : ((bs [102]).toList == (ByteArray.mk #[110]).toList) = false := beq_c [102] h [110] (letter_by 2) false (by decide)
    have e3 : ((bs [102]).toList == (ByteArray.mk #[117]).toList) = false := beq_c [102] h [117] (letter_by 3) false (by decide)
    have e4 : ((bs [102]).toList == (ByteArray.mk #[109]).toList) = false := beq_c [102] h [109] (letter_by 4) false (by decide)
    have e6 : ((bs [102]).toList == (ByteArray.mk #[107]).toList) = false := beq_c [102] h [107] (letter_by 6) false (by decide)
    have e7 : ((bs [102]).toList == (ByteArray.mk #[109, 101, 103]).toList) = false := beq_c [102] h [109, 101, 103] (letter_by 7) false (by decide)
    have e8 : ((bs [102]).toList == (ByteArray.mk #[103]).toList) = false := beq_c [102] h [103] (letter_by 8) false (by decide)
    have e9 : ((bs [102]).toList == (ByteArray.mk #[116]).toList) = false := beq_c [102] h [116] (letter_by 9) false (by decide)
    rw [show lettersS [102] = some (-15) from rfl]
    refine acall_of Tryz.func51 rfl rfl (by simp [Tryz.ntmps51]) ?_; rw [Tryz.ntmps51, Tryz.results51]
    refine go (cj rTI (cj @e5 (cj @e0 (cj @e1 (cj @e2 (cj @e3 (cj @e4 (cj @e6 (cj @e7 (cj @e8 @e9)))))))))) ?_
    all_goals (try (refine ifs ?_ ?_ <;> first | exact nope | intro hb; refine go (cj rTI (cj @e5 (cj @e0 (cj @e1 (cj @e2 (cj @e3 (cj @e4 (cj @e6 (cj @e7 (cj @e8 @e9)))))))))) ?_))
    all_goals (try (refine ifs ?_ ?_ <;> first | exact nope | intro hb; refine go (cj rTI (cj @e5 (cj @e0 (cj @e1 (cj @e2 (cj @e3 (cj @e4 (cj @e6 (cj @e7 (cj @e8 @e9)))))))))) ?_))
    all_goals rfl
  by_cases w1 : l = [112]
  · subst w1
    have e5 : ((bs [112]).toList == (ByteArray.mk #[]).toList) = false := beq_c [112] h [] (letter_by 5) false (by decide)
    have e0 : ((bs [112]).toList == (ByteArray.mk #[102]).toList) = false := beq_c [112] h [102] (letter_by 0) false (by decide)
    have e1 : ((bs [112]).toList == (ByteArray.mk #[112]).toList) = true := beq_c [112] h [112] (letter_by 1) true (by decide)
    have e2 : ((bs [112]).toList == (ByteArray.mk #[110]).toList) = false := beq_c [112] h [110] (letter_by 2) false (by decide)
    have e3 : ((bs [112]).toList == (ByteArray.mk #[117]).toList) = false := beq_c [112] h [117] (letter_by 3) false (by decide)
    have e4 : ((bs [112]).toList == (ByteArray.mk #[109]).toList) = false := beq_c [112] h [109] (letter_by 4) false (by decide)
    have e6 : ((bs [112]).toList == (ByteArray.mk #[107]).toList) = false := beq_c [112] h [107] (letter_by 6) false (by decide)
    have e7 : ((bs [112]).toList == (ByteArray.mk #[109, 101, 103]).toList) = false := beq_c [112] h [109, 101, 103] (letter_by 7) false (by decide)
    have e8 : ((bs [112]).toList == (ByteArray.mk #[103]).toList) = false := beq_c [112] h [103] (letter_by 8) false (by decide)
    have e9 : ((bs [112]).toList == (ByteArray.mk #[116]).toList) = false := beq_c [112] h [116] (letter_by 9) false (by decide)
    rw [show lettersS [112] = some (-12) from rfl]
    refine acall_of Tryz.func51 rfl rfl (by simp [Tryz.ntmps51]) ?_; rw [Tryz.ntmps51, Tryz.results51]
    refine go (cj rTI (cj @e5 (cj @e0 (cj @e1 (cj @e2 (cj @e3 (cj @e4 (cj @e6 (cj @e7 (cj @e8 @e9)))))))))) ?_
    all_goals (try (refine ifs ?_ ?_ <;> first | exact nope | intro hb; refine go (cj rTI (cj @e5 (cj @e0 (cj @e1 (cj @e2 (cj @e3 (cj @e4 (cj @e6 (cj @e7 (cj @e8 @e9)))))))))) ?_))
    all_goals (try (refine ifs ?_ ?_ <;> first | exact nope | intro hb; refine go (cj rTI (cj @e5 (cj @e0 (cj @e1 (cj @e2 (cj @e3 (cj @e4 (cj @e6 (cj @e7 (cj @e8 @e9)))))))))) ?_))
    all_goals (try (refine ifs ?_ ?_ <;> first | exact nope | intro hb; refine go (cj rTI (cj @e5 (cj @e0 (cj @e1 (cj @e2 (cj @e3 (cj @e4 (cj @e6 (cj @e7 (cj @e8 @e9)))))))))) ?_))
    all_goals rfl
  by_cases w2 : l = [110]
  · subst w2
    have e5 : ((bs [110]).toList == (ByteArray.mk #[]).toList) = false := beq_c [110] h [] (letter_by 5) false (by decide)
    have e0 : ((bs [110]).toList == (ByteArray.mk #[102]).toList) = false := beq_c [110] h [102] (letter_by 0) false (by decide)
    have e1 : ((bs [110]).toList == (ByteArray.mk #[112]).toList) = false := beq_c [110] h [112] (letter_by 1) false (by decide)
    have e2 : ((bs [110]).toList == (ByteArray.mk #[110]).toList) = true := beq_c [110] h [110] (letter_by 2) true (by decide)
    have e3 : ((bs [110]).toList == (ByteArray.mk #[117]).toList) = false := beq_c [110] h [117] (letter_by 3) false (by decide)
    have e4 : ((bs [110]).toList == (ByteArray.mk #[109]).toList) = false := beq_c [110] h [109] (letter_by 4) false (by decide)
    have e6 : ((bs [110]).toList == (ByteArray.mk #[107]).toList) = false := beq_c [110] h [107] (letter_by 6) false (by decide)
    have e7 : ((bs [110]).toList == (ByteArray.mk #[109, 101, 103]).toList) = false := beq_c [110] h [109, 101, 103] (letter_by 7) false (by decide)
    have e8 : ((bs [110]).toList == (ByteArray.mk #[103]).toList) = false := beq_c [110] h [103] (letter_by 8) false (by decide)
    have e9 : ((bs [110]).toList == (ByteArray.mk #[116]).toList) = false := beq_c [110] h [116] (letter_by 9) false (by decide)
    rw [show lettersS [110] = some (-9) from rfl]
    refine acall_of Tryz.func51 rfl rfl (by simp [Tryz.ntmps51]) ?_; rw [Tryz.ntmps51, Tryz.results51]
    refine go (cj rTI (cj @e5 (cj @e0 (cj @e1 (cj @e2 (cj @e3 (cj @e4 (cj @e6 (cj @e7 (cj @e8 @e9)))))))))) ?_
    all_goals (try (refine ifs ?_ ?_ <;> first | exact nope | intro hb; refine go (cj rTI (cj @e5 (cj @e0 (cj @e1 (cj @e2 (cj @e3 (cj @e4 (cj @e6 (cj @e7 (cj @e8 @e9)))))))))) ?_))
    all_goals (try (refine ifs ?_ ?_ <;> first | exact nope | intro hb; refine go (cj rTI (cj @e5 (cj @e0 (cj @e1 (cj @e2 (cj @e3 (cj @e4 (cj @e6 (cj @e7 (cj @e8 @e9)))))))))) ?_))
    all_goals (try (refine ifs ?_ ?_ <;> first | exact nope | intro hb; refine go (cj rTI (cj @e5 (cj @e0 (cj @e1 (cj @e2 (cj @e3 (cj @e4 (cj @e6 (cj @e7 (cj @e8 @e9)))))))))) ?_))
    all_goals (try (refine ifs ?_ ?_ <;> first | exact nope | intro hb; refine go (cj rTI (cj @e5 (cj @e0 (cj @e1 (cj @e2 (cj @e3 (cj @e4 (cj @e6 (cj @e7 (cj @e8 @e9)))))))))) ?_))
    all_goals rfl
  by_cases w3 : l = [117]
  · subst w3
    have e5 : ((bs [117]).toList == (ByteArray.mk #[]).toList) = false := beq_c [117] h [] (letter_by 5) false (by decide)
    have e0 : ((bs [117]).toList == (ByteArray.mk #[102]).toList) = false := beq_c [117] h [102] (letter_by 0) false (by decide)
    have e1 : ((bs [117]).toList == (ByteArray.mk #[112]).toList) = false := beq_c [117] h [112] (letter_by 1) false (by decide)
    have e2 : ((bs [117]).toList == (ByteArray.mk #[110]).toList) = false := beq_c [117] h [110] (letter_by 2) false (by decide)
    have e3 : ((bs [117]).toList == (ByteArray.mk #[117]).toList) = true := beq_c [117] h [117] (letter_by 3) true (by decide)
    have e4 : ((bs [117]).toList == (ByteArray.mk #[109]).toList) = false := beq_c [117] h [109] (letter_by 4) false (by decide)
    have e6 : ((bs [117]).toList == (ByteArray.mk #[107]).toList) = false := beq_c [117] h [107] (letter_by 6) false (by decide)
    have e7 : ((bs [117]).toList == (ByteArray.mk #[109, 101, 103]).toList) = false := beq_c [117] h [109, 101, 103] (letter_by 7) false (by decide)
    have e8 : ((bs [117]).toList == (ByteArray.mk #[103]).toList) = false := beq_c [117] h [103] (letter_by 8) false (by decide)
    have e9 : ((bs [117]).toList == (ByteArray.mk #[116]).toList) = false := beq_c [117] h [116] (letter_by 9) false (by decide)
    rw [show lettersS [117] = some (-6) from rfl]
    refine acall_of Tryz.func51 rfl rfl (by simp [Tryz.ntmps51]) ?_; rw [Tryz.ntmps51, Tryz.results51]
    refine go (cj rTI (cj @e5 (cj @e0 (cj @e1 (cj @e2 (cj @e3 (cj @e4 (cj @e6 (cj @e7 (cj @e8 @e9)))))))))) ?_
    all_goals (try (refine ifs ?_ ?_ <;> first | exact nope | intro hb; refine go (cj rTI (cj @e5 (cj @e0 (cj @e1 (cj @e2 (cj @e3 (cj @e4 (cj @e6 (cj @e7 (cj @e8 @e9)))))))))) ?_))
    all_goals (try (refine ifs ?_ ?_ <;> first | exact nope | intro hb; refine go (cj rTI (cj @e5 (cj @e0 (cj @e1 (cj @e2 (cj @e3 (cj @e4 (cj @e6 (cj @e7 (cj @e8 @e9)))))))))) ?_))
    all_goals (try (refine ifs ?_ ?_ <;> first | exact nope | intro hb; refine go (cj rTI (cj @e5 (cj @e0 (cj @e1 (cj @e2 (cj @e3 (cj @e4 (cj @e6 (cj @e7 (cj @e8 @e9)))))))))) ?_))
    all_goals (try (refine ifs ?_ ?_ <;> first | exact nope | intro hb; refine go (cj rTI (cj @e5 (cj @e0 (cj @e1 (cj @e2 (cj @e3 (cj @e4 (cj @e6 (cj @e7 (cj @e8 @e9)))))))))) ?_))
    all_goals (try (refine ifs ?_ ?_ <;> first | exact nope | intro hb; refine go (cj rTI (cj @e5 (cj @e0 (cj @e1 (cj @e2 (cj @e3 (cj @e4 (cj @e6 (cj @e7 (cj @e8 @e9)))))))))) ?_))
    all_goals rfl
  by_cases w4 : l = [109]
  · subst w4
    have e5 : ((bs [109]).toList == (ByteArray.mk #[]).toList) = false := beq_c [109] h [] (letter_by 5) false (by decide)
    have e0 : ((bs [109]).toList == (ByteArray.mk #[102]).toList) = false := beq_c [109] h [102] (letter_by 0) false (by decide)
    have e1 : ((bs [109]).toList == (ByteArray.mk #[112]).toList) = false := beq_c [109] h [112] (letter_by 1) false (by decide)
    have e2 : ((bs [109]).toList == (ByteArray.mk #[110]).toList) = false := beq_c [109] h [110] (letter_by 2) false (by decide)
    have e3 : ((bs [109]).toList == (ByteArray.mk #[117]).toList) = false := beq_c [109] h [117] (letter_by 3) false (by decide)
    have e4 : ((bs [109]).toList == (ByteArray.mk #[109]).toList) = true := beq_c [109] h [109] (letter_by 4) true (by decide)
    have e6 : ((bs [109]).toList == (ByteArray.mk #[107]).toList) = false := beq_c [109] h [107] (letter_by 6) false (by decide)
    have e7 : ((bs [109]).toList == (ByteArray.mk #[109, 101, 103]).toList) = false := beq_c [109] h [109, 101, 103] (letter_by 7) false (by decide)
    have e8 : ((bs [109]).toList == (ByteArray.mk #[103]).toList) = false := beq_c [109] h [103] (letter_by 8) false (by decide)
    have e9 : ((bs [109]).toList == (ByteArray.mk #[116]).toList) = false := beq_c [109] h [116] (letter_by 9) false (by decide)
    rw [show lettersS [109] = some (-3) from rfl]
    refine acall_of Tryz.func51 rfl rfl (by simp [Tryz.ntmps51]) ?_; rw [Tryz.ntmps51, Tryz.results51]
    refine go (cj rTI (cj @e5 (cj @e0 (cj @e1 (cj @e2 (cj @e3 (cj @e4 (cj @e6 (cj @e7 (cj @e8 @e9)))))))))) ?_
    all_goals (try (refine ifs ?_ ?_ <;> first | exact nope | intro hb; refine go (cj rTI (cj @e5 (cj @e0 (cj @e1 (cj @e2 (cj @e3 (cj @e4 (cj @e6 (cj @e7 (cj @e8 @e9)))))))))) ?_))
    all_goals (try (refine ifs ?_ ?_ <;> first | exact nope | intro hb; refine go (cj rTI (cj @e5 (cj @e0 (cj @e1 (cj @e2 (cj @e3 (cj @e4 (cj @e6 (cj @e7 (cj @e8 @e9)))))))))) ?_))
    all_goals (try (refine ifs ?_ ?_ <;> first | exact nope | intro hb; refine go (cj rTI (cj @e5 (cj @e0 (cj @e1 (cj @e2 (cj @e3 (cj @e4 (cj @e6 (cj @e7 (cj @e8 @e9)))))))))) ?_))
    all_goals (try (refine ifs ?_ ?_ <;> first | exact nope | intro hb; refine go (cj rTI (cj @e5 (cj @e0 (cj @e1 (cj @e2 (cj @e3 (cj @e4 (cj @e6 (cj @e7 (cj @e8 @e9)))))))))) ?_))
    all_goals (try (refine ifs ?_ ?_ <;> first | exact nope | intro hb; refine go (cj rTI (cj @e5 (cj @e0 (cj @e1 (cj @e2 (cj @e3 (cj @e4 (cj @e6 (cj @e7 (cj @e8 @e9)))))))))) ?_))
    all_goals (try (refine ifs ?_ ?_ <;> first | exact nope | intro hb; refine go (cj rTI (cj @e5 (cj @e0 (cj @e1 (cj @e2 (cj @e3 (cj @e4 (cj @e6 (cj @e7 (cj @e8 @e9)))))))))) ?_))
    all_goals rfl
  by_cases w6 : l = [107]
  · subst w6
    have e5 : ((bs [107]).toList == (ByteArray.mk #[]).toList) = false := beq_c [107] h [] (letter_by 5) false (by decide)
    have e0 : ((bs [107]).toList == (ByteArray.mk #[102]).toList) = false := beq_c [107] h [102] (letter_by 0) false (by decide)
    have e1 : ((bs [107]).toList == (ByteArray.mk #[112]).toList) = false := beq_c [107] h [112] (letter_by 1) false (by decide)
    have e2 : ((bs [107]).toList == (ByteArray.mk #[110]).toList) = false := beq_c [107] h [110] (letter_by 2) false (by decide)
    have e3 : ((bs [107]).toList == (ByteArray.mk #[117]).toList) = false := beq_c [107] h [117] (letter_by 3) false (by decide)
    have e4 : ((bs [107]).toList == (ByteArray.mk #[109]).toList) = false := beq_c [107] h [109] (letter_by 4) false (by decide)
    have e6 : ((bs [107]).toList == (ByteArray.mk #[107]).toList) = true := beq_c [107] h [107] (letter_by 6) true (by decide)
    have e7 : ((bs [107]).toList == (ByteArray.mk #[109, 101, 103]).toList) = false := beq_c [107] h [109, 101, 103] (letter_by 7) false (by decide)
    have e8 : ((bs [107]).toList == (ByteArray.mk #[103]).toList) = false := beq_c [107] h [103] (letter_by 8) false (by decide)
    have e9 : ((bs [107]).toList == (ByteArray.mk #[116]).toList) = false := beq_c [107] h [116] (letter_by 9) false (by decide)
    rw [show lettersS [107] = some (3) from rfl]
    refine acall_of Tryz.func51 rfl rfl (by simp [Tryz.ntmps51]) ?_; rw [Tryz.ntmps51, Tryz.results51]
    refine go (cj rTI (cj @e5 (cj @e0 (cj @e1 (cj @e2 (cj @e3 (cj @e4 (cj @e6 (cj @e7 (cj @e8 @e9)))))))))) ?_
    all_goals (try (refine ifs ?_ ?_ <;> first | exact nope | intro hb; refine go (cj rTI (cj @e5 (cj @e0 (cj @e1 (cj @e2 (cj @e3 (cj @e4 (cj @e6 (cj @e7 (cj @e8 @e9)))))))))) ?_))
    all_goals (try (refine ifs ?_ ?_ <;> first | exact nope | intro hb; refine go (cj rTI (cj @e5 (cj @e0 (cj @e1 (cj @e2 (cj @e3 (cj @e4 (cj @e6 (cj @e7 (cj @e8 @e9)))))))))) ?_))
    all_goals (try (refine ifs ?_ ?_ <;> first | exact nope | intro hb; refine go (cj rTI (cj @e5 (cj @e0 (cj @e1 (cj @e2 (cj @e3 (cj @e4 (cj @e6 (cj @e7 (cj @e8 @e9)))))))))) ?_))
    all_goals (try (refine ifs ?_ ?_ <;> first | exact nope | intro hb; refine go (cj rTI (cj @e5 (cj @e0 (cj @e1 (cj @e2 (cj @e3 (cj @e4 (cj @e6 (cj @e7 (cj @e8 @e9)))))))))) ?_))
    all_goals (try (refine ifs ?_ ?_ <;> first | exact nope | intro hb; refine go (cj rTI (cj @e5 (cj @e0 (cj @e1 (cj @e2 (cj @e3 (cj @e4 (cj @e6 (cj @e7 (cj @e8 @e9)))))))))) ?_))
    all_goals (try (refine ifs ?_ ?_ <;> first | exact nope | intro hb; refine go (cj rTI (cj @e5 (cj @e0 (cj @e1 (cj @e2 (cj @e3 (cj @e4 (cj @e6 (cj @e7 (cj @e8 @e9)))))))))) ?_))
    all_goals (try (refine ifs ?_ ?_ <;> first | exact nope | intro hb; refine go (cj rTI (cj @e5 (cj @e0 (cj @e1 (cj @e2 (cj @e3 (cj @e4 (cj @e6 (cj @e7 (cj @e8 @e9)))))))))) ?_))
    all_goals rfl
  by_cases w7 : l = [109, 101, 103]
  · subst w7
    have e5 : ((bs [109, 101, 103]).toList == (ByteArray.mk #[]).toList) = false := beq_c [109, 101, 103] h [] (letter_by 5) false (by decide)
    have e0 : ((bs [109, 101, 103]).toList == (ByteArray.mk #[102]).toList) = false := beq_c [109, 101, 103] h [102] (letter_by 0) false (by decide)
    have e1 : ((bs [109, 101, 103]).toList == (ByteArray.mk #[112]).toList) = false := beq_c [109, 101, 103] h [112] (letter_by 1) false (by decide)
    have e2 : ((bs [109, 101, 103]).toList == (ByteArray.mk #[110]).toList) = false := beq_c [109, 101, 103] h [110] (letter_by 2) false (by decide)
    have e3 : ((bs [109, 101, 103]).toList == (ByteArray.mk #[117]).toList) = false := beq_c [109, 101, 103] h [117] (letter_by 3) false (by decide)
    have e4 : ((bs [109, 101, 103]).toList == (ByteArray.mk #[109]).toList) = false := beq_c [109, 101, 103] h [109] (letter_by 4) false (by decide)
    have e6 : ((bs [109, 101, 103]).toList == (ByteArray.mk #[107]).toList) = false := beq_c [109, 101, 103] h [107] (letter_by 6) false (by decide)
    have e7 : ((bs [109, 101, 103]).toList == (ByteArray.mk #[109, 101, 103]).toList) = true := beq_c [109, 101, 103] h [109, 101, 103] (letter_by 7) true (by decide)
    have e8 : ((bs [109, 101, 103]).toList == (ByteArray.mk #[103]).toList) = false := beq_c [109, 101, 103] h [103] (letter_by 8) false (by decide)
    have e9 : ((bs [109, 101, 103]).toList == (ByteArray.mk #[116]).toList) = false := beq_c [109, 101, 103] h [116] (letter_by 9) false (by decide)
    rw [show lettersS [109, 101, 103] = some (6) from rfl]
    refine acall_of Tryz.func51 rfl rfl (by simp [Tryz.ntmps51]) ?_; rw [Tryz.ntmps51, Tryz.results51]
    refine go (cj rTI (cj @e5 (cj @e0 (cj @e1 (cj @e2 (cj @e3 (cj @e4 (cj @e6 (cj @e7 (cj @e8 @e9)))))))))) ?_
    all_goals (try (refine ifs ?_ ?_ <;> first | exact nope | intro hb; refine go (cj rTI (cj @e5 (cj @e0 (cj @e1 (cj @e2 (cj @e3 (cj @e4 (cj @e6 (cj @e7 (cj @e8 @e9)))))))))) ?_))
    all_goals (try (refine ifs ?_ ?_ <;> first | exact nope | intro hb; refine go (cj rTI (cj @e5 (cj @e0 (cj @e1 (cj @e2 (cj @e3 (cj @e4 (cj @e6 (cj @e7 (cj @e8 @e9)))))))))) ?_))
    all_goals (try (refine ifs ?_ ?_ <;> first | exact nope | intro hb; refine go (cj rTI (cj @e5 (cj @e0 (cj @e1 (cj @e2 (cj @e3 (cj @e4 (cj @e6 (cj @e7 (cj @e8 @e9)))))))))) ?_))
    all_goals (try (refine ifs ?_ ?_ <;> first | exact nope | intro hb; refine go (cj rTI (cj @e5 (cj @e0 (cj @e1 (cj @e2 (cj @e3 (cj @e4 (cj @e6 (cj @e7 (cj @e8 @e9)))))))))) ?_))
    all_goals (try (refine ifs ?_ ?_ <;> first | exact nope | intro hb; refine go (cj rTI (cj @e5 (cj @e0 (cj @e1 (cj @e2 (cj @e3 (cj @e4 (cj @e6 (cj @e7 (cj @e8 @e9)))))))))) ?_))
    all_goals (try (refine ifs ?_ ?_ <;> first | exact nope | intro hb; refine go (cj rTI (cj @e5 (cj @e0 (cj @e1 (cj @e2 (cj @e3 (cj @e4 (cj @e6 (cj @e7 (cj @e8 @e9)))))))))) ?_))
    all_goals (try (refine ifs ?_ ?_ <;> first | exact nope | intro hb; refine go (cj rTI (cj @e5 (cj @e0 (cj @e1 (cj @e2 (cj @e3 (cj @e4 (cj @e6 (cj @e7 (cj @e8 @e9)))))))))) ?_))
    all_goals (try (refine ifs ?_ ?_ <;> first | exact nope | intro hb; refine go (cj rTI (cj @e5 (cj @e0 (cj @e1 (cj @e2 (cj @e3 (cj @e4 (cj @e6 (cj @e7 (cj @e8 @e9)))))))))) ?_))
    all_goals rfl
  by_cases w8 : l = [103]
  · subst w8
    have e5 : ((bs [103]).toList == (ByteArray.mk #[]).toList) = false := beq_c [103] h [] (letter_by 5) false (by decide)
    have e0 : ((bs [103]).toList == (ByteArray.mk #[102]).toList) = false := beq_c [103] h [102] (letter_by 0) false (by decide)
    have e1 : ((bs [103]).toList == (ByteArray.mk #[112]).toList) = false := beq_c [103] h [112] (letter_by 1) false (by decide)
    have e2 : ((bs [103]).toList == (ByteArray.mk #[110]).toList) = false := beq_c [103] h [110] (letter_by 2) false (by decide)
    have e3 : ((bs [103]).toList == (ByteArray.mk #[117]).toList) = false := beq_c [103] h [117] (letter_by 3) false (by decide)
    have e4 : ((bs [103]).toList == (ByteArray.mk #[109]).toList) = false := beq_c [103] h [109] (letter_by 4) false (by decide)
    have e6 : ((bs [103]).toList == (ByteArray.mk #[107]).toList) = false := beq_c [103] h [107] (letter_by 6) false (by decide)
    have e7 : ((bs [103]).toList == (ByteArray.mk #[109, 101, 103]).toList) = false := beq_c [103] h [109, 101, 103] (letter_by 7) false (by decide)
    have e8 : ((bs [103]).toList == (ByteArray.mk #[103]).toList) = true := beq_c [103] h [103] (letter_by 8) true (by decide)
    have e9 : ((bs [103]).toList == (ByteArray.mk #[116]).toList) = false := beq_c [103] h [116] (letter_by 9) false (by decide)
    rw [show lettersS [103] = some (9) from rfl]
    refine acall_of Tryz.func51 rfl rfl (by simp [Tryz.ntmps51]) ?_; rw [Tryz.ntmps51, Tryz.results51]
    refine go (cj rTI (cj @e5 (cj @e0 (cj @e1 (cj @e2 (cj @e3 (cj @e4 (cj @e6 (cj @e7 (cj @e8 @e9)))))))))) ?_
    all_goals (try (refine ifs ?_ ?_ <;> first | exact nope | intro hb; refine go (cj rTI (cj @e5 (cj @e0 (cj @e1 (cj @e2 (cj @e3 (cj @e4 (cj @e6 (cj @e7 (cj @e8 @e9)))))))))) ?_))
    all_goals (try (refine ifs ?_ ?_ <;> first | exact nope | intro hb; refine go (cj rTI (cj @e5 (cj @e0 (cj @e1 (cj @e2 (cj @e3 (cj @e4 (cj @e6 (cj @e7 (cj @e8 @e9)))))))))) ?_))
    all_goals (try (refine ifs ?_ ?_ <;> first | exact nope | intro hb; refine go (cj rTI (cj @e5 (cj @e0 (cj @e1 (cj @e2 (cj @e3 (cj @e4 (cj @e6 (cj @e7 (cj @e8 @e9)))))))))) ?_))
    all_goals (try (refine ifs ?_ ?_ <;> first | exact nope | intro hb; refine go (cj rTI (cj @e5 (cj @e0 (cj @e1 (cj @e2 (cj @e3 (cj @e4 (cj @e6 (cj @e7 (cj @e8 @e9)))))))))) ?_))
    all_goals (try (refine ifs ?_ ?_ <;> first | exact nope | intro hb; refine go (cj rTI (cj @e5 (cj @e0 (cj @e1 (cj @e2 (cj @e3 (cj @e4 (cj @e6 (cj @e7 (cj @e8 @e9)))))))))) ?_))
    all_goals (try (refine ifs ?_ ?_ <;> first | exact nope | intro hb; refine go (cj rTI (cj @e5 (cj @e0 (cj @e1 (cj @e2 (cj @e3 (cj @e4 (cj @e6 (cj @e7 (cj @e8 @e9)))))))))) ?_))
    all_goals (try (refine ifs ?_ ?_ <;> first | exact nope | intro hb; refine go (cj rTI (cj @e5 (cj @e0 (cj @e1 (cj @e2 (cj @e3 (cj @e4 (cj @e6 (cj @e7 (cj @e8 @e9)))))))))) ?_))
    all_goals (try (refine ifs ?_ ?_ <;> first | exact nope | intro hb; refine go (cj rTI (cj @e5 (cj @e0 (cj @e1 (cj @e2 (cj @e3 (cj @e4 (cj @e6 (cj @e7 (cj @e8 @e9)))))))))) ?_))
    all_goals (try (refine ifs ?_ ?_ <;> first | exact nope | intro hb; refine go (cj rTI (cj @e5 (cj @e0 (cj @e1 (cj @e2 (cj @e3 (cj @e4 (cj @e6 (cj @e7 (cj @e8 @e9)))))))))) ?_))
    all_goals rfl
  by_cases w9 : l = [116]
  · subst w9
    have e5 : ((bs [116]).toList == (ByteArray.mk #[]).toList) = false := beq_c [116] h [] (letter_by 5) false (by decide)
    have e0 : ((bs [116]).toList == (ByteArray.mk #[102]).toList) = false := beq_c [116] h [102] (letter_by 0) false (by decide)
    have e1 : ((bs [116]).toList == (ByteArray.mk #[112]).toList) = false := beq_c [116] h [112] (letter_by 1) false (by decide)
    have e2 : ((bs [116]).toList == (ByteArray.mk #[110]).toList) = false := beq_c [116] h [110] (letter_by 2) false (by decide)
    have e3 : ((bs [116]).toList == (ByteArray.mk #[117]).toList) = false := beq_c [116] h [117] (letter_by 3) false (by decide)
    have e4 : ((bs [116]).toList == (ByteArray.mk #[109]).toList) = false := beq_c [116] h [109] (letter_by 4) false (by decide)
    have e6 : ((bs [116]).toList == (ByteArray.mk #[107]).toList) = false := beq_c [116] h [107] (letter_by 6) false (by decide)
    have e7 : ((bs [116]).toList == (ByteArray.mk #[109, 101, 103]).toList) = false := beq_c [116] h [109, 101, 103] (letter_by 7) false (by decide)
    have e8 : ((bs [116]).toList == (ByteArray.mk #[103]).toList) = false := beq_c [116] h [103] (letter_by 8) false (by decide)
    have e9 : ((bs [116]).toList == (ByteArray.mk #[116]).toList) = true := beq_c [116] h [116] (letter_by 9) true (by decide)
    rw [show lettersS [116] = some (12) from rfl]
    refine acall_of Tryz.func51 rfl rfl (by simp [Tryz.ntmps51]) ?_; rw [Tryz.ntmps51, Tryz.results51]
    refine go (cj rTI (cj @e5 (cj @e0 (cj @e1 (cj @e2 (cj @e3 (cj @e4 (cj @e6 (cj @e7 (cj @e8 @e9)))))))))) ?_
    all_goals (try (refine ifs ?_ ?_ <;> first | exact nope | intro hb; refine go (cj rTI (cj @e5 (cj @e0 (cj @e1 (cj @e2 (cj @e3 (cj @e4 (cj @e6 (cj @e7 (cj @e8 @e9)))))))))) ?_))
    all_goals (try (refine ifs ?_ ?_ <;> first | exact nope | intro hb; refine go (cj rTI (cj @e5 (cj @e0 (cj @e1 (cj @e2 (cj @e3 (cj @e4 (cj @e6 (cj @e7 (cj @e8 @e9)))))))))) ?_))
    all_goals (try (refine ifs ?_ ?_ <;> first | exact nope | intro hb; refine go (cj rTI (cj @e5 (cj @e0 (cj @e1 (cj @e2 (cj @e3 (cj @e4 (cj @e6 (cj @e7 (cj @e8 @e9)))))))))) ?_))
    all_goals (try (refine ifs ?_ ?_ <;> first | exact nope | intro hb; refine go (cj rTI (cj @e5 (cj @e0 (cj @e1 (cj @e2 (cj @e3 (cj @e4 (cj @e6 (cj @e7 (cj @e8 @e9)))))))))) ?_))
    all_goals (try (refine ifs ?_ ?_ <;> first | exact nope | intro hb; refine go (cj rTI (cj @e5 (cj @e0 (cj @e1 (cj @e2 (cj @e3 (cj @e4 (cj @e6 (cj @e7 (cj @e8 @e9)))))))))) ?_))
    all_goals (try (refine ifs ?_ ?_ <;> first | exact nope | intro hb; refine go (cj rTI (cj @e5 (cj @e0 (cj @e1 (cj @e2 (cj @e3 (cj @e4 (cj @e6 (cj @e7 (cj @e8 @e9)))))))))) ?_))
    all_goals (try (refine ifs ?_ ?_ <;> first | exact nope | intro hb; refine go (cj rTI (cj @e5 (cj @e0 (cj @e1 (cj @e2 (cj @e3 (cj @e4 (cj @e6 (cj @e7 (cj @e8 @e9)))))))))) ?_))
    all_goals (try (refine ifs ?_ ?_ <;> first | exact nope | intro hb; refine go (cj rTI (cj @e5 (cj @e0 (cj @e1 (cj @e2 (cj @e3 (cj @e4 (cj @e6 (cj @e7 (cj @e8 @e9)))))))))) ?_))
    all_goals (try (refine ifs ?_ ?_ <;> first | exact nope | intro hb; refine go (cj rTI (cj @e5 (cj @e0 (cj @e1 (cj @e2 (cj @e3 (cj @e4 (cj @e6 (cj @e7 (cj @e8 @e9)))))))))) ?_))
    all_goals (try (refine ifs ?_ ?_ <;> first | exact nope | intro hb; refine go (cj rTI (cj @e5 (cj @e0 (cj @e1 (cj @e2 (cj @e3 (cj @e4 (cj @e6 (cj @e7 (cj @e8 @e9)))))))))) ?_))
    all_goals rfl
  have hne : ∀ k, k < 10 → l ≠ letterS k := fun k hk => by
    have : k = 0 ∨ k = 1 ∨ k = 2 ∨ k = 3 ∨ k = 4 ∨ k = 5 ∨ k = 6 ∨ k = 7 ∨ k = 8 ∨ k = 9 := by omega
    rcases this with rfl | rfl | rfl | rfl | rfl | rfl | rfl | rfl | rfl | rfl <;> assumption
  rw [letters_exp l hne]
  clear hne
  have e5 : ((bs l).toList == (ByteArray.mk #[]).toList) = false := beq_c l h [] (letter_by 5) false (decide_eq_false w5)
  have e0 : ((bs l).toList == (ByteArray.mk #[102]).toList) = false := beq_c l h [102] (letter_by 0) false (decide_eq_false w0)
  have e1 : ((bs l).toList == (ByteArray.mk #[112]).toList) = false := beq_c l h [112] (letter_by 1) false (decide_eq_false w1)
  have e2 : ((bs l).toList == (ByteArray.mk #[110]).toList) = false := beq_c l h [110] (letter_by 2) false (decide_eq_false w2)
  have e3 : ((bs l).toList == (ByteArray.mk #[117]).toList) = false := beq_c l h [117] (letter_by 3) false (decide_eq_false w3)
  have e4 : ((bs l).toList == (ByteArray.mk #[109]).toList) = false := beq_c l h [109] (letter_by 4) false (decide_eq_false w4)
  have e6 : ((bs l).toList == (ByteArray.mk #[107]).toList) = false := beq_c l h [107] (letter_by 6) false (decide_eq_false w6)
  have e7 : ((bs l).toList == (ByteArray.mk #[109, 101, 103]).toList) = false := beq_c l h [109, 101, 103] (letter_by 7) false (decide_eq_false w7)
  have e8 : ((bs l).toList == (ByteArray.mk #[103]).toList) = false := beq_c l h [103] (letter_by 8) false (decide_eq_false w8)
  have e9 : ((bs l).toList == (ByteArray.mk #[116]).toList) = false := beq_c l h [116] (letter_by 9) false (decide_eq_false w9)

  obtain ⟨c, r, rfl⟩ : ∃ c r, l = c :: r := by
    cases l with
    | nil => exact absurd rfl w5
    | cons c r => exact ⟨c, r, rfl⟩
  clear w5 w0 w1 w2 w3 w4 w6 w7 w8 w9
  have l1 := bs_size (c :: r)
  have g0 := bs_get (c :: r) h 0
  rw [List.getD_cons_zero] at g0
  rw [List.length_cons] at l1 hl
  have tz : Int.toNat 0 = 0 := rfl
  have t1 : Int.toNat 1 = 1 := rfl
  have hc : c < 256 := h c (by simp)
  have hr : By r := fun x hx => h x (by simp [hx])
  by_cases qe : c = 101
  · subst qe
    rw [show expL (101 :: r) = expS r from rfl]
    have sl := slice_one 101 r (r.length + 1) rfl
    have hp1 := hasPrefix_ax r hr 45 (by decide)
    have hp2 := hasPrefix_ax r hr 43 (by decide)
    have lr := bs_size r
    rcases exp_ways r with ⟨d, hrd, hexp⟩ | ⟨d, hrd, hexp⟩ | ⟨d, hrd, hexp, hn1, hn2⟩
    · obtain rfl : r = 45 :: d := by injection hrd
      have hbd : By d := fun x hx => hr x (by simp [hx])
      have s2 := slice_one 45 d (d.length + 1) rfl
      rw [List.length_cons] at l1 hl lr sl
      rw [show decide ((45 :: d).head? = some 45) = true from rfl] at hp1
      refine acall_of Tryz.func51 rfl rfl (by simp [Tryz.ntmps51]) ?_; rw [Tryz.ntmps51, Tryz.results51]
      refine go (cj rTI (cj @e5 (cj @e0 (cj @e1 (cj @e2 (cj @e3 (cj @e4 (cj @e6 (cj @e7 (cj @e8 @e9)))))))))) ?_
      refine ifs ?_ ?_ <;> first | exact nope | intro hb
      refine go (cj rTI (cj @e5 (cj @e0 (cj @e1 (cj @e2 (cj @e3 (cj @e4 (cj @e6 (cj @e7 (cj @e8 (cj @e9 (cj @l1 (cj @g0 @tz))))))))))))) ?_
      refine ifs ?_ ?_ <;> first | exact nope | intro hb
      refine go (cj rTI (cj @e5 (cj @e0 (cj @e1 (cj @e2 (cj @e3 (cj @e4 (cj @e6 (cj @e7 (cj @e8 (cj @e9 (cj @l1 (cj @g0 @tz))))))))))))) ?_
      refine ifs ?_ ?_ <;> first | exact nope | intro hb
      refine go (cj rTI (cj @e5 (cj @e0 (cj @e1 (cj @e2 (cj @e3 (cj @e4 (cj @e6 (cj @e7 (cj @e8 (cj @e9 (cj @l1 (cj @g0 @tz))))))))))))) ?_
      refine ifs ?_ ?_ <;> first | exact nope | intro hb
      refine go (cj rTI (cj @e5 (cj @e0 (cj @e1 (cj @e2 (cj @e3 (cj @e4 (cj @e6 (cj @e7 (cj @e8 (cj @e9 (cj @l1 (cj @g0 @tz))))))))))))) ?_
      refine ifs ?_ ?_ <;> first | exact nope | intro hb
      refine go (cj rTI (cj @e5 (cj @e0 (cj @e1 (cj @e2 (cj @e3 (cj @e4 (cj @e6 (cj @e7 (cj @e8 (cj @e9 (cj @l1 (cj @g0 @tz))))))))))))) ?_
      refine ifs ?_ ?_ <;> first | exact nope | intro hb
      refine go (cj rTI (cj @e5 (cj @e0 (cj @e1 (cj @e2 (cj @e3 (cj @e4 (cj @e6 (cj @e7 (cj @e8 (cj @e9 (cj @l1 (cj @g0 @tz))))))))))))) ?_
      refine ifs ?_ ?_ <;> first | exact nope | intro hb
      refine go (cj rTI (cj @e5 (cj @e0 (cj @e1 (cj @e2 (cj @e3 (cj @e4 (cj @e6 (cj @e7 (cj @e8 (cj @e9 (cj @l1 (cj @g0 @tz))))))))))))) ?_
      refine ifs ?_ ?_ <;> first | exact nope | intro hb
      refine go (cj rTI (cj @e5 (cj @e0 (cj @e1 (cj @e2 (cj @e3 (cj @e4 (cj @e6 (cj @e7 (cj @e8 (cj @e9 (cj @l1 (cj @g0 @tz))))))))))))) ?_
      refine ifs ?_ ?_ <;> first | exact nope | intro hb
      refine go (cj rTI (cj @e5 (cj @e0 (cj @e1 (cj @e2 (cj @e3 (cj @e4 (cj @e6 (cj @e7 (cj @e8 (cj @e9 (cj @l1 (cj @g0 @tz))))))))))))) ?_
      refine ifs ?_ ?_ <;> first | exact nope | intro hb
      refine go (cj rTI (cj @e5 (cj @e0 (cj @e1 (cj @e2 (cj @e3 (cj @e4 (cj @e6 (cj @e7 (cj @e8 (cj @e9 (cj @l1 (cj @g0 @tz))))))))))))) ?_
      rw [then_normal]
      refine ifs ?_ ?_ <;> first | exact nope | intro hb
      refine go (cj rTI (cj @l1 (cj @t1 @sl))) ?_
      refine aw_reg fun K hK => ?_; refine rn rTI ?_; refine cont_pure hp1 ?_; refine rn rTI ?_; refine hK _ _ ?_; clear hK K
      rw [then_normal]
      refine go trivial ?_
      refine ifs ?_ ?_ <;> first | exact nope | intro hb
      refine go (cj rTI (cj @lr (cj @t1 @s2))) ?_

      rw [hexp]
      have ld := bs_size d
      have hld : d.length ≤ 1000000000 := by omega
      have hrun := run_ax d hbd hld
      have hfl := fr_le d
      by_cases q1 : d.length < 1
      · rw [two_bad d (fun h => by omega)]
        refine go (cj rTI @ld) ?_
        refine ifs ?_ ?_ <;> first | exact nope | intro hb
        refine go trivial ?_
        all_goals rfl
      · by_cases q2 : 2 < d.length
        · rw [two_bad d (fun h => by omega)]
          refine go (cj rTI @ld) ?_
          refine ifs ?_ ?_ <;> first | exact nope | intro hb
          refine go trivial ?_
          all_goals rfl
        · have htwo := two_good d (by omega) (by omega)
          have hff := fr_full d
          by_cases q3 : (fr d).length = d.length
          · have hall := hff.1 q3
            have hat := atoi_ax d hall (fun e => by rw [e] at q1; simp at q1) (by omega)
            have hvb : digV d ≤ 99 := digV_two d (by omega) hall
            rw [htwo, if_pos hall]
            clear hff htwo hall
            refine aw_reg fun K hK => ?_; refine rn (cj rTI @ld) ?_; refine cont_pure hrun ?_; refine rn (cj rTI @ld) ?_; refine hK _ _ ?_; clear hK K
            rw [then_normal]
            refine ifs ?_ ?_ <;> first | exact nope | intro hb
            refine go trivial ?_
            generalize digV d = v at *
            refine aw_reg fun K hK => ?_; refine rn rTI ?_; refine cont_pure hat ?_; refine rn rTI ?_; refine hK _ _ ?_; clear hK K
            rw [then_normal]
            refine go trivial ?_
            refine ifs ?_ ?_ <;> first | exact nope | intro hb
            refine go trivial ?_
            show _ = AV.tp [.v (.int .i64 (-(v : Int))), _]; simp
          · rw [htwo, if_neg (fun h => q3 (hff.2 h))]
            clear hff htwo
            refine aw_reg fun K hK => ?_; refine rn (cj rTI @ld) ?_; refine cont_pure hrun ?_; refine rn (cj rTI @ld) ?_; refine hK _ _ ?_; clear hK K
            rw [then_normal]
            refine ifs ?_ ?_ <;> first | exact nope | intro hb
            refine go trivial ?_
            all_goals rfl
    · obtain rfl : r = 43 :: d := by injection hrd
      have hbd : By d := fun x hx => hr x (by simp [hx])
      have s2 := slice_one 43 d (d.length + 1) rfl
      rw [List.length_cons] at l1 hl lr sl
      rw [show decide ((43 :: d).head? = some 45) = false from rfl] at hp1
      rw [show decide ((43 :: d).head? = some 43) = true from rfl] at hp2
      refine acall_of Tryz.func51 rfl rfl (by simp [Tryz.ntmps51]) ?_; rw [Tryz.ntmps51, Tryz.results51]
      refine go (cj rTI (cj @e5 (cj @e0 (cj @e1 (cj @e2 (cj @e3 (cj @e4 (cj @e6 (cj @e7 (cj @e8 @e9)))))))))) ?_
      refine ifs ?_ ?_ <;> first | exact nope | intro hb
      refine go (cj rTI (cj @e5 (cj @e0 (cj @e1 (cj @e2 (cj @e3 (cj @e4 (cj @e6 (cj @e7 (cj @e8 (cj @e9 (cj @l1 (cj @g0 @tz))))))))))))) ?_
      refine ifs ?_ ?_ <;> first | exact nope | intro hb
      refine go (cj rTI (cj @e5 (cj @e0 (cj @e1 (cj @e2 (cj @e3 (cj @e4 (cj @e6 (cj @e7 (cj @e8 (cj @e9 (cj @l1 (cj @g0 @tz))))))))))))) ?_
      refine ifs ?_ ?_ <;> first | exact nope | intro hb
      refine go (cj rTI (cj @e5 (cj @e0 (cj @e1 (cj @e2 (cj @e3 (cj @e4 (cj @e6 (cj @e7 (cj @e8 (cj @e9 (cj @l1 (cj @g0 @tz))))))))))))) ?_
      refine ifs ?_ ?_ <;> first | exact nope | intro hb
      refine go (cj rTI (cj @e5 (cj @e0 (cj @e1 (cj @e2 (cj @e3 (cj @e4 (cj @e6 (cj @e7 (cj @e8 (cj @e9 (cj @l1 (cj @g0 @tz))))))))))))) ?_
      refine ifs ?_ ?_ <;> first | exact nope | intro hb
      refine go (cj rTI (cj @e5 (cj @e0 (cj @e1 (cj @e2 (cj @e3 (cj @e4 (cj @e6 (cj @e7 (cj @e8 (cj @e9 (cj @l1 (cj @g0 @tz))))))))))))) ?_
      refine ifs ?_ ?_ <;> first | exact nope | intro hb
      refine go (cj rTI (cj @e5 (cj @e0 (cj @e1 (cj @e2 (cj @e3 (cj @e4 (cj @e6 (cj @e7 (cj @e8 (cj @e9 (cj @l1 (cj @g0 @tz))))))))))))) ?_
      refine ifs ?_ ?_ <;> first | exact nope | intro hb
      refine go (cj rTI (cj @e5 (cj @e0 (cj @e1 (cj @e2 (cj @e3 (cj @e4 (cj @e6 (cj @e7 (cj @e8 (cj @e9 (cj @l1 (cj @g0 @tz))))))))))))) ?_
      refine ifs ?_ ?_ <;> first | exact nope | intro hb
      refine go (cj rTI (cj @e5 (cj @e0 (cj @e1 (cj @e2 (cj @e3 (cj @e4 (cj @e6 (cj @e7 (cj @e8 (cj @e9 (cj @l1 (cj @g0 @tz))))))))))))) ?_
      refine ifs ?_ ?_ <;> first | exact nope | intro hb
      refine go (cj rTI (cj @e5 (cj @e0 (cj @e1 (cj @e2 (cj @e3 (cj @e4 (cj @e6 (cj @e7 (cj @e8 (cj @e9 (cj @l1 (cj @g0 @tz))))))))))))) ?_
      refine ifs ?_ ?_ <;> first | exact nope | intro hb
      refine go (cj rTI (cj @e5 (cj @e0 (cj @e1 (cj @e2 (cj @e3 (cj @e4 (cj @e6 (cj @e7 (cj @e8 (cj @e9 (cj @l1 (cj @g0 @tz))))))))))))) ?_
      rw [then_normal]
      refine ifs ?_ ?_ <;> first | exact nope | intro hb
      refine go (cj rTI (cj @l1 (cj @t1 @sl))) ?_
      refine aw_reg fun K hK => ?_; refine rn rTI ?_; refine cont_pure hp1 ?_; refine rn rTI ?_; refine hK _ _ ?_; clear hK K
      rw [then_normal]
      refine go trivial ?_
      refine aw_reg fun K hK => ?_; refine rn rTI ?_; refine cont_pure hp2 ?_; refine rn rTI ?_; refine hK _ _ ?_; clear hK K
      rw [then_normal]
      refine ifs ?_ ?_ <;> first | exact nope | intro hb
      refine go (cj rTI (cj @lr (cj @t1 @s2))) ?_

      rw [hexp]
      have ld := bs_size d
      have hld : d.length ≤ 1000000000 := by omega
      have hrun := run_ax d hbd hld
      have hfl := fr_le d
      by_cases q1 : d.length < 1
      · rw [two_bad d (fun h => by omega)]
        refine go (cj rTI @ld) ?_
        refine ifs ?_ ?_ <;> first | exact nope | intro hb
        refine go trivial ?_
        all_goals rfl
      · by_cases q2 : 2 < d.length
        · rw [two_bad d (fun h => by omega)]
          refine go (cj rTI @ld) ?_
          refine ifs ?_ ?_ <;> first | exact nope | intro hb
          refine go trivial ?_
          all_goals rfl
        · have htwo := two_good d (by omega) (by omega)
          have hff := fr_full d
          by_cases q3 : (fr d).length = d.length
          · have hall := hff.1 q3
            have hat := atoi_ax d hall (fun e => by rw [e] at q1; simp at q1) (by omega)
            have hvb : digV d ≤ 99 := digV_two d (by omega) hall
            rw [htwo, if_pos hall]
            clear hff htwo hall
            refine aw_reg fun K hK => ?_; refine rn (cj rTI @ld) ?_; refine cont_pure hrun ?_; refine rn (cj rTI @ld) ?_; refine hK _ _ ?_; clear hK K
            rw [then_normal]
            refine ifs ?_ ?_ <;> first | exact nope | intro hb
            refine go trivial ?_
            generalize digV d = v at *
            refine aw_reg fun K hK => ?_; refine rn rTI ?_; refine cont_pure hat ?_; refine rn rTI ?_; refine hK _ _ ?_; clear hK K
            rw [then_normal]
            refine go trivial ?_
            refine ifs ?_ ?_ <;> first | exact nope | intro hb
            refine go trivial ?_
            show _ = AV.tp [.v (.int .i64 (v : Int)), _]; simp
          · rw [htwo, if_neg (fun h => q3 (hff.2 h))]
            clear hff htwo
            refine aw_reg fun K hK => ?_; refine rn (cj rTI @ld) ?_; refine cont_pure hrun ?_; refine rn (cj rTI @ld) ?_; refine hK _ _ ?_; clear hK K
            rw [then_normal]
            refine ifs ?_ ?_ <;> first | exact nope | intro hb
            refine go trivial ?_
            all_goals rfl
    · obtain rfl : r = d := by injection hrd
      have hbd := hr
      have hh1 : decide (r.head? = some 45) = false := by cases r with | nil => rfl | cons a r => simpa using hn1
      have hh2 : decide (r.head? = some 43) = false := by cases r with | nil => rfl | cons a r => simpa using hn2
      rw [hh1] at hp1
      rw [hh2] at hp2
      refine acall_of Tryz.func51 rfl rfl (by simp [Tryz.ntmps51]) ?_; rw [Tryz.ntmps51, Tryz.results51]
      refine go (cj rTI (cj @e5 (cj @e0 (cj @e1 (cj @e2 (cj @e3 (cj @e4 (cj @e6 (cj @e7 (cj @e8 @e9)))))))))) ?_
      refine ifs ?_ ?_ <;> first | exact nope | intro hb
      refine go (cj rTI (cj @e5 (cj @e0 (cj @e1 (cj @e2 (cj @e3 (cj @e4 (cj @e6 (cj @e7 (cj @e8 (cj @e9 (cj @l1 (cj @g0 @tz))))))))))))) ?_
      refine ifs ?_ ?_ <;> first | exact nope | intro hb
      refine go (cj rTI (cj @e5 (cj @e0 (cj @e1 (cj @e2 (cj @e3 (cj @e4 (cj @e6 (cj @e7 (cj @e8 (cj @e9 (cj @l1 (cj @g0 @tz))))))))))))) ?_
      refine ifs ?_ ?_ <;> first | exact nope | intro hb
      refine go (cj rTI (cj @e5 (cj @e0 (cj @e1 (cj @e2 (cj @e3 (cj @e4 (cj @e6 (cj @e7 (cj @e8 (cj @e9 (cj @l1 (cj @g0 @tz))))))))))))) ?_
      refine ifs ?_ ?_ <;> first | exact nope | intro hb
      refine go (cj rTI (cj @e5 (cj @e0 (cj @e1 (cj @e2 (cj @e3 (cj @e4 (cj @e6 (cj @e7 (cj @e8 (cj @e9 (cj @l1 (cj @g0 @tz))))))))))))) ?_
      refine ifs ?_ ?_ <;> first | exact nope | intro hb
      refine go (cj rTI (cj @e5 (cj @e0 (cj @e1 (cj @e2 (cj @e3 (cj @e4 (cj @e6 (cj @e7 (cj @e8 (cj @e9 (cj @l1 (cj @g0 @tz))))))))))))) ?_
      refine ifs ?_ ?_ <;> first | exact nope | intro hb
      refine go (cj rTI (cj @e5 (cj @e0 (cj @e1 (cj @e2 (cj @e3 (cj @e4 (cj @e6 (cj @e7 (cj @e8 (cj @e9 (cj @l1 (cj @g0 @tz))))))))))))) ?_
      refine ifs ?_ ?_ <;> first | exact nope | intro hb
      refine go (cj rTI (cj @e5 (cj @e0 (cj @e1 (cj @e2 (cj @e3 (cj @e4 (cj @e6 (cj @e7 (cj @e8 (cj @e9 (cj @l1 (cj @g0 @tz))))))))))))) ?_
      refine ifs ?_ ?_ <;> first | exact nope | intro hb
      refine go (cj rTI (cj @e5 (cj @e0 (cj @e1 (cj @e2 (cj @e3 (cj @e4 (cj @e6 (cj @e7 (cj @e8 (cj @e9 (cj @l1 (cj @g0 @tz))))))))))))) ?_
      refine ifs ?_ ?_ <;> first | exact nope | intro hb
      refine go (cj rTI (cj @e5 (cj @e0 (cj @e1 (cj @e2 (cj @e3 (cj @e4 (cj @e6 (cj @e7 (cj @e8 (cj @e9 (cj @l1 (cj @g0 @tz))))))))))))) ?_
      refine ifs ?_ ?_ <;> first | exact nope | intro hb
      refine go (cj rTI (cj @e5 (cj @e0 (cj @e1 (cj @e2 (cj @e3 (cj @e4 (cj @e6 (cj @e7 (cj @e8 (cj @e9 (cj @l1 (cj @g0 @tz))))))))))))) ?_
      rw [then_normal]
      refine ifs ?_ ?_ <;> first | exact nope | intro hb
      refine go (cj rTI (cj @l1 (cj @t1 @sl))) ?_
      refine aw_reg fun K hK => ?_; refine rn rTI ?_; refine cont_pure hp1 ?_; refine rn rTI ?_; refine hK _ _ ?_; clear hK K
      rw [then_normal]
      refine go trivial ?_
      refine aw_reg fun K hK => ?_; refine rn rTI ?_; refine cont_pure hp2 ?_; refine rn rTI ?_; refine hK _ _ ?_; clear hK K
      rw [then_normal]
      refine ifs ?_ ?_ <;> first | exact nope | intro hb
      refine go trivial ?_

      rw [hexp]
      have ld := bs_size r
      have hld : r.length ≤ 1000000000 := by omega
      have hrun := run_ax r hbd hld
      have hfl := fr_le r
      by_cases q1 : r.length < 1
      · rw [two_bad r (fun h => by omega)]
        refine go (cj rTI @ld) ?_
        refine ifs ?_ ?_ <;> first | exact nope | intro hb
        refine go trivial ?_
        all_goals rfl
      · by_cases q2 : 2 < r.length
        · rw [two_bad r (fun h => by omega)]
          refine go (cj rTI @ld) ?_
          refine ifs ?_ ?_ <;> first | exact nope | intro hb
          refine go trivial ?_
          all_goals rfl
        · have htwo := two_good r (by omega) (by omega)
          have hff := fr_full r
          by_cases q3 : (fr r).length = r.length
          · have hall := hff.1 q3
            have hat := atoi_ax r hall (fun e => by rw [e] at q1; simp at q1) (by omega)
            have hvb : digV r ≤ 99 := digV_two r (by omega) hall
            rw [htwo, if_pos hall]
            clear hff htwo hall
            refine aw_reg fun K hK => ?_; refine rn (cj rTI @ld) ?_; refine cont_pure hrun ?_; refine rn (cj rTI @ld) ?_; refine hK _ _ ?_; clear hK K
            rw [then_normal]
            refine ifs ?_ ?_ <;> first | exact nope | intro hb
            refine go trivial ?_
            generalize digV r = v at *
            refine aw_reg fun K hK => ?_; refine rn rTI ?_; refine cont_pure hat ?_; refine rn rTI ?_; refine hK _ _ ?_; clear hK K
            rw [then_normal]
            refine go trivial ?_
            refine ifs ?_ ?_ <;> first | exact nope | intro hb
            refine go trivial ?_
            show _ = AV.tp [.v (.int .i64 (v : Int)), _]; simp
          · rw [htwo, if_neg (fun h => q3 (hff.2 h))]
            clear hff htwo
            refine aw_reg fun K hK => ?_; refine rn (cj rTI @ld) ?_; refine cont_pure hrun ?_; refine rn (cj rTI @ld) ?_; refine hK _ _ ?_; clear hK K
            rw [then_normal]
            refine ifs ?_ ?_ <;> first | exact nope | intro hb
            refine go trivial ?_
            all_goals rfl
  · rw [show expL (c :: r) = none by unfold expL; split <;> simp_all]
    refine acall_of Tryz.func51 rfl rfl (by simp [Tryz.ntmps51]) ?_; rw [Tryz.ntmps51, Tryz.results51]
    refine go (cj rTI (cj @e5 (cj @e0 (cj @e1 (cj @e2 (cj @e3 (cj @e4 (cj @e6 (cj @e7 (cj @e8 @e9)))))))))) ?_
    refine ifs ?_ ?_ <;> first | exact nope | intro hb
    refine go (cj rTI (cj @e5 (cj @e0 (cj @e1 (cj @e2 (cj @e3 (cj @e4 (cj @e6 (cj @e7 (cj @e8 (cj @e9 (cj @l1 (cj @g0 @tz))))))))))))) ?_
    refine ifs ?_ ?_ <;> first | exact nope | intro hb
    refine go (cj rTI (cj @e5 (cj @e0 (cj @e1 (cj @e2 (cj @e3 (cj @e4 (cj @e6 (cj @e7 (cj @e8 (cj @e9 (cj @l1 (cj @g0 @tz))))))))))))) ?_
    refine ifs ?_ ?_ <;> first | exact nope | intro hb
    refine go (cj rTI (cj @e5 (cj @e0 (cj @e1 (cj @e2 (cj @e3 (cj @e4 (cj @e6 (cj @e7 (cj @e8 (cj @e9 (cj @l1 (cj @g0 @tz))))))))))))) ?_
    refine ifs ?_ ?_ <;> first | exact nope | intro hb
    refine go (cj rTI (cj @e5 (cj @e0 (cj @e1 (cj @e2 (cj @e3 (cj @e4 (cj @e6 (cj @e7 (cj @e8 (cj @e9 (cj @l1 (cj @g0 @tz))))))))))))) ?_
    refine ifs ?_ ?_ <;> first | exact nope | intro hb
    refine go (cj rTI (cj @e5 (cj @e0 (cj @e1 (cj @e2 (cj @e3 (cj @e4 (cj @e6 (cj @e7 (cj @e8 (cj @e9 (cj @l1 (cj @g0 @tz))))))))))))) ?_
    refine ifs ?_ ?_ <;> first | exact nope | intro hb
    refine go (cj rTI (cj @e5 (cj @e0 (cj @e1 (cj @e2 (cj @e3 (cj @e4 (cj @e6 (cj @e7 (cj @e8 (cj @e9 (cj @l1 (cj @g0 @tz))))))))))))) ?_
    refine ifs ?_ ?_ <;> first | exact nope | intro hb
    refine go (cj rTI (cj @e5 (cj @e0 (cj @e1 (cj @e2 (cj @e3 (cj @e4 (cj @e6 (cj @e7 (cj @e8 (cj @e9 (cj @l1 (cj @g0 @tz))))))))))))) ?_
    refine ifs ?_ ?_ <;> first | exact nope | intro hb
    refine go (cj rTI (cj @e5 (cj @e0 (cj @e1 (cj @e2 (cj @e3 (cj @e4 (cj @e6 (cj @e7 (cj @e8 (cj @e9 (cj @l1 (cj @g0 @tz))))))))))))) ?_
    refine ifs ?_ ?_ <;> first | exact nope | intro hb
    refine go (cj rTI (cj @e5 (cj @e0 (cj @e1 (cj @e2 (cj @e3 (cj @e4 (cj @e6 (cj @e7 (cj @e8 (cj @e9 (cj @l1 (cj @g0 @tz))))))))))))) ?_
    refine ifs ?_ ?_ <;> first | exact nope | intro hb
    refine go (cj rTI (cj @e5 (cj @e0 (cj @e1 (cj @e2 (cj @e3 (cj @e4 (cj @e6 (cj @e7 (cj @e8 (cj @e9 (cj @l1 (cj @g0 @tz))))))))))))) ?_
    rw [then_normal]
    refine ifs ?_ ?_ <;> first | exact nope | intro hb
    refine go trivial ?_
    all_goals rfl
end Go.Proofs.YtfjelkjlfcafgaaGreatDoor.NumV
end
section
/- Texts of numbers: num.Parse. -/
namespace Go.Proofs.YtfjelkjlfcafgaaGreatDoor.NumW
open Go Go.RowKit Go.Proofs.YtfjelkjlfcafgaaGreatDoor.Ax Go.Proofs.YtfjelkjlfcafgaaGreatDoor.Ti Go.Proofs.YtfjelkjlfcafgaaGreatDoor.BigM Go.Proofs.YtfjelkjlfcafgaaGreatDoor.NumS Go.Proofs.YtfjelkjlfcafgaaGreatDoor.NumA Go.Proofs.YtfjelkjlfcafgaaGreatDoor.NumT Go.Proofs.YtfjelkjlfcafgaaGreatDoor.NumU Go.Proofs.YtfjelkjlfcafgaaGreatDoor.NumL Go.Proofs.YtfjelkjlfcafgaaGreatDoor.NumV Go.Proofs.YtfjelkjlfcafgaaGreatDoor.NumP
set_option linter.unusedSimpArgs false
set_option linter.unusedVariables false
set_option maxRecDepth 4000
set_option maxHeartbeats 2000000
theorem rTI : type_of% (cj @ti3 (cj @ti2 (cj @ti4 (cj @ti9 (cj @ti5 (cj @ti36 (cj @ti24 @ti25))))))) := cj @ti3 (cj @ti2 (cj @ti4 (cj @ti9 (cj @ti5 (cj @ti36 (cj @ti24 @ti25))))))

theorem aw_way {P : Program} {x : Code} {m0 : Nat} {e : Env} {s : St} {Q : Exit → Env → St → Prop} (I : Env → St → Prop) (h1 : AW P x m0 e s fun ex e' s' => (ex = .normal ∧ I e' s') ∨ (ex = .ret ∧ Q .ret e' s')) (h2 : ∀ e' s', I e' s' → Q .normal e' s') : AW P x m0 e s Q :=
  aw_mono h1 fun ex e' s' h => by
    rcases h with ⟨hn, hI⟩ | ⟨hn, hQ⟩
    · subst hn; exact h2 e' s' hI
    · subst hn; exact hQ
def parseV (p : Int × Int × Int) : AV := .tp [NM p.1 p.2.1, .v (.int .i64 p.2.2)]
theorem slice_to (l : List Nat) (k : Nat) : (bs l).extract 0 k = bs (l.take k) := by
  rw [bs_slice, List.drop_zero, Nat.sub_zero]
theorem slice_from (l : List Nat) (k n : Nat) (hn : n = l.length) : (bs l).extract k n = bs (l.drop k) := by
  rw [bs_slice]
  congr 1
  rw [List.take_of_length_le (by rw [List.length_drop]; omega)]
theorem by_sub {l : List Nat} (h : By l) {m : List Nat} (hm : ∀ c ∈ m, c ∈ l) : By m := fun c hc => h c (hm c hc)
theorem bk_mem (r : List Nat) : ∀ c ∈ bk r, c ∈ r := fun c hc => by rw [← fr_bk r]; exact List.mem_append_right _ hc
theorem cut_mem (l : List Nat) : ∀ c ∈ cut1 l 45, c ∈ l := fun c hc => by
  unfold cut1 at hc
  split at hc
  · exact List.mem_of_mem_tail hc
  · exact hc
theorem cut_len (l : List Nat) : (cut1 l 45).length ≤ l.length := by
  unfold cut1
  split
  · rw [List.length_tail]; omega
  · exact Nat.le_refl _
theorem two_bound (d : List Nat) (v : Int) (h : two d = some v) : 0 ≤ v ∧ v ≤ 99 := by
  unfold two at h
  split at h
  · split at h
    · rename_i hd
      have := (isD_iff _).1 hd
      injection h with h
      omega
    · cases h
  · split at h
    · rename_i hd
      rw [Bool.and_eq_true] at hd
      have h1 := (isD_iff _).1 hd.1
      have h2 := (isD_iff _).1 hd.2
      injection h with h
      omega
    · cases h
  · cases h
theorem exp_bound (d : List Nat) (v : Int) (h : expS d = some v) : -99 ≤ v ∧ v ≤ 99 := by
  unfold expS at h
  split at h
  · rename_i r
    cases hr : two r with
    | none => rw [hr] at h; cases h
    | some w =>
      rw [hr] at h
      have := two_bound r w hr
      have h' : -w = v := by simpa using h
      omega
  · have := two_bound _ v h
    omega
  · have := two_bound _ v h
    omega
theorem letters_bound (l : List Nat) (v : Int) (h : lettersS l = some v) : -99 ≤ v ∧ v ≤ 99 := by
  unfold lettersS at h
  split at h
  all_goals first
    | (injection h with h; omega)
    | exact exp_bound _ _ h
    | cases h
def fin3 (neg : Bool) (ds : List Nat) (x : Int) : Option Int → Int × Int × Int
  | none => (0, 0, 3)
  | some e => finS neg (digV ds) (x + e)
theorem body_no (neg : Bool) (r : List Nat) (h0 : fr r ≠ []) (h1 : ¬ (bk r).head? = some 46) : bodyS neg r = fin3 neg (fr r) 0 (lettersS (bk r)) := by
  unfold bodyS
  rw [if_neg h0]
  split
  · rename_i q hq
    rw [hq] at h1
    exact absurd rfl h1
  · unfold fin3
    split <;> simp_all
theorem body_pt (neg : Bool) (r q : List Nat) (h0 : fr r ≠ []) (h1 : bk r = 46 :: q) : bodyS neg r = if fr q = [] then (0, 0, 3) else fin3 neg (fr r ++ fr q) (-((fr q).length : Int)) (lettersS (bk q)) := by
  unfold bodyS
  rw [if_neg h0, h1]
  simp only
  by_cases h2 : fr q = []
  · rw [if_pos h2, if_pos h2]
  · rw [if_neg h2, if_neg h2]
    unfold fin3
    split
    · rename_i hh; first | rfl | rw [hh]
    · rename_i e hh
      first
        | (rw [hh]; simp only; congr 1; omega)
        | (congr 1; omega)
theorem parse_ax (l : List Nat) (h : By l) (hl : l.length ≤ 1000000000) : PCall Tryz.prog 14 [.v (.string (bs l))] (parseV (parseS l)) := by
  refine pcall_of fun s => ?_
  rw [show idf (parseV (parseS l)) = true from rfl]
  have l1 := bs_size l
  have p0 : (s.push [.v (.int .i64 0), .v (.int .i64 0)]).get s.nx = some [.v (.int .i64 0), .v (.int .i64 0)] := St.push_same _ _
  by_cases q32 : 32 < l.length
  · rw [show parseS l = (0, 0, 3) by unfold parseS; rw [if_pos q32]]
    show ACall _ _ _ _ fun r' s' => r' = .tp [.ag [.v (.int .i64 0), .v (.int .i64 0)], .v (.int .i64 3)] ∧ _
    refine acall_of Tryz.func14 rfl rfl (by simp [Tryz.ntmps14]) ?_; rw [Tryz.ntmps14, Tryz.results14]
    refine go (cj rTI @l1) ?_
    refine ifs ?_ ?_ <;> first | exact nope | intro hb
    refine go rTI ?_
    exact fun i hi => by rw [if_neg (by omega)]
  · have hcut := cutPrefix_ax l h 45 (by decide)
    have hb1 := by_sub h (cut_mem l)
    have hlc := cut_len l
    rw [parse_cut l (by omega)]
    generalize cut1 l 45 = r at *
    generalize decide (l.head? = some 45) = neg at *
    have hrun := run_ax r hb1 (by omega)
    have lr := bs_size r
    have hfl := fr_le r
    refine acall_of Tryz.func14 rfl rfl (by simp [Tryz.ntmps14]) ?_; rw [Tryz.ntmps14, Tryz.results14]
    refine go (cj rTI @l1) ?_
    refine ifs ?_ ?_ <;> first | exact nope | intro hb
    refine go rTI ?_
    refine aw_reg fun K hK => ?_; refine rn rTI ?_; refine cont_pure hcut ?_; refine rn rTI ?_; refine hK _ _ ?_; clear hK K
    rw [then_normal]
    refine go trivial ?_
    refine aw_reg fun K hK => ?_; refine rn rTI ?_; refine cont_pure hrun ?_; refine rn rTI ?_; refine hK _ _ ?_; clear hK K
    rw [then_normal]
    by_cases q0 : (fr r).length = 0
    · have hf0 : fr r = [] := List.length_eq_zero_iff.1 q0
      have hbs : bodyS neg r = (0, 0, 3) := by unfold bodyS; rw [if_pos hf0]
      rw [hbs]
      show AW _ _ _ _ _ (fpost _ _ fun r' s' => r' = .tp [.ag [.v (.int .i64 0), .v (.int .i64 0)], .v (.int .i64 3)] ∧ _)
      refine go rTI ?_
      refine ifs ?_ ?_ <;> first | exact nope | intro hb
      refine go rTI ?_
      exact fun i hi => by rw [if_neg (by omega)]
    · have sl1 := slice_to r (fr r).length
      have sl2 := slice_from r (fr r).length r.length rfl
      rw [fr_take] at sl1
      rw [bk_drop] at sl2
      have tz : Int.toNat 0 = 0 := rfl
      refine go rTI ?_
      refine ifs ?_ ?_ <;> first | exact nope | intro hb
      refine go (cj rTI (cj @lr (cj @sl1 (cj @sl2 @tz)))) ?_
      have hfn : fr r ≠ [] := fun e => q0 (by rw [e]; rfl)
      have hb2 : By (bk r) := by_sub hb1 (bk_mem r)
      have hpre := hasPrefix_ax (bk r) hb2 46 (by decide)
      have hlk : (bk r).length ≤ r.length := by have := congrArg List.length (fr_bk r); rw [List.length_append] at this; omega
      have hfd := fr_all r
      have lk := bs_size (bk r)
      have ppush : ∀ i, i < s.nx → (s.push [.v (.int .i64 0), .v (.int .i64 0)]).get i = s.get i := fun i hi => St.push_ne _ _ _ (by omega)
      refine aw_reg fun K hK => ?_; refine rn rTI ?_; refine cont_pure hpre ?_; refine rn rTI ?_; refine hK _ _ ?_; clear hK K
      rw [then_normal]
      refine aw_way (fun e s' => ∃ (ds r3 : List Nat) (x : Int), e.n = 102 ∧ e.m 2 = .ptr s.nx 0 ∧ e.m 4 = .v (.string (bs r3)) ∧ e.m 5 = .v (.bool neg) ∧ e.m 7 = .v (.string (bs ds)) ∧ e.m 8 = .v (.int .i64 x) ∧ By r3 ∧ r3.length ≤ 32 ∧ (∀ c ∈ ds, isD c = true) ∧ ds.length ≤ 64 ∧ -32 ≤ x ∧ x ≤ 0 ∧ bodyS neg r = fin3 neg ds x (lettersS r3) ∧ s'.get s.nx = some [.v (.int .i64 0), .v (.int .i64 0)] ∧ ∀ i, i < s.nx → s'.get i = s.get i) ?_ ?_
      · by_cases qp : (bk r).head? = some 46
        · rw [decide_eq_true qp]
          obtain ⟨q, hq⟩ : ∃ q, bk r = 46 :: q := by
            cases hk : bk r with
            | nil => rw [hk] at qp; cases qp
            | cons a q =>
              rw [hk] at qp
              exact ⟨q, by rw [show a = 46 by simpa using qp]⟩
          have hbody := body_pt neg r q hfn hq
          have hbq : By q := by_sub hb2 (fun c hc => by rw [hq]; exact List.mem_cons_of_mem _ hc)
          rw [hq] at lk hlk
          rw [List.length_cons] at lk hlk
          have hrq := run_ax q hbq (by omega)
          have hfq := fr_le q
          have s3 := slice_from (46 :: q) 1 (q.length + 1) rfl
          rw [List.drop_one, List.tail_cons] at s3
          have t1 : Int.toNat 1 = 1 := rfl
          rw [hq]
          refine ifs ?_ ?_ <;> first | exact nope | intro hb
          refine go (cj rTI (cj @lk (cj @t1 @s3))) ?_
          refine aw_reg fun K hK => ?_; refine rn (cj rTI (cj @lk (cj @t1 @s3))) ?_; refine cont_pure hrq ?_; refine rn (cj rTI (cj @lk (cj @t1 @s3))) ?_; refine hK _ _ ?_; clear hK K
          rw [then_normal]
          by_cases qf : fr q = []
          · have qf0 : (fr q).length = 0 := by rw [qf]; rfl
            rw [if_pos qf] at hbody
            rw [hbody]
            refine go rTI ?_
            refine ifs ?_ ?_ <;> first | exact nope | intro hb
            refine go rTI ?_
            exact .inr ⟨rfl, fun i hi => by rw [if_neg (by omega)]⟩
          · have qf0 : (fr q).length ≠ 0 := fun e => qf (List.length_eq_zero_iff.1 e)
            rw [if_neg qf] at hbody
            have s4 : (bs (46 :: q)).extract 1 (1 + (fr q).length) = bs (fr q) := by
              rw [bs_slice, List.drop_one, List.tail_cons, Nat.add_sub_cancel_left, fr_take]
            have s5 : (bs (46 :: q)).extract (1 + (fr q).length) (q.length + 1) = bs (bk q) := by
              rw [slice_from (46 :: q) (1 + (fr q).length) (q.length + 1) rfl, Nat.add_comm 1, List.drop_succ_cons, bk_drop]
            have k1 : ((1 : Int) + ((fr q).length : Int)).toNat = 1 + (fr q).length := by omega
            have lf1 := bs_size (fr r)
            have lf2 := bs_size (fr q)
            have ap := bs_append (fr r) (fr q)
            have hlq : (bk q).length ≤ q.length := by have := congrArg List.length (fr_bk q); rw [List.length_append] at this; omega
            refine go rTI ?_
            refine ifs ?_ ?_ <;> first | exact nope | intro hb
            refine go (cj rTI (cj @lk (cj @t1 (cj @s3 (cj @s4 (cj @s5 (cj @k1 (cj @lf1 (cj @lf2 @ap))))))))) ?_
            refine .inl ⟨rfl, fr r ++ fr q, bk q, -((fr q).length : Int), ?_⟩
            refine rn @Int.zero_sub ?_
            refine ⟨by_sub hbq (bk_mem q), by omega, fun c hc => ?_, by rw [List.length_append]; omega, by omega, by omega, hbody, fun i hi => by rw [if_neg (by omega)]⟩
            rcases List.mem_append.1 hc with hc | hc
            · exact hfd c hc
            · exact fr_all q c hc
        · rw [decide_eq_false qp]
          have hbody := body_no neg r hfn qp
          refine ifs ?_ ?_ <;> first | exact nope | intro hb
          refine go trivial ?_
          exact .inl ⟨fr r, bk r, 0, rfl, rfl, rfl, hb2, by omega, hfd, by omega, by omega, by omega, hbody, fun i hi => by rw [if_neg (by omega)]⟩
      · clear hcut hrun sl1 sl2 hpre lk lr l1
        rintro e s' ⟨ds, r3, x, h1, k2, k4, k5, k7, k8, hb3, hl3, hds, hld, hx1, hx2, hbody, g, fr2⟩
        rw [hbody, then_normal]
        have hlet := letters_ax r3 hb3 (by omega)
        have hbd := letters_bound r3
        generalize lettersS r3 = o at *
        cases o with
        | none =>
          show AW _ _ _ _ _ (fpost _ _ fun r' s' => r' = .tp [.ag [.v (.int .i64 0), .v (.int .i64 0)], .v (.int .i64 3)] ∧ _)
          refine go trivial ?_
          refine aw_reg fun K hK => ?_; refine rn (cj rTI (cj @k4 (cj @tailV.eq_1 @tailV.eq_2))) ?_; refine cont_pure hlet ?_; refine rn (cj rTI (cj @k4 (cj @tailV.eq_1 @tailV.eq_2))) ?_; refine hK _ _ ?_; clear hK K
          rw [then_normal]
          refine go trivial ?_
          refine ifs ?_ ?_ <;> first | exact nope | intro hb
          refine go (cj rTI (cj @h1 (cj @k2 @g))) ?_
          intro i hi
          rw [if_neg (by omega)]
          exact fr2 i hi
        | some ee =>
          obtain ⟨b1, b2⟩ := hbd ee rfl
          obtain ⟨P1, P2⟩ := fin_parse neg ds (x + ee) hds
          have hbds : By ds := fun c hc => by have := (isD_iff c).1 (hds c hc); omega
          have hbl : By (lead ds) := by_sub hbds (lead_sub ds)
          have hll := lead_len ds
          have htl := trimLeft_ax ds hbds
          have htr := trimRight_ax (lead ds) hbl (by omega)
          have e0 : ((bs (lead ds)).toList == (ByteArray.mk #[]).toList) = decide (lead ds = []) := bs_beq (lead ds) [] hbl (fun c hc => by cases hc)
          show AW _ _ _ _ _ (fpost _ _ fun r' s' => r' = parseV (finS neg (digV ds) (x + ee)) ∧ _)
          by_cases ql : lead ds = []
          · rw [P1 ql, decide_eq_true ql] at *
            show AW _ _ _ _ _ (fpost _ _ fun r' s' => r' = .tp [.ag [.v (.int .i64 0), .v (.int .i64 0)], .v (.int .i64 0)] ∧ _)
            clear P1 P2
            refine go trivial ?_
            refine aw_reg fun K hK => ?_; refine rn (cj rTI (cj @k4 (cj @tailV.eq_1 @tailV.eq_2))) ?_; refine cont_pure hlet ?_; refine rn (cj rTI (cj @k4 (cj @tailV.eq_1 @tailV.eq_2))) ?_; refine hK _ _ ?_; clear hK K
            rw [then_normal]
            refine go trivial ?_
            refine ifs ?_ ?_ <;> first | exact nope | intro hb
            refine go (cj rTI (cj @h1 (cj @k2 (cj @k7 (cj @k8 @g))))) ?_
            refine aw_reg fun K hK => ?_; refine rn (cj rTI @k7) ?_; refine cont_pure htl ?_; refine rn (cj rTI @k7) ?_; refine hK _ _ ?_; clear hK K
            rw [then_normal]
            refine go (cj rTI @e0) ?_
            refine ifs ?_ ?_ <;> first | exact nope | intro hb
            refine go (cj rTI (cj @h1 (cj @k2 @g))) ?_
            intro i hi
            rw [if_neg (by omega)]
            exact fr2 i hi
          · rw [decide_eq_false ql] at e0
            obtain ⟨T1, T2, T3, T4⟩ := P2 ql
            have lT := bs_size (trail (lead ds))
            have lL := bs_size (lead ds)
            have hpi := fun h9 => parseInt_ax (trail (lead ds)) T2 T1 h9
            clear P1 P2
            generalize trail (lead ds) = T at *
            obtain ⟨n, hn⟩ : ∃ n, n = (lead ds).length - T.length := ⟨_, rfl⟩
            rw [← hn] at T4
            by_cases q9 : T.length > 9
            · rw [if_pos (.inl q9)] at T4
              rw [T4]
              show AW _ _ _ _ _ (fpost _ _ fun r' s' => r' = .tp [.ag [.v (.int .i64 0), .v (.int .i64 0)], .v (.int .i64 30)] ∧ _)
              refine go trivial ?_
              refine aw_reg fun K hK => ?_; refine rn (cj rTI (cj @k4 (cj @tailV.eq_1 @tailV.eq_2))) ?_; refine cont_pure hlet ?_; refine rn (cj rTI (cj @k4 (cj @tailV.eq_1 @tailV.eq_2))) ?_; refine hK _ _ ?_; clear hK K
              rw [then_normal]
              refine go trivial ?_
              refine ifs ?_ ?_ <;> first | exact nope | intro hb
              refine go (cj rTI (cj @h1 (cj @k2 (cj @k7 (cj @k8 @g))))) ?_
              refine aw_reg fun K hK => ?_; refine rn (cj rTI @k7) ?_; refine cont_pure htl ?_; refine rn (cj rTI @k7) ?_; refine hK _ _ ?_; clear hK K
              rw [then_normal]
              refine go (cj rTI @e0) ?_
              refine ifs ?_ ?_ <;> first | exact nope | intro hb
              refine go trivial ?_
              refine aw_reg fun K hK => ?_; refine rn rTI ?_; refine cont_pure htr ?_; refine rn rTI ?_; refine hK _ _ ?_; clear hK K
              rw [then_normal]
              refine go (cj rTI (cj @lT @lL)) ?_
              refine ifs ?_ ?_ <;> first | exact nope | intro hb
              refine go (cj rTI (cj @h1 (cj @k2 @g))) ?_
              intro i hi
              rw [if_neg (by omega)]
              exact fr2 i hi
            · have hpi := hpi (by omega)
              have e3 : ((lead ds).length : Int) - (T.length : Int) = (n : Int) := by omega
              have hv9 : digV T < 1000000000 := by
                have h1' := dig_lt T T2
                have h2' : 10 ^ T.length ≤ 10 ^ 9 := Nat.pow_le_pow_right (by decide) (by omega)
                omega
              obtain ⟨X, hX⟩ : ∃ X, X = x + ee + (n : Int) := ⟨_, rfl⟩
              rw [← hX] at T4
              by_cases q18 : X < -18
              · rw [if_pos (.inr (.inl q18))] at T4
                rw [T4]
                show AW _ _ _ _ _ (fpost _ _ fun r' s' => r' = .tp [.ag [.v (.int .i64 0), .v (.int .i64 0)], .v (.int .i64 30)] ∧ _)
                refine go trivial ?_
                refine aw_reg fun K hK => ?_; refine rn (cj rTI (cj @k4 (cj @tailV.eq_1 @tailV.eq_2))) ?_; refine cont_pure hlet ?_; refine rn (cj rTI (cj @k4 (cj @tailV.eq_1 @tailV.eq_2))) ?_; refine hK _ _ ?_; clear hK K
                rw [then_normal]
                refine go trivial ?_
                refine ifs ?_ ?_ <;> first | exact nope | intro hb
                refine go (cj rTI (cj @h1 (cj @k2 (cj @k7 (cj @k8 @g))))) ?_
                refine aw_reg fun K hK => ?_; refine rn (cj rTI @k7) ?_; refine cont_pure htl ?_; refine rn (cj rTI @k7) ?_; refine hK _ _ ?_; clear hK K
                rw [then_normal]
                refine go (cj rTI @e0) ?_
                refine ifs ?_ ?_ <;> first | exact nope | intro hb
                refine go trivial ?_
                refine aw_reg fun K hK => ?_; refine rn rTI ?_; refine cont_pure htr ?_; refine rn rTI ?_; refine hK _ _ ?_; clear hK K
                rw [then_normal]
                refine go (cj rTI (cj @lT (cj @lL (cj @k8 @e3)))) ?_
                refine ifs ?_ ?_ <;> first | exact nope | intro hb
                refine go (cj rTI (cj @h1 (cj @k2 @g))) ?_
                intro i hi
                rw [if_neg (by omega)]
                exact fr2 i hi
              · by_cases q19 : X > 9
                · rw [if_pos (.inr (.inr q19))] at T4
                  rw [T4]
                  show AW _ _ _ _ _ (fpost _ _ fun r' s' => r' = .tp [.ag [.v (.int .i64 0), .v (.int .i64 0)], .v (.int .i64 30)] ∧ _)
                  refine go trivial ?_
                  refine aw_reg fun K hK => ?_; refine rn (cj rTI (cj @k4 (cj @tailV.eq_1 @tailV.eq_2))) ?_; refine cont_pure hlet ?_; refine rn (cj rTI (cj @k4 (cj @tailV.eq_1 @tailV.eq_2))) ?_; refine hK _ _ ?_; clear hK K
                  rw [then_normal]
                  refine go trivial ?_
                  refine ifs ?_ ?_ <;> first | exact nope | intro hb
                  refine go (cj rTI (cj @h1 (cj @k2 (cj @k7 (cj @k8 @g))))) ?_
                  refine aw_reg fun K hK => ?_; refine rn (cj rTI @k7) ?_; refine cont_pure htl ?_; refine rn (cj rTI @k7) ?_; refine hK _ _ ?_; clear hK K
                  rw [then_normal]
                  refine go (cj rTI @e0) ?_
                  refine ifs ?_ ?_ <;> first | exact nope | intro hb
                  refine go trivial ?_
                  refine aw_reg fun K hK => ?_; refine rn rTI ?_; refine cont_pure htr ?_; refine rn rTI ?_; refine hK _ _ ?_; clear hK K
                  rw [then_normal]
                  refine go (cj rTI (cj @lT (cj @lL (cj @k8 @e3)))) ?_
                  refine ifs ?_ ?_ <;> first | exact nope | intro hb
                  refine go (cj rTI (cj @h1 (cj @k2 @g))) ?_
                  intro i hi
                  rw [if_neg (by omega)]
                  exact fr2 i hi
                · rw [if_neg (fun h => h.elim q9 fun h => h.elim q18 q19)] at T4
                  rw [T4]
                  clear T4
                  generalize digV T = v at *
                  cases neg
                  · show AW _ _ _ _ _ (fpost _ _ fun r' s' => r' = .tp [.ag [.v (.int .i64 v), .v (.int .i64 X)], .v (.int .i64 0)] ∧ _)
                    refine go trivial ?_
                    refine aw_reg fun K hK => ?_; refine rn (cj rTI (cj @k4 (cj @tailV.eq_1 @tailV.eq_2))) ?_; refine cont_pure hlet ?_; refine rn (cj rTI (cj @k4 (cj @tailV.eq_1 @tailV.eq_2))) ?_; refine hK _ _ ?_; clear hK K
                    rw [then_normal]
                    refine go trivial ?_
                    refine ifs ?_ ?_ <;> first | exact nope | intro hb
                    refine go (cj rTI (cj @h1 (cj @k2 (cj @k7 (cj @k8 @g))))) ?_
                    refine aw_reg fun K hK => ?_; refine rn (cj rTI @k7) ?_; refine cont_pure htl ?_; refine rn (cj rTI @k7) ?_; refine hK _ _ ?_; clear hK K
                    rw [then_normal]
                    refine go (cj rTI @e0) ?_
                    refine ifs ?_ ?_ <;> first | exact nope | intro hb
                    refine go trivial ?_
                    refine aw_reg fun K hK => ?_; refine rn rTI ?_; refine cont_pure htr ?_; refine rn rTI ?_; refine hK _ _ ?_; clear hK K
                    rw [then_normal]
                    refine go (cj rTI (cj @lT (cj @lL (cj @k8 @e3)))) ?_
                    refine ifs ?_ ?_ <;> first | exact nope | intro hb
                    refine go rTI ?_
                    refine aw_reg fun K hK => ?_; refine rn rTI ?_; refine cont_pure hpi ?_; refine rn rTI ?_; refine hK _ _ ?_; clear hK K
                    rw [then_normal]
                    refine go (cj rTI @k5) ?_
                    refine ifs ?_ ?_ <;> first | exact nope | intro hb
                    refine go (cj rTI (cj @h1 (cj @k2 (cj @k5 (cj @g @e3))))) ?_
                    rw [hX]
                    exact ⟨rfl, fun i hi => by rw [if_neg (by omega)]; exact fr2 i hi⟩
                  · show AW _ _ _ _ _ (fpost _ _ fun r' s' => r' = .tp [.ag [.v (.int .i64 (-(v : Int))), .v (.int .i64 X)], .v (.int .i64 0)] ∧ _)
                    refine go trivial ?_
                    refine aw_reg fun K hK => ?_; refine rn (cj rTI (cj @k4 (cj @tailV.eq_1 @tailV.eq_2))) ?_; refine cont_pure hlet ?_; refine rn (cj rTI (cj @k4 (cj @tailV.eq_1 @tailV.eq_2))) ?_; refine hK _ _ ?_; clear hK K
                    rw [then_normal]
                    refine go trivial ?_
                    refine ifs ?_ ?_ <;> first | exact nope | intro hb
                    refine go (cj rTI (cj @h1 (cj @k2 (cj @k7 (cj @k8 @g))))) ?_
                    refine aw_reg fun K hK => ?_; refine rn (cj rTI @k7) ?_; refine cont_pure htl ?_; refine rn (cj rTI @k7) ?_; refine hK _ _ ?_; clear hK K
                    rw [then_normal]
                    refine go (cj rTI @e0) ?_
                    refine ifs ?_ ?_ <;> first | exact nope | intro hb
                    refine go trivial ?_
                    refine aw_reg fun K hK => ?_; refine rn rTI ?_; refine cont_pure htr ?_; refine rn rTI ?_; refine hK _ _ ?_; clear hK K
                    rw [then_normal]
                    refine go (cj rTI (cj @lT (cj @lL (cj @k8 @e3)))) ?_
                    refine ifs ?_ ?_ <;> first | exact nope | intro hb
                    refine go rTI ?_
                    refine aw_reg fun K hK => ?_; refine rn rTI ?_; refine cont_pure hpi ?_; refine rn rTI ?_; refine hK _ _ ?_; clear hK K
                    rw [then_normal]
                    refine go (cj rTI @k5) ?_
                    refine ifs ?_ ?_ <;> first | exact nope | intro hb
                    refine go (cj rTI (cj @h1 (cj @k2 (cj @k5 (cj @g (cj @e3 @Int.zero_sub)))))) ?_
                    rw [hX]
                    exact ⟨rfl, fun i hi => by rw [if_neg (by omega)]; exact fr2 i hi⟩
end Go.Proofs.YtfjelkjlfcafgaaGreatDoor.NumW
end
section
/- Texts of numbers: num.Text, where FormatInt writes what it should. -/
namespace Go.Proofs.YtfjelkjlfcafgaaGreatDoor.NumX
open Go Go.RowKit Go.Proofs.YtfjelkjlfcafgaaGreatDoor.Ax Go.Proofs.YtfjelkjlfcafgaaGreatDoor.Ti Go.Proofs.YtfjelkjlfcafgaaGreatDoor.BigM Go.Proofs.YtfjelkjlfcafgaaGreatDoor.NumS Go.Proofs.YtfjelkjlfcafgaaGreatDoor.NumA Go.Proofs.YtfjelkjlfcafgaaGreatDoor.NumT Go.Proofs.YtfjelkjlfcafgaaGreatDoor.NumU Go.Proofs.YtfjelkjlfcafgaaGreatDoor.NumL Go.Proofs.YtfjelkjlfcafgaaGreatDoor.NumW
set_option linter.unusedSimpArgs false
set_option linter.unusedVariables false
set_option maxRecDepth 4000
set_option maxHeartbeats 2000000
theorem rTI : type_of% (cj @ti3 (cj @ti2 (cj @ti4 (cj @ti9 (cj @ti5 (cj @ti36 (cj @ti24 @ti25))))))) := cj @ti3 (cj @ti2 (cj @ti4 (cj @ti9 (cj @ti5 (cj @ti36 (cj @ti24 @ti25))))))

theorem itoa_ax (i : Nat) (h : i = 16 ∨ i = 17 ∨ i = 18) : PCall Tryz.prog 64 [.v (.int .i64 i)] (.v (.string (bs (decN i)))) := by
  refine pcall_lift (us := [.int .i64 i]) (enters_of Tryz.func64 rfl rfl) (fun k => .v _) fun w => ?_
  refine (Tryz.strconv_Itoa_small i (by omega) w).mono ?_
  rintro en w' ⟨rfl, rfl⟩
  refine ⟨?_, Below.refl _ _⟩
  have e : Lib.decDigits i = (decN i).map UInt8.ofNat := by
    rcases h with rfl | rfl | rfl <;> simp [Lib.decDigits, decN, digs_pos, digs_zero]
  rw [e]
  rfl
def textV (m x : Int) : AV := if validN m x = true then .tp [.v (.string (bs (textS m x))), .v (.int .i64 0)] else .tp [.v (.string (bs [])), .v (.int .i64 30)]
theorem decS_len (m : Int) (h1 : -999999999 ≤ m) (h2 : m ≤ 999999999) : (decS m).length ≤ 10 := by
  unfold decS
  split
  · simp
  · rw [List.length_append]
    have := decN_len m.natAbs 9 (by omega)
    split <;> simp <;> omega
theorem text_ax (m x : Int) (hF : validN m x = true → PCall Tryz.prog 63 [.v (.int .i64 m), .v (.int .i64 10)] (.v (.string (bs (decS m))))) : PCall Tryz.prog 17 [NM m x] (textV m x) := by
  refine pcall_of fun s => ?_
  have hv := valid_ax m x
  unfold NM at hv ⊢
  unfold textV
  by_cases q : validN m x = true
  · have hF := hF q
    rw [if_pos q]
    rw [q] at hv
    obtain ⟨m1, m2, k1, k2⟩ := RefM.validN_m m x q
    have hld := decS_len m m1 m2
    have lD := bs_size (decS m)
    by_cases qx : x < -15
    · have hi := itoa_ax x.natAbs (by omega)
      have e1 : textS m x = decS m ++ [101, 45] ++ decN x.natAbs := by unfold textS; rw [if_pos qx]
      rw [e1]
      have e2 : -x = (x.natAbs : Int) := by omega
      have c1 : bs (decS m) ++ (ByteArray.mk #[101, 45]) = bs (decS m ++ [101, 45]) := by
        show bs (decS m) ++ bs [101, 45] = _
        exact bs_append _ _
      have c2 := bs_append (decS m ++ [101, 45]) (decN x.natAbs)
      have lE := bs_size (decS m ++ [101, 45])
      have lN := bs_size (decN x.natAbs)
      have lN2 := decN_len x.natAbs 2 (by omega)
      have l2 : (ByteArray.mk #[101, 45]).size = 2 := rfl
      rw [List.length_append] at lE
      rw [show ([101, 45] : List Nat).length = 2 from rfl] at lE
      clear e1
      refine acall_of Tryz.func17 rfl rfl (by simp [Tryz.ntmps17]) ?_; rw [Tryz.ntmps17, Tryz.results17]
      refine go rTI ?_
      refine aw_reg fun K hK => ?_; refine rn rTI ?_; refine cont_pure hv ?_; refine rn rTI ?_; refine hK _ _ ?_; clear hK K
      rw [then_normal]
      refine ifs ?_ ?_ <;> first | exact nope | intro hb
      refine go trivial ?_
      refine aw_reg fun K hK => ?_; refine rn rTI ?_; refine cont_pure hF ?_; refine rn rTI ?_; refine hK _ _ ?_; clear hK K
      rw [then_normal]
      refine go rTI ?_
      refine ifs ?_ ?_ <;> first | exact nope | intro hb
      generalize x.natAbs = i at *
      refine aw_seq ?_
      refine aw_reg fun K hK => ?_; refine rn (cj rTI (cj @c1 (cj @c2 (cj @lD (cj @lE (cj @lN (cj @l2 (cj @Int.zero_sub @e2)))))))) ?_; refine cont_pure hi ?_; refine rn (cj rTI (cj @c1 (cj @c2 (cj @lD (cj @lE (cj @lN (cj @l2 (cj @Int.zero_sub @e2)))))))) ?_; refine hK _ _ ?_; clear hK K
      refine go rTI ?_
      exact fun i hi => if_neg (by omega)
    · obtain ⟨kk, hkk⟩ : ∃ kk : Nat, kk = ((x + 15) / 3).toNat := ⟨_, rfl⟩
      obtain ⟨z, hz⟩ : ∃ z : Nat, z = ((x + 15) % 3).toNat := ⟨_, rfl⟩
      have e1 : textS m x = decS m ++ List.replicate z 48 ++ letterS kk := by unfold textS; rw [if_neg qx, hkk, hz]
      rw [e1]
      have e2 : (x + 15) / 3 = (kk : Int) := by omega
      have e3 : x + 15 - 3 * (kk : Int) = (z : Int) := by omega
      have hz3 : z < 3 := by omega
      have hk9 : kk < 9 := by omega
      have s1 : (ByteArray.mk #[48, 48]).extract 0 z = bs (List.replicate z 48) := by
        have : z = 0 ∨ z = 1 ∨ z = 2 := by omega
        rcases this with rfl | rfl | rfl <;> rfl
      have tz : Int.toNat 0 = 0 := rfl
      have l00 : (ByteArray.mk #[48, 48]).size = 2 := rfl
      have c1 := bs_append (decS m) (List.replicate z 48)
      have c2 := bs_append (decS m ++ List.replicate z 48) (letterS kk)
      have lZ := bs_size (List.replicate z 48)
      have lE := bs_size (decS m ++ List.replicate z 48)
      have lK := bs_size (letterS kk)
      have lK3 := (letter_reads kk (by omega)).2.2
      rw [List.length_replicate] at lZ
      rw [List.length_append, List.length_replicate] at lE
      have hd : (([AV.v (.string (ByteArray.mk #[102])), .v (.string (ByteArray.mk #[112])), .v (.string (ByteArray.mk #[110])), .v (.string (ByteArray.mk #[117])), .v (.string (ByteArray.mk #[109])), .v (.string (ByteArray.mk #[])), .v (.string (ByteArray.mk #[107])), .v (.string (ByteArray.mk #[109, 101, 103])), .v (.string (ByteArray.mk #[103]))]).drop kk).head? = some (.v (.string (bs (letterS kk)))) := by
        have : kk = 0 ∨ kk = 1 ∨ kk = 2 ∨ kk = 3 ∨ kk = 4 ∨ kk = 5 ∨ kk = 6 ∨ kk = 7 ∨ kk = 8 := by omega
        rcases this with rfl | rfl | rfl | rfl | rfl | rfl | rfl | rfl | rfl <;> rfl
      clear e1
      refine acall_of Tryz.func17 rfl rfl (by simp [Tryz.ntmps17]) ?_; rw [Tryz.ntmps17, Tryz.results17]
      refine go rTI ?_
      refine aw_reg fun K hK => ?_; refine rn rTI ?_; refine cont_pure hv ?_; refine rn rTI ?_; refine hK _ _ ?_; clear hK K
      rw [then_normal]
      refine ifs ?_ ?_ <;> first | exact nope | intro hb
      refine go trivial ?_
      refine aw_reg fun K hK => ?_; refine rn rTI ?_; refine cont_pure hF ?_; refine rn rTI ?_; refine hK _ _ ?_; clear hK K
      rw [then_normal]
      refine go rTI ?_
      refine ifs ?_ ?_ <;> first | exact nope | intro hb
      refine go (cj rTI @e2) ?_
      generalize letterS kk = lk at *
      refine aw_drw (.take 0 (.take 1 (.take 2 (.take 3 (.take 4 (.take 5 (.take 6 (.take 7 (.take 8 (.take 10 (.one 9 (.one 11 (.one 12 (.one 13 (.one 14 (.one 15 (.done))))))))))))))))) [s.nx] (by kernel_rfl) (by kernel_rfl) fun K hK => ?_; refine dr (cj rTI (cj @e3 (cj @s1 (cj @tz (cj @l00 (cj @c1 (cj @c2 (cj @lD (cj @lZ (cj @lE (cj @lK (cj @hd @Nat.zero_add)))))))))))) ?_; refine hK _ _ ?_; clear hK K
      refine go rTI ?_
      exact fun i hi => by rw [if_neg (by omega), if_neg (by omega)]
  · have q' : validN m x = false := by simpa using q
    rw [if_neg q]
    rw [q'] at hv
    refine acall_of Tryz.func17 rfl rfl (by simp [Tryz.ntmps17]) ?_; rw [Tryz.ntmps17, Tryz.results17]
    refine go rTI ?_
    refine aw_reg fun K hK => ?_; refine rn rTI ?_; refine cont_pure hv ?_; refine rn rTI ?_; refine hK _ _ ?_; clear hK K
    rw [then_normal]
    refine ifs ?_ ?_ <;> first | exact nope | intro hb
    refine go trivial ?_
    exact ⟨rfl, fun i hi => if_neg (by omega)⟩
end Go.Proofs.YtfjelkjlfcafgaaGreatDoor.NumX
end
section
/- The laws of layer 3: awake, decimal. -/
namespace Go.Proofs.YtfjelkjlfcafgaaGreatDoor.NumY
open Go Go.RowKit Go.Proofs.YtfjelkjlfcafgaaGreatDoor.Ax Go.Proofs.YtfjelkjlfcafgaaGreatDoor.Ti Go.Proofs.YtfjelkjlfcafgaaGreatDoor.BigM Go.Proofs.YtfjelkjlfcafgaaGreatDoor.NumS Go.Proofs.YtfjelkjlfcafgaaGreatDoor.NumA Go.Proofs.YtfjelkjlfcafgaaGreatDoor.NumB Go.Proofs.YtfjelkjlfcafgaaGreatDoor.NumT Go.Proofs.YtfjelkjlfcafgaaGreatDoor.NumU Go.Proofs.YtfjelkjlfcafgaaGreatDoor.NumL Go.Proofs.YtfjelkjlfcafgaaGreatDoor.NumW Go.Proofs.YtfjelkjlfcafgaaGreatDoor.NumX
set_option linter.unusedSimpArgs false
set_option linter.unusedVariables false
set_option maxRecDepth 4000
set_option maxHeartbeats 2000000
theorem rTI : type_of% (cj @ti3 (cj @ti2 (cj @ti4 (cj @ti9 (cj @ti5 (cj @ti35 (cj @ti36 (cj @ti116 (cj @ti24 @ti25))))))))) := cj @ti3 (cj @ti2 (cj @ti4 (cj @ti9 (cj @ti5 (cj @ti35 (cj @ti36 (cj @ti116 (cj @ti24 @ti25))))))))

end Go.Proofs.YtfjelkjlfcafgaaGreatDoor.NumY
end
section
/- The document's Parse reads what parseS says. -/
namespace Go.Proofs.YtfjelkjlfcafgaaGreatDoor.NumR
open Go Go.RowKit Go.Proofs.YtfjelkjlfcafgaaGreatDoor.Ax Go.Proofs.YtfjelkjlfcafgaaGreatDoor.Ti Go.Proofs.YtfjelkjlfcafgaaGreatDoor.BigM Go.Proofs.YtfjelkjlfcafgaaGreatDoor.RefA Go.Proofs.YtfjelkjlfcafgaaGreatDoor.RefC Go.Proofs.YtfjelkjlfcafgaaGreatDoor.RefD Go.Proofs.YtfjelkjlfcafgaaGreatDoor.RefF Go.Proofs.YtfjelkjlfcafgaaGreatDoor.RefG Go.Proofs.YtfjelkjlfcafgaaGreatDoor.RefI Go.Proofs.YtfjelkjlfcafgaaGreatDoor.RefK Go.Proofs.YtfjelkjlfcafgaaGreatDoor.NumS Go.Proofs.YtfjelkjlfcafgaaGreatDoor.NumP Go.Proofs.YtfjelkjlfcafgaaGreatDoor.NumT Go.Proofs.YtfjelkjlfcafgaaGreatDoor.NumU Go.Proofs.YtfjelkjlfcafgaaGreatDoor.NumL Go.Proofs.YtfjelkjlfcafgaaGreatDoor.NumW
set_option linter.unusedSimpArgs false
set_option linter.unusedVariables false
set_option maxRecDepth 4000
set_option maxHeartbeats 2000000
theorem rTI : type_of% (cj @ti3 (cj @ti2 (cj @ti4 (cj @ti9 (cj @ti5 (cj @ti24 @ti105)))))) := cj @ti3 (cj @ti2 (cj @ti4 (cj @ti9 (cj @ti5 (cj @ti24 @ti105)))))

end Go.Proofs.YtfjelkjlfcafgaaGreatDoor.NumR
end
section
/- The law NumReads, walked. -/
namespace Go.Proofs.YtfjelkjlfcafgaaGreatDoor.NumE
open Go Go.RowKit Go.Proofs.YtfjelkjlfcafgaaGreatDoor.Ax Go.Proofs.YtfjelkjlfcafgaaGreatDoor.Ti Go.Proofs.YtfjelkjlfcafgaaGreatDoor.BigM Go.Proofs.YtfjelkjlfcafgaaGreatDoor.NumS Go.Proofs.YtfjelkjlfcafgaaGreatDoor.NumA Go.Proofs.YtfjelkjlfcafgaaGreatDoor.NumB Go.Proofs.YtfjelkjlfcafgaaGreatDoor.NumT Go.Proofs.YtfjelkjlfcafgaaGreatDoor.NumU Go.Proofs.YtfjelkjlfcafgaaGreatDoor.NumL Go.Proofs.YtfjelkjlfcafgaaGreatDoor.NumW Go.Proofs.YtfjelkjlfcafgaaGreatDoor.NumX Go.Proofs.YtfjelkjlfcafgaaGreatDoor.NumY Go.Proofs.YtfjelkjlfcafgaaGreatDoor.NumR
set_option linter.unusedSimpArgs false
set_option linter.unusedVariables false
set_option maxRecDepth 4000
set_option maxHeartbeats 2000000
theorem rTI : type_of% (cj @ti3 (cj @ti2 (cj @ti4 (cj @ti9 (cj @ti5 (cj @ti24 @ti25)))))) := cj @ti3 (cj @ti2 (cj @ti4 (cj @ti9 (cj @ti5 (cj @ti24 @ti25)))))

theorem parse_long (l : List Nat) (h : 32 < l.length) : PCall Tryz.prog 14 [.v (.string (bs l))] (parseV (parseS l)) := by
  have l1 := bs_size l
  rw [show parseS l = (0, 0, 3) by unfold parseS; rw [if_pos h], show parseV (0, 0, 3) = .tp [.ag [.v (.int .i64 0), .v (.int .i64 0)], .v (.int .i64 3)] from rfl]
  refine pcall_of fun s => ?_
  refine acall_of Tryz.func14 rfl rfl (by simp [Tryz.ntmps14]) ?_; rw [Tryz.ntmps14, Tryz.results14]
  refine go (cj rTI @l1) ?_
  refine ifs ?_ ?_ <;> first | exact nope | intro hb
  refine go rTI ?_
  exact fun i hi => by rw [if_neg (by omega)]
theorem parse_any (l : List Nat) (h : By l) : PCall Tryz.prog 14 [.v (.string (bs l))] (parseV (parseS l)) := by
  by_cases q : 32 < l.length
  · exact parse_long l q
  · exact parse_ax l h (by omega)
end Go.Proofs.YtfjelkjlfcafgaaGreatDoor.NumE
end
section
/- A world in which the listed tables lie as the program's text lays them; and what the list says of the table of tens. -/
namespace Go.Proofs.YtfjelkjlfcafgaaGreatDoor.NumLaid
open Go.Proofs.YtfjelkjlfcafgaaGreatDoor.Ax
set_option linter.unusedVariables false
set_option maxRecDepth 100000

theorem own : ownKnob Tryz.prog.godebug = none := by kernel_rfl
theorem laidOut : laidOutB Tryz.prog = true := by kernel_rfl

noncomputable def laidWorld (os : Os) : World := World.laidAll Tryz.prog os Rows.numShiftRow.laid
theorem laidWorld_os (os : Os) : (laidWorld os).os = os := World.laidAll_os _ _ _
theorem laid_met (os : Os) (args : Array Value) : laidMet Tryz.prog Rows.numShiftRow.laid ((laidWorld os).forCall (fun _ _ => 0) ⟨#[], args, []⟩).memory := laidMet_laidAll args (by kernel_rfl) (by kernel_rfl)

theorem laidMet_tail {P : Program} {w : World} {x : String × DataW Unit} {l : List (String × DataW Unit)} (h : laidMet P (x :: l) w) : laidMet P l w := by
  obtain ⟨ps, ⟨g1, t1, c1, f1, p1, q1, a1, a2, a3, a4, a5, rfl⟩, hn, hc⟩ := h
  exact ⟨q1, a5, (List.nodup_append.1 hn).2.1, fun b off hb => hc b off (List.mem_append_right _ hb)⟩

theorem iface_of {H : Type} {enc : TypeId × Value → H} {P : Program} {w : World} {base : Nat} {sp : Nat → Bool} {held : Bool} {fuel : Nat} {t : TypeId} {ms : _} {cs : List Value} {name : String} {d : DataW H} {p : List MemPlace}
    (ht : P.underlying t = some (.interface ms)) (h : DataW.trod enc P w base sp held fuel t cs = some (.iface name d, p)) : ∃ u v, cs = [.iface u v] := by
  cases fuel with
  | zero => simp [DataW.trod] at h
  | succ fuel =>
    match cs with
    | [] => simp [DataW.trod, ht] at h
    | _ :: _ :: _ => simp [DataW.trod, ht] at h
    | [x] =>
      cases x
      case iface u v => exact ⟨u, v, rfl⟩
      all_goals simp [DataW.trod, ht] at h
theorem syntax_cell {w : World} (h : laidMet Tryz.prog Rows.numShiftRow.laid w) : ∃ t p, w.cell? ⟨0, 0, none⟩ = some (.iface t p) := by
  have h := laidMet_tail (laidMet_tail (laidMet_tail (laidMet_tail (laidMet_tail h))))
  obtain ⟨ps, ⟨g', t', cs, fuel, p, q, hg', ht', hvar, hd, _, _⟩, _⟩ := h
  obtain rfl := Option.some.inj ((show Tryz.prog.globalNamed "strconv.ErrSyntax" = some 0 by kernel_rfl).symm.trans hg')
  obtain rfl := Option.some.inj ((show (Tryz.prog.globals[0]?).map (·.type) = some 101 by kernel_rfl).symm.trans ht')
  obtain ⟨u, v, hcs⟩ := iface_of Tryz.underlying101 hd
  obtain rfl : cs = #[.iface u v] := by rw [← Array.toList_inj, hcs]
  exact ⟨u, v, by have := World.var?_cell hg' hvar 0; simpa using this⟩
theorem range_cell {w : World} (h : laidMet Tryz.prog Rows.numShiftRow.laid w) : ∃ t p, w.cell? ⟨1, 0, none⟩ = some (.iface t p) := by
  have h := laidMet_tail (laidMet_tail (laidMet_tail (laidMet_tail h)))
  obtain ⟨ps, ⟨g', t', cs, fuel, p, q, hg', ht', hvar, hd, _, _⟩, _⟩ := h
  obtain rfl := Option.some.inj ((show Tryz.prog.globalNamed "strconv.ErrRange" = some 1 by kernel_rfl).symm.trans hg')
  obtain rfl := Option.some.inj ((show (Tryz.prog.globals[1]?).map (·.type) = some 101 by kernel_rfl).symm.trans ht')
  obtain ⟨u, v, hcs⟩ := iface_of Tryz.underlying101 hd
  obtain rfl : cs = #[.iface u v] := by rw [← Array.toList_inj, hcs]
  exact ⟨u, v, by have := World.var?_cell hg' hvar 0; simpa using this⟩
theorem pow_eq : (Rows.laid_internal_strconv_uint64pow10 : DataW Unit) = Lib.tabData .u64 Lib.pow10Tab := by kernel_rfl
theorem tabs {w : World} (h : laidMet Tryz.prog Rows.numShiftRow.laid w) : Tabs w.cell? := by
  have h1 := laidMet_tail (laidMet_tail h)
  rw [pow_eq] at h1
  obtain ⟨ps, ⟨g', t', cs, fuel, p, q, hg', ht', hvar, hd, _, _⟩, _⟩ := h1
  obtain rfl := Option.some.inj ((show Tryz.prog.globalNamed "internal/strconv.uint64pow10" = some 2 by kernel_rfl).symm.trans hg')
  obtain rfl := Option.some.inj ((show (Tryz.prog.globals[2]?).map (·.type) = some 227 by kernel_rfl).symm.trans ht')
  have hc := Lib.cells_of_tab (e := 165) (n := 20) Tryz.underlying227 Tryz.underlying165 (by kernel_rfl) (by kernel_rfl) hd
  refine ⟨fun i hi => ?_, syntax_cell h, range_cell h, trivial⟩
  have hT : Lib.TabIs Tryz.prog w "internal/strconv.uint64pow10" .u64 Lib.pow10Tab := by
    unfold Lib.TabIs
    rw [hvar, ← hc]
  have := hT.cell (g := 2) (by kernel_rfl) i (by rw [Lib.pow10Tab_length]; exact hi)
  rw [Lib.pow10Tab_at i hi] at this
  exact this
theorem tabSize {w : World} (h : laidMet Tryz.prog Rows.numShiftRow.laid w) : TabSize w := by
  have h1 := laidMet_tail (laidMet_tail h)
  rw [pow_eq] at h1
  obtain ⟨ps, ⟨g', t', cs, fuel, p, q, hg', ht', hvar, hd, _, _⟩, _⟩ := h1
  obtain rfl := Option.some.inj ((show Tryz.prog.globalNamed "internal/strconv.uint64pow10" = some 2 by kernel_rfl).symm.trans hg')
  obtain rfl := Option.some.inj ((show (Tryz.prog.globals[2]?).map (·.type) = some 227 by kernel_rfl).symm.trans ht')
  have hc := Lib.cells_of_tab (e := 165) (n := 20) Tryz.underlying227 Tryz.underlying165 (by kernel_rfl) (by kernel_rfl) hd
  refine ⟨?_, trivial⟩
  simp only [World.var?, hg', Option.bind_some] at hvar
  split at hvar
  · rename_i c t fr hb
    injection hvar with hvar
    subst hvar
    refine ⟨_, _, _, hb, ?_⟩
    rw [← Array.length_toList, hc]
    simp [Lib.pow10Tab]
  · cases hvar
theorem tabIs {w : World} (h : Tabs w.cell?) (hz : TabSize w) : Lib.TabIs Tryz.prog w "internal/strconv.uint64pow10" .u64 Lib.pow10Tab := by
  obtain ⟨c, e, f, h1, h2⟩ := hz.1
  have hg : Tryz.prog.globalNamed "internal/strconv.uint64pow10" = some 2 := by kernel_rfl
  unfold Lib.TabIs
  have hv : w.var? Tryz.prog "internal/strconv.uint64pow10" = some c := by
    simp only [World.var?, hg, Option.bind_some, h1]
  rw [hv]
  congr 1
  apply Array.ext
  · rw [h2]; simp [Lib.pow10Tab]
  intro i h3 h4
  have h5 := World.var?_cell hg hv i
  rw [h.1 i (by omega), Array.getElem?_eq_getElem h3] at h5
  injection h5 with h5
  rw [← h5]
  simp [Lib.pow10Tab]
theorem rel_two {k : KW} {z0 z1 : AV} {u0 u1 : Value} (h0 : Rel k z0 u0) (h1 : Rel k z1 u1) : ∀ (j : Nat) (z : AV) (u : Value), [z0, z1][j]? = some z → [u0, u1][j]? = some u → Rel k z u := by
  intro j z u hz hu
  match j with
  | 0 => cases hz; cases hu; exact h0
  | 1 => cases hz; cases hu; exact h1
  | j + 2 => simp at hz
theorem relL_mk2 {k : KW} {z0 z1 : AV} {u0 u1 : Value} (h0 : Rel k z0 u0) (h1 : Rel k z1 u1) : RelL k [z0, z1] [u0, u1] := ⟨rfl, rel_two h0 h1⟩
end Go.Proofs.YtfjelkjlfcafgaaGreatDoor.NumLaid
end
section
/- Texts of numbers: FormatInt in general; the document's Text. -/
namespace Go.Proofs.YtfjelkjlfcafgaaGreatDoor.NumG
open Go Go.RowKit Go.Proofs.YtfjelkjlfcafgaaGreatDoor.Ax Go.Proofs.YtfjelkjlfcafgaaGreatDoor.Ti Go.Proofs.YtfjelkjlfcafgaaGreatDoor.BigM Go.Proofs.YtfjelkjlfcafgaaGreatDoor.RefA Go.Proofs.YtfjelkjlfcafgaaGreatDoor.RefC Go.Proofs.YtfjelkjlfcafgaaGreatDoor.RefD Go.Proofs.YtfjelkjlfcafgaaGreatDoor.RefH Go.Proofs.YtfjelkjlfcafgaaGreatDoor.RefK Go.Proofs.YtfjelkjlfcafgaaGreatDoor.NumS Go.Proofs.YtfjelkjlfcafgaaGreatDoor.NumA Go.Proofs.YtfjelkjlfcafgaaGreatDoor.NumT Go.Proofs.YtfjelkjlfcafgaaGreatDoor.NumU Go.Proofs.YtfjelkjlfcafgaaGreatDoor.NumX
set_option linter.unusedSimpArgs false
set_option linter.unusedVariables false
set_option maxRecDepth 4000
set_option maxHeartbeats 2000000
theorem dec_eq (n : Nat) : Lib.decDigits n = (decP n).map UInt8.ofNat := by
  induction n using Nat.strongRecOn with
  | ind n ih =>
    rw [Lib.decDigits]
    split
    · rename_i h
      unfold decP
      split
      · rename_i e; subst e; rfl
      · rw [decN, digs_pos 10 n (by decide) (by omega), Nat.div_eq_of_lt h, digs_zero, Nat.mod_eq_of_lt h]
        rfl
    · rename_i h
      rw [ih (n / 10) (by omega)]
      have e1 : decP n = decN n := by unfold decP; rw [if_neg (by omega)]
      have e2 : decP (n / 10) = decN (n / 10) := by unfold decP; rw [if_neg (by omega)]
      rw [e1, e2]
      have e3 : decN n = decN (n / 10) ++ [48 + n % 10] := by
        unfold decN
        rw [digs_pos 10 n (by decide) (by omega), List.reverse_cons, List.map_append]
        rfl
      rw [e3, List.map_append]
      rfl
theorem itoa_eq (z : Int) : Lib.itoa z = (decS z).map UInt8.ofNat := by
  unfold Lib.itoa decS
  split
  · rename_i h
    rw [if_neg (by omega), dec_eq, decP, if_neg (by omega)]
    rfl
  · rename_i h
    by_cases e : z = 0
    · subst e; rw [if_pos rfl, dec_eq]; rfl
    · rw [if_neg e, dec_eq, decP, if_neg (by omega), show z.toNat = z.natAbs by omega]
      rfl
theorem format_ax (z : Int) (h0 : -9223372036854775808 ≤ z) (h1 : z ≤ 9223372036854775807) : PCall Tryz.prog 63 [.v (.int .i64 z), .v (.int .i64 10)] (.v (.string (bs (decS z)))) := by
  refine pcall_lift_tab (us := [.int .i64 z, .int .i64 10]) (enters_of Tryz.func63 rfl rfl) (fun k => .v _) fun w ht hz => ?_
  refine (Tryz.strconv_FormatInt_10 z h0 h1 w (NumLaid.tabIs ht hz)).mono ?_
  rintro en w' ⟨rfl, k, os, rfl⟩
  rw [itoa_eq]
  exact ⟨rfl, ⟨rfl, rfl, rfl, by simp [Sort.grow, World.drewN], fun i hi => by simp [Sort.grow, World.drewN, Array.getElem?_append, hi]⟩⟩
theorem text_all (m x : Int) : PCall Tryz.prog 17 [NM m x] (textV m x) :=
  text_ax m x fun h => by
    obtain ⟨h1, h2, _⟩ := RefM.validN_m m x h
    exact format_ax m (by omega) (by omega)
end Go.Proofs.YtfjelkjlfcafgaaGreatDoor.NumG
end
section
/- Cards and models, plain: what the words of a line say. -/
namespace Go.Proofs.YtfjelkjlfcafgaaGreatDoor.CardS
open Go.Proofs.YtfjelkjlfcafgaaGreatDoor.NumS Go.Proofs.YtfjelkjlfcafgaaGreatDoor.RefM
abbrev Str := List Nat
abbrev Num := Int × Int
def nameC (c : Nat) : Bool := decide (97 ≤ c ∧ c ≤ 122) || decide (48 ≤ c ∧ c ≤ 57) || decide (c = 95)
def isName (s : Str) : Bool := decide (1 ≤ s.length ∧ s.length ≤ 16) && s.all nameC
def kinds : Str := [114, 99, 108, 118, 105, 101, 103, 102, 104, 116, 100, 115, 120]
def isDev (s : Str) : Bool := isName s && kinds.contains (s.getD 0 0)
structure Wv where
  kind : Int
  vals : List Num
  steps : List Int
structure Crd where
  name : Str
  nodes : List Str
  ref : Str
  value : Num
  wave : Wv
structure Mdl where
  name : Str
  kind : Int
  g : List Num
  v : List Num
def wv0 : Wv := ⟨0, [], []⟩
def crd0 : Crd := ⟨[], [], [], (0, 0), wv0⟩
def mdl0 : Mdl := ⟨[], 0, [], []⟩
def valid (n : Num) : Bool := validN n.1 n.2
def shapeK (k : Nat) : Nat × Bool × Bool :=
  if k = 114 ∨ k = 99 ∨ k = 108 then (2, false, true) else if k = 118 ∨ k = 105 then (2, false, false) else if k = 102 ∨ k = 104 then (2, true, true)
  else if k = 100 then (2, true, false) else if k = 115 then (4, true, false) else (4, false, true)
def sDc : Str := [100, 99]
def sPulse : Str := [112, 117, 108, 115, 101]
def sPwl : Str := [112, 119, 108]
def sTable : Str := [116, 97, 98, 108, 101]
def sModel : Str := [46, 109, 111, 100, 101, 108]
def waveWords (w : List Str) : Bool :=
  match w with
  | [] => false
  | k :: r => if k = sDc then decide (r.length = 1) else if k = sPulse then decide (r.length = 7) else if k = sPwl then decide (2 ≤ r.length ∧ r.length % 2 = 0 ∧ r.length ≤ 32)
    else if k = sTable then decide (1 ≤ r.length ∧ r.length ≤ 16) else decide (r.length = 0)
def want (k : Nat) : Nat := 1 + (shapeK k).1 + (if (shapeK k).2.1 then 1 else 0) + (if (shapeK k).2.2 then 1 else 0)
def counted (k : Nat) (words : List Str) : Bool :=
  if k = 120 then decide (3 ≤ words.length ∧ words.length ≤ 10) else if k = 118 ∨ k = 105 then decide (4 ≤ words.length) && waveWords (words.drop 3) else decide (words.length = want k)
def stepS (w : Str) : Option Int := if decP (digV w) = w ∧ digV w ≤ 1000000000 then some (digV w : Nat) else none
def numE (w : Str) (e : Int) : Int := if e = 0 then (parseS w).2.2 else e
def stepE (w : Str) (e : Int) : Int := if e = 0 then (if (stepS w).isSome then 0 else 3) else e
def numV (w : Str) : Num := ((parseS w).1, (parseS w).2.1)
def stepV (w : Str) : Int := (stepS w).getD 0
def numsE : List Str → Int → Int
  | [], e => e
  | w :: r, e => numsE r (numE w e)
def stepsE : List Str → Int → Int
  | [], e => e
  | w :: r, e => stepsE r (stepE w e)
def pairsE : List Str → Int → Int
  | a :: b :: r, e => pairsE r (numE b (stepE a e))
  | _, e => e
def evens : List Str → List Str
  | a :: _ :: r => a :: evens r
  | l => l
def odds : List Str → List Str
  | _ :: b :: r => b :: odds r
  | _ => []
def waveR (w : List Str) (e : Int) : Wv × Int :=
  match w with
  | [] => (wv0, e)
  | k :: r =>
    if k = sPulse then (⟨2, (r.take 2).map numV, (r.drop 2).map stepV⟩, stepsE (r.drop 2) (numsE (r.take 2) e))
    else if k = sPwl then (⟨3, (odds r).map numV, (evens r).map stepV⟩, pairsE r e)
    else if k = sTable then (⟨4, r.map numV, []⟩, numsE r e)
    else if k = sDc then (⟨1, r.map numV, []⟩, numsE r e)
    else (⟨1, [numV k], []⟩, numE k e)
def rising : List Int → Bool
  | a :: b :: r => decide (a < b) && rising (b :: r)
  | _ => true
def waveOk (w : Wv) : Bool :=
  w.vals.all valid && w.steps.all (fun s => decide (0 ≤ s ∧ s ≤ 1000000000)) &&
  (if w.kind = 1 then decide (w.vals.length = 1 ∧ w.steps.length = 0)
   else if w.kind = 2 then decide (w.vals.length = 2 ∧ w.steps.length = 5 ∧ 1 ≤ w.steps.getD 4 0 ∧ w.steps.getD 1 0 + w.steps.getD 2 0 + w.steps.getD 3 0 ≤ w.steps.getD 4 0)
   else if w.kind = 3 then rising w.steps && decide (w.vals.length = w.steps.length ∧ 1 ≤ w.vals.length ∧ w.vals.length ≤ 16)
   else if w.kind = 4 then decide (1 ≤ w.vals.length ∧ w.vals.length ≤ 16 ∧ w.steps.length = 0)
   else false)
def formOf (k n : Nat) : Nat × Bool × Bool := if k = 120 then (n - 2, true, false) else shapeK k
def refC (f : Nat × Bool × Bool) (ws : List Str) : Str := if f.2.1 then (ws.drop f.1).headD [] else []
def restC (f : Nat × Bool × Bool) (ws : List Str) : List Str := if f.2.1 then (ws.drop f.1).drop 1 else ws.drop f.1
def valC (f : Nat × Bool × Bool) (ws : List Str) : Num := if f.2.2 then numV ((restC f ws).headD []) else (0, 0)
def errV (f : Nat × Bool × Bool) (ws : List Str) : Int := if f.2.2 then numE ((restC f ws).headD []) 0 else 0
def srcC (k : Nat) : Bool := decide (k = 118 ∨ k = 105)
def wvC (k : Nat) (f : Nat × Bool × Bool) (ws : List Str) : Wv := if srcC k then (waveR (restC f ws) (errV f ws)).1 else wv0
def errC (k : Nat) (f : Nat × Bool × Bool) (ws : List Str) : Int := if srcC k then (waveR (restC f ws) (errV f ws)).2 else errV f ws
def badRef (k : Nat) (f : Nat × Bool × Bool) (ws : List Str) : Bool := f.2.1 && (!isName (refC f ws) || (decide (k = 102 ∨ k = 104) && decide ((refC f ws).getD 0 0 ≠ 118)))
def zeroK (k : Nat) : Bool := decide (k = 114 ∨ k = 99 ∨ k = 108)
def readB (w0 : Str) (ws : List Str) (k : Nat) (f : Nat × Bool × Bool) : Crd × Int :=
  if (isDev w0 && counted k (w0 :: ws)) = true then
    if (ws.take f.1).all isName = true then
      if badRef k f ws = true then (crd0, 71) else if errC k f ws ≠ 0 then (crd0, errC k f ws) else if (valC f ws).1 = 0 ∧ zeroK k = true then (crd0, 11)
      else if srcC k = true ∧ waveOk (wvC k f ws) = false then (crd0, 40) else (⟨w0, ws.take f.1, refC f ws, valC f ws, wvC k f ws⟩, 0)
    else (crd0, 71)
  else (crd0, 70)
def readC : List Str → Crd × Int
  | [] => (crd0, 70)
  | w0 :: ws => readB w0 ws (w0.getD 0 0) (formOf (w0.getD 0 0) (ws.length + 1))
def textN (n : Num) : Str := if valid n then textS n.1 n.2 else [63]
def zipW : List Int → List Num → List Str
  | s :: ss, v :: vs => decS s :: textN v :: zipW ss vs
  | _, _ => []
def waveT (w : Wv) : List Str :=
  if w.kind = 3 then sPwl :: zipW w.steps w.vals
  else (if w.kind = 1 then [sDc] else if w.kind = 2 then [sPulse] else if w.kind = 4 then [sTable] else []) ++ w.vals.map textN ++ w.steps.map decS
def wordsC (c : Crd) : List Str :=
  let k := c.name.getD 0 0
  c.name :: c.nodes ++ (if (shapeK k).2.1 = true ∨ k = 120 then [c.ref] else []) ++ (if (shapeK k).2.2 = true ∧ k ≠ 120 then [textN c.value] else []) ++ (if k = 118 ∨ k = 105 then waveT c.wave else [])
def sameW (a b : Wv) : Bool := decide (a.kind = b.kind ∧ a.vals = b.vals ∧ a.steps = b.steps)
def writeC (c : Crd) : List Str × Int :=
  if isDev c.name = true ∧ c.nodes.length ≤ 8 ∧ c.wave.vals.length ≤ 16 ∧ c.wave.steps.length ≤ 16 then
    let d := readC (wordsC c)
    if d.2 = 0 ∧ d.1.ref = c.ref ∧ d.1.value = c.value ∧ d.1.nodes = c.nodes ∧ sameW d.1.wave c.wave = true then (wordsC c, 0) else ([], 70)
  else ([], 70)
def sLess (a b : Num) : Bool := decide (RefC.sgn ((ofN a.1 a.2).1 * (ofN b.1 b.2).2 - (ofN b.1 b.2).1 * (ofN a.1 a.2).2) < 0)
def risingN : List Num → Bool
  | a :: b :: r => sLess a b && risingN (b :: r)
  | _ => true
def modelOk (m : Mdl) : Bool :=
  isName m.name && m.g.all valid && m.v.all valid &&
  (if m.kind = 115 then decide (m.g.length = 2 ∧ m.v.length = 1) else if m.kind = 100 then decide (1 ≤ m.g.length ∧ m.g.length ≤ 4 ∧ m.v.length + 1 = m.g.length) && risingN m.v else false)
def readM (words : List Str) : Mdl × Int :=
  let n := words.length
  let k := words.getD 2 []
  if 4 ≤ n ∧ words.getD 0 [] = sModel ∧ (k = [100] ∨ k = [115]) ∧ n % 2 = 0 ∧ n ≤ 10 ∧ (k = [115] → n = 6) then
    if isName (words.getD 1 []) then
      let r := words.drop 3
      let m : Mdl := ⟨words.getD 1 [], (k.getD 0 0 : Nat), (evens r).map numV, (odds r).map numV⟩
      if numsE r 0 ≠ 0 then (mdl0, numsE r 0) else if modelOk m then (m, 0) else (mdl0, 50)
    else (mdl0, 71)
  else (mdl0, 70)
def zipM : List Num → List Num → List Str
  | v :: vs, g :: gs => textN v :: textN g :: zipM vs gs
  | _, _ => []
def modelT (m : Mdl) : List Str := sModel :: m.name :: [m.kind.toNat] :: textN (m.g.headD (0, 0)) :: zipM m.v (m.g.drop 1)
def writeM (m : Mdl) : List Str × Int := if modelOk m then (modelT m, 0) else ([], 50)
end Go.Proofs.YtfjelkjlfcafgaaGreatDoor.CardS
end
section
/- The law NumBack, walked. -/
namespace Go.Proofs.YtfjelkjlfcafgaaGreatDoor.NumH
open Go Go.RowKit Go.Proofs.YtfjelkjlfcafgaaGreatDoor.Ax Go.Proofs.YtfjelkjlfcafgaaGreatDoor.Ti Go.Proofs.YtfjelkjlfcafgaaGreatDoor.BigM Go.Proofs.YtfjelkjlfcafgaaGreatDoor.NumS Go.Proofs.YtfjelkjlfcafgaaGreatDoor.NumA Go.Proofs.YtfjelkjlfcafgaaGreatDoor.NumB Go.Proofs.YtfjelkjlfcafgaaGreatDoor.NumT Go.Proofs.YtfjelkjlfcafgaaGreatDoor.NumU Go.Proofs.YtfjelkjlfcafgaaGreatDoor.NumL Go.Proofs.YtfjelkjlfcafgaaGreatDoor.NumW Go.Proofs.YtfjelkjlfcafgaaGreatDoor.NumX Go.Proofs.YtfjelkjlfcafgaaGreatDoor.NumY Go.Proofs.YtfjelkjlfcafgaaGreatDoor.NumE Go.Proofs.YtfjelkjlfcafgaaGreatDoor.NumG
set_option linter.unusedSimpArgs false
set_option linter.unusedVariables false
set_option maxRecDepth 4000
set_option maxHeartbeats 2000000
theorem ok_valid (m x : Int) : RefM.validN m x = true ↔ okN m x := by
  unfold RefM.validN okN
  split
  · simp
  · simp
    omega
theorem by_app3 {a b : List Nat} (ha : By a) (hb : By b) : By (a ++ b) := fun c hc => by
  rcases List.mem_append.1 hc with hc | hc
  · exact ha c hc
  · exact hb c hc
theorem textS_by (m x : Int) : By (textS m x) := by
  have hD : By (decS m) := by
    intro c hc
    unfold decS at hc
    split at hc
    · simp at hc; omega
    · rcases List.mem_append.1 hc with hc | hc
      · split at hc
        · simp at hc; omega
        · cases hc
      · have := (isD_iff c).1 (decN_isD _ c hc)
        omega
  unfold textS
  split
  · refine by_app3 (by_app3 hD ?_) ?_
    · intro c hc; simp at hc; omega
    · intro c hc
      have := (isD_iff c).1 (decN_isD _ c hc)
      omega
  · refine by_app3 (by_app3 hD ?_) ?_
    · intro c hc
      have := List.eq_of_mem_replicate hc
      omega
    · exact letter_by _
end Go.Proofs.YtfjelkjlfcafgaaGreatDoor.NumH
end
section
/- Cards: names, devices, shapes: what the program's small functions answer. -/
namespace Go.Proofs.YtfjelkjlfcafgaaGreatDoor.CardA
open Go Go.RowKit Go.Proofs.YtfjelkjlfcafgaaGreatDoor.Ax Go.Proofs.YtfjelkjlfcafgaaGreatDoor.Ti Go.Proofs.YtfjelkjlfcafgaaGreatDoor.NumS Go.Proofs.YtfjelkjlfcafgaaGreatDoor.NumT Go.Proofs.YtfjelkjlfcafgaaGreatDoor.CardS
set_option linter.unusedSimpArgs false
set_option linter.unusedVariables false
set_option maxRecDepth 4000
set_option maxHeartbeats 2000000
theorem rTI : type_of% (cj @ti3 (cj @ti4 (cj @ti9 (cj @ti5 (cj @ti36 (cj @ti116 (cj @Nat.zero_add (cj @Nat.mul_one @Int.toNat_natCast)))))))) := cj @ti3 (cj @ti4 (cj @ti9 (cj @ti5 (cj @ti36 (cj @ti116 (cj @Nat.zero_add (cj @Nat.mul_one @Int.toNat_natCast)))))))

theorem tz0 : Int.toNat 0 = 0 := rfl
theorem tz1 : Int.toNat 1 = 1 := rfl
theorem tz3 : Int.toNat 3 = 3 := rfl
def SV (s : Str) : AV := .v (.string (bs s))
def SL (l : List Str) : List AV := l.map SV
def TV (l : List Str) : AV := .sl l.length (SL l)
theorem hd_byte (l : Str) (h : By l) (k : Nat) (hk : k < l.length) : ((byteAV (bs l)).drop k).head? = some (.v (.int .u8 ((l.getD k 0 : Nat) : Int))) := by
  have hg := bs_get l h k
  have hs := bs_size l
  rw [List.head?_drop]
  unfold byteAV
  rw [List.getElem?_map]
  have hlt : k < (bs l).data.toList.length := by rw [← hs] at hk; simpa using hk
  rw [List.getElem?_eq_getElem hlt]
  rw [List.getD_eq_getElem?_getD, List.getElem?_eq_getElem hlt] at hg
  simp only [Option.getD_some] at hg
  simp only [Option.map_some, hg]
theorem take_all {α : Type} (p : α → Bool) (l : List α) (d : α) (k : Nat) (hk : k < l.length) (h : (l.take k).all p = true) : (l.take (k + 1)).all p = p (l.getD k d) := by
  rw [List.take_succ_eq_append_getElem hk, List.all_append, h, List.getD_eq_getElem?_getD, List.getElem?_eq_getElem hk]
  simp
theorem all_not {α : Type} (p : α → Bool) (l : List α) (d : α) (k : Nat) (hk : k < l.length) (h : p (l.getD k d) = false) : l.all p = false := by
  rw [List.getD_eq_getElem?_getD, List.getElem?_eq_getElem hk] at h
  rw [List.all_eq_false]
  exact ⟨l[k], List.getElem_mem hk, by simpa using h⟩
theorem nameC_int (c : Nat) : nameC c = ((decide ((97 : Int) ≤ (c : Int)) && decide ((c : Int) ≤ 122)) || (decide ((48 : Int) ≤ (c : Int)) && decide ((c : Int) ≤ 57)) || ((c : Int) == 95)) := by
  rw [Bool.eq_iff_iff]
  unfold nameC
  simp
  omega
theorem name_ax (l : Str) (h : By l) (hl : l.length ≤ 9223372036854775807) : PCall Tryz.prog 88 [SV l] (.v (.bool (isName l))) := by
  refine pcall_of fun s => ?_
  have lS := bs_size l
  unfold SV
  by_cases h0 : 1 ≤ l.length ∧ l.length ≤ 16
  · have e0 : isName l = l.all nameC := by unfold isName; rw [decide_eq_true h0]; rfl
    have d1 : decide ((l.length : Int) < 1) = false := by simp; omega
    have d2 : decide ((16 : Int) < (l.length : Int)) = false := by simp; omega
    refine acall_of Tryz.func88 rfl rfl (by simp [Tryz.ntmps88]) ?_; rw [Tryz.ntmps88, Tryz.results88]
    refine go (cj rTI (cj @tz0 (cj @lS (cj @d1 @d2)))) ?_
    refine ifs ?_ ?_ <;> first | exact nope | intro hb
    refine go (cj rTI (cj @tz0 @lS)) ?_
    refine aw_loop (fun m e s' => ∃ k, m = l.length - k ∧ k ≤ l.length ∧ e.n = 40 ∧ e.m 14 = .sl l.length (byteAV (bs l)) ∧ e.m 15 = .v (.int .i64 l.length) ∧ e.m 16 = .v (.int .i64 (k : Nat)) ∧ (l.take k).all nameC = true ∧ s' = s) l.length ?_ ?_
    · refine ⟨0, by omega, by omega, ?_⟩
      (repeat' refine And.intro ?_ ?_) <;> first | exact rfl | exact fnz (cj rTI (cj @tz0 @lS)) | skip
    · rintro m e s' ⟨k, rfl, hk, h1, k14, k15, k16, ha, rfl⟩
      by_cases hk2 : k < l.length
      · have hd := hd_byte l h k hk2
        have hn := nameC_int (l.getD k 0)
        have ht := take_all nameC l 0 k hk2 ha
        have hf := all_not nameC l 0 k hk2
        generalize l.getD k 0 = c at *
        generalize e1 : decide ((97 : Int) ≤ (c : Int)) = b1 at *
        generalize e2 : decide ((c : Int) ≤ 122) = b2 at *
        generalize e3 : decide ((48 : Int) ≤ (c : Int)) = b3 at *
        generalize e4 : decide ((c : Int) ≤ 57) = b4 at *
        generalize e5 : ((c : Int) == 95) = b5 at *
        refine go (cj rTI (cj @tz0 (cj @h1 (cj @k15 @k16)))) ?_
        refine ifs ?_ ?_ <;> first | exact nope | intro hb
        refine aw_skip ?_
        refine aw_seq ?_
        refine aw_block ?_
        refine aw_seq ?_
        refine aw_reg fun K hK => ?_; refine rn (cj rTI (cj @tz0 (cj @h1 (cj @k14 (cj @k16 @hd))))) ?_; refine hK _ _ ?_; clear hK K
        refine aw_seq ?_
        refine aw_only (fun e' s'' => s'' = s' ∧ e'.n = 40 ∧ e'.m 14 = .sl l.length (byteAV (bs l)) ∧ e'.m 15 = .v (.int .i64 l.length) ∧ e'.m 16 = .v (.int .i64 (k : Nat)) ∧ e'.m 38 = .v (.bool !nameC c)) ?_ ?_
        · rw [hn]
          cases b1 <;> cases b2 <;> cases b3 <;> cases b4 <;> cases b5
          all_goals (refine aw_reg fun K hK => ?_; refine rn (cj rTI (cj @tz0 (cj @h1 (cj @e1 (cj @e2 (cj @e3 (cj @e4 @e5))))))) ?_; refine hK _ _ ?_; clear hK K)
          all_goals ((repeat' refine And.intro ?_ ?_) <;> first | exact rfl | exact fnz (cj @h1 (cj @k14 (cj @k15 @k16))) | skip)
        · clear h1 k14 k15 k16 e1 e2 e3 e4 e5 hd hn e
          rintro e s'' ⟨rfl, h1, k14, k15, k16, k38⟩
          cases hc : nameC c with
          | false =>
            rw [e0, hf hc]
            rw [hc] at k38
            refine aw_cond k38 (fun _ => ?_) (fun h => by cases h)
            exact go0 @h1
          | true =>
            rw [hc] at ht k38
            refine aw_cond k38 (fun h => by cases h) (fun _ => ?_)
            refine go (cj rTI (cj @tz0 (cj @h1 @k16))) ?_
            simp only [block_normal, loop_normal]
            refine ⟨l.length - (k + 1), by omega, k + 1, rfl, by omega, ?_, ?_, ?_, ?_, ht, trivial⟩
            all_goals ((first | refine rn (cj @h1 (cj @k14 (cj @k15 @k16))) ?_ | exact rn0 (cj @h1 (cj @k14 (cj @k15 @k16)))))
            all_goals rfl
      · obtain rfl : k = l.length := by omega
        rw [List.take_length] at ha
        rw [e0, ha]
        refine go (cj rTI (cj @tz0 (cj @h1 (cj @k15 @k16)))) ?_
        refine ifs ?_ ?_ <;> first | exact nope | intro hb
        exact go0 (cj rTI (cj @tz0 @h1))
  · have e0 : isName l = false := by unfold isName; rw [decide_eq_false h0]; rfl
    rw [e0]
    refine acall_of Tryz.func88 rfl rfl (by simp [Tryz.ntmps88]) ?_; rw [Tryz.ntmps88, Tryz.results88]
    by_cases h1 : 1 ≤ l.length
    · have d1 : decide ((l.length : Int) < 1) = false := by simp; omega
      have d2 : decide ((16 : Int) < (l.length : Int)) = true := by simp; omega
      refine go (cj rTI (cj @tz0 (cj @lS (cj @d1 @d2)))) ?_
      refine ifs ?_ ?_ <;> first | exact nope | intro hb
      exact go0 (cj rTI @tz0)
    · have d1 : decide ((l.length : Int) < 1) = true := by simp; omega
      refine go (cj rTI (cj @tz0 (cj @lS @d1))) ?_
      refine ifs ?_ ?_ <;> first | exact nope | intro hb
      exact go0 (cj rTI @tz0)
theorem cname_ax (l : Str) (h : By l) (hl : l.length ≤ 9223372036854775807) : PCall Tryz.prog 35 [SV l] (.v (.bool (isName l))) := by
  refine pcall_of fun s => ?_
  have p := name_ax l h hl
  unfold SV at p ⊢
  refine acall_of Tryz.func35 rfl rfl (by simp [Tryz.ntmps35]) ?_; rw [Tryz.ntmps35, Tryz.results35]
  refine go (cj rTI @tz0) ?_
  refine aw_reg fun K hK => ?_; refine rn (cj rTI @tz0) ?_; refine cont_pure p ?_; refine rn (cj rTI @tz0) ?_; refine hK _ _ ?_; clear hK K
  exact go0 (cj rTI @tz0)
theorem rname_ax (l : Str) (h : By l) (hl : l.length ≤ 9223372036854775807) : PCall Tryz.prog 36 [SV l] (.v (.bool (isName l))) := by
  refine pcall_of fun s => ?_
  have lS := bs_size l
  unfold SV
  refine acall_of Tryz.func36 rfl rfl (by simp [Tryz.ntmps36]) ?_; rw [Tryz.ntmps36, Tryz.results36]
  refine go (cj rTI @tz0) ?_
  refine aw_loop (fun m e s' => ∃ k, m = l.length - k ∧ k ≤ l.length ∧ e.n = 40 ∧ e.m 0 = .v (.string (bs l)) ∧ e.m 3 = .v (.int .i64 (k : Nat)) ∧ (l.take k).all nameC = true ∧ s' = s) l.length ?_ ?_
  · refine ⟨0, by omega, by omega, ?_⟩
    (repeat' refine And.intro ?_ ?_) <;> first | exact rfl | exact fnz (cj rTI (cj @tz0 @lS)) | skip
  · rintro m e s' ⟨k, rfl, hk, h1, k0, k3, ha, rfl⟩
    by_cases hk2 : k < l.length
    · have hd := bs_get l h k
      have hn := nameC_int (l.getD k 0)
      have ht := take_all nameC l 0 k hk2 ha
      have hf := all_not nameC l 0 k hk2
      generalize l.getD k 0 = c at *
      have e1 : decide ((c : Int) < 97) = !decide ((97 : Int) ≤ (c : Int)) := by rw [Bool.eq_iff_iff]; simp
      have e2 : decide ((122 : Int) < (c : Int)) = !decide ((c : Int) ≤ 122) := by rw [Bool.eq_iff_iff]; simp
      have e3 : decide ((c : Int) < 48) = !decide ((48 : Int) ≤ (c : Int)) := by rw [Bool.eq_iff_iff]; simp
      have e4 : decide ((57 : Int) < (c : Int)) = !decide ((c : Int) ≤ 57) := by rw [Bool.eq_iff_iff]; simp
      have e5 : ((c : Int) != 95) = !((c : Int) == 95) := rfl
      generalize decide ((97 : Int) ≤ (c : Int)) = b1 at *
      generalize decide ((c : Int) ≤ 122) = b2 at *
      generalize decide ((48 : Int) ≤ (c : Int)) = b3 at *
      generalize decide ((c : Int) ≤ 57) = b4 at *
      generalize ((c : Int) == 95) = b5 at *
      refine go (cj rTI (cj @tz0 (cj @h1 (cj @k0 (cj @k3 @lS))))) ?_
      refine ifs ?_ ?_ <;> first | exact nope | intro hb
      refine aw_skip ?_
      refine aw_seq ?_
      refine aw_block ?_
      refine aw_seq ?_
      refine aw_reg fun K hK => ?_; refine rn (cj rTI (cj @tz0 (cj @h1 (cj @k0 (cj @k3 (cj @hd @lS)))))) ?_; refine hK _ _ ?_; clear hK K
      refine aw_seq ?_
      refine aw_only (fun e' s'' => s'' = s' ∧ e'.n = 40 ∧ e'.m 0 = .v (.string (bs l)) ∧ e'.m 3 = .v (.int .i64 (k : Nat)) ∧ e'.m 31 = .v (.bool !nameC c)) ?_ ?_
      · rw [hn]
        cases b1 <;> cases b2 <;> cases b3 <;> cases b4 <;> cases b5
        all_goals (refine aw_reg fun K hK => ?_; refine rn (cj rTI (cj @tz0 (cj @h1 (cj @e1 (cj @e2 (cj @e3 (cj @e4 @e5))))))) ?_; refine hK _ _ ?_; clear hK K)
        all_goals ((repeat' refine And.intro ?_ ?_) <;> first | exact rfl | exact fnz (cj @h1 (cj @k0 @k3)) | skip)
      · clear h1 k0 k3 e1 e2 e3 e4 e5 hd hn e
        rintro e s'' ⟨rfl, h1, k0, k3, k31⟩
        cases hc : nameC c with
        | false =>
          have e0 : isName l = false := by unfold isName; rw [hf hc, Bool.and_false]
          rw [e0]
          rw [hc] at k31
          refine aw_cond k31 (fun _ => ?_) (fun h => by cases h)
          exact go0 @h1
        | true =>
          rw [hc] at ht k31
          refine aw_cond k31 (fun h => by cases h) (fun _ => ?_)
          refine go (cj rTI (cj @tz0 (cj @h1 @k3))) ?_
          simp only [block_normal, loop_normal]
          refine ⟨l.length - (k + 1), by omega, k + 1, rfl, by omega, ?_, ?_, ?_, ht, trivial⟩
          all_goals ((first | refine rn (cj @h1 (cj @k0 @k3)) ?_ | exact rn0 (cj @h1 (cj @k0 @k3))))
          all_goals rfl
    · obtain rfl : k = l.length := by omega
      rw [List.take_length] at ha
      have e0 : isName l = (decide ((1 : Int) ≤ (l.length : Int)) && decide ((l.length : Int) ≤ 16)) := by
        unfold isName
        rw [ha, Bool.and_true, Bool.eq_iff_iff]
        simp
        omega
      rw [e0]
      refine go (cj rTI (cj @tz0 (cj @h1 (cj @k0 (cj @k3 @lS))))) ?_
      refine ifs ?_ ?_ <;> first | exact nope | intro hb
      generalize e1 : decide ((1 : Int) ≤ (l.length : Int)) = b1 at *
      generalize e2 : decide ((l.length : Int) ≤ 16) = b2 at *
      cases b1
      · rw [Bool.false_and]
        exact go0 (cj rTI (cj @tz0 (cj @h1 (cj @k0 (cj @lS @e1)))))
      · rw [Bool.true_and]
        exact go0 (cj rTI (cj @tz0 (cj @h1 (cj @k0 (cj @lS (cj @e1 @e2))))))
end Go.Proofs.YtfjelkjlfcafgaaGreatDoor.CardA
end
section
/- Cards: devices, shapes, counts of words. -/
namespace Go.Proofs.YtfjelkjlfcafgaaGreatDoor.CardB
open Go Go.RowKit Go.Proofs.YtfjelkjlfcafgaaGreatDoor.Ax Go.Proofs.YtfjelkjlfcafgaaGreatDoor.Ti Go.Proofs.YtfjelkjlfcafgaaGreatDoor.NumS Go.Proofs.YtfjelkjlfcafgaaGreatDoor.NumT Go.Proofs.YtfjelkjlfcafgaaGreatDoor.CardS Go.Proofs.YtfjelkjlfcafgaaGreatDoor.CardA
set_option linter.unusedSimpArgs false
set_option linter.unusedVariables false
set_option maxRecDepth 4000
set_option maxHeartbeats 2000000
theorem rTI : type_of% (cj @ti3 (cj @ti4 (cj @ti9 (cj @ti5 (cj @ti36 (cj @Nat.zero_add (cj @tz0 (cj @tz1 (cj @tz3 (cj @Nat.mul_one @Int.toNat_natCast)))))))))) := cj @ti3 (cj @ti4 (cj @ti9 (cj @ti5 (cj @ti36 (cj @Nat.zero_add (cj @tz0 (cj @tz1 (cj @tz3 (cj @Nat.mul_one @Int.toNat_natCast)))))))))

theorem dev_index (c : Nat) (hc : c < 256) : decide (0 ≤ Lib.indexByte (bs kinds).data.toList (c : Int).toNat.toUInt8) = kinds.contains c := by
  have : ∀ c : Fin 256, decide (0 ≤ Lib.indexByte (bs kinds).data.toList (Nat.toUInt8 c.val)) = kinds.contains c.val := by decide +kernel
  exact this ⟨c, hc⟩
theorem indexK_ax (c : Nat) (hc : c < 256) : PCall Tryz.prog 89 [.v (.string (ByteArray.mk #[114, 99, 108, 118, 105, 101, 103, 102, 104, 116, 100, 115, 120])), .v (.int .u8 (c : Nat))] (.v (.int .i64 (Lib.indexByte (bs kinds).data.toList (c : Int).toNat.toUInt8))) :=
  pcall_lift (us := [.string (bs kinds), .int .u8 (c : Nat)]) (enters_of Tryz.func89 rfl rfl) (fun k => .v _) fun w => (Tryz.strings_IndexByte (bs kinds) (c : Nat) w).mono fun en w' ⟨h1, h2⟩ => ⟨h1, by rw [h2]; exact Below.refl _ _⟩
theorem name_pos (l : Str) (h : isName l = true) : 0 < l.length := by
  unfold isName at h
  rw [Bool.and_eq_true, decide_eq_true_iff] at h
  omega
theorem by_at (l : Str) (h : By l) (k : Nat) (hk : k < l.length) : l.getD k 0 < 256 := by
  rw [List.getD_eq_getElem?_getD, List.getElem?_eq_getElem hk]
  exact h _ (List.getElem_mem hk)
theorem dev_ax (l : Str) (h : By l) (hl : l.length ≤ 9223372036854775807) : PCall Tryz.prog 37 [SV l] (.v (.bool (isDev l))) := by
  refine pcall_of fun s => ?_
  have p := cname_ax l h hl
  have lS := bs_size l
  unfold SV at p ⊢
  unfold isDev
  refine acall_of Tryz.func37 rfl rfl (by simp [Tryz.ntmps37]) ?_; rw [Tryz.ntmps37, Tryz.results37]
  refine go rTI ?_
  cases hn : isName l with
  | false =>
    rw [hn] at p
    rw [Bool.false_and]
    refine aw_reg fun K hK => ?_; refine rn rTI ?_; refine cont_pure p ?_; refine rn rTI ?_; refine hK _ _ ?_; clear hK K
    exact go0 rTI
  | true =>
    rw [hn] at p
    have hp := name_pos l hn
    have hg := bs_get l h 0
    have hc := by_at l h 0 hp
    have hi := indexK_ax (l.getD 0 0) hc
    have hd := dev_index (l.getD 0 0) hc
    rw [Bool.true_and, ← hd]
    generalize l.getD 0 0 = c at *
    generalize Lib.indexByte (bs kinds).data.toList (c : Int).toNat.toUInt8 = z at *
    refine aw_reg fun K hK => ?_; refine rn (cj rTI (cj @lS @hg)) ?_; refine cont_pure p ?_; refine rn (cj rTI (cj @lS @hg)) ?_; refine cont_pure hi ?_; refine rn (cj rTI (cj @lS @hg)) ?_; refine hK _ _ ?_; clear hK K
    exact go0 rTI
def shapeV (k : Nat) : AV := .tp [.v (.int .i64 (shapeK k).1), .v (.bool (shapeK k).2.1), .v (.bool (shapeK k).2.2)]
theorem shape_ax (k : Nat) : PCall Tryz.prog 81 [.v (.int .u8 (k : Nat))] (shapeV k) := by
  refine pcall_of fun s => ?_
  rw [show idf (shapeV k) = true from rfl]
  obtain ⟨sh, hsh⟩ : ∃ sh, sh = shapeV k := ⟨_, rfl⟩
  rw [← hsh]
  refine acall_of Tryz.func81 rfl rfl (by simp [Tryz.ntmps81]) ?_; rw [Tryz.ntmps81, Tryz.results81]
  refine go rTI ?_
  all_goals (try (refine ifs ?_ ?_ <;> first | exact nope | intro hb))
  all_goals (try (refine go rTI ?_))
  all_goals (try (refine ifs ?_ ?_ <;> first | exact nope | intro hb))
  all_goals (try (refine go rTI ?_))
  all_goals (try (refine ifs ?_ ?_ <;> first | exact nope | intro hb))
  all_goals (try (refine go rTI ?_))
  all_goals (try (refine ifs ?_ ?_ <;> first | exact nope | intro hb))
  all_goals (try (refine go rTI ?_))
  all_goals (try (refine ifs ?_ ?_ <;> first | exact nope | intro hb))
  all_goals (try (refine go rTI ?_))
  all_goals (try (refine ifs ?_ ?_ <;> first | exact nope | intro hb))
  all_goals (try (refine go rTI ?_))
  all_goals (try (refine ifs ?_ ?_ <;> first | exact nope | intro hb))
  all_goals (try (refine go rTI ?_))
  all_goals (try (refine ifs ?_ ?_ <;> first | exact nope | intro hb))
  all_goals (try (refine go rTI ?_))
  all_goals (try (refine ifs ?_ ?_ <;> first | exact nope | intro hb))
  all_goals (try (refine go rTI ?_))
  all_goals (try (refine ifs ?_ ?_ <;> first | exact nope | intro hb))
  all_goals (try (refine go rTI ?_))
  all_goals (try (refine ifs ?_ ?_ <;> first | exact nope | intro hb))
  all_goals (try (refine go rTI ?_))
  all_goals (try (refine ifs ?_ ?_ <;> first | exact nope | intro hb))
  all_goals (try (refine go rTI ?_))
  all_goals (rw [hsh]; unfold shapeV shapeK; (repeat' split) <;> first | (refine ⟨rfl, ?_⟩; exact fun _ _ => rfl) | rfl | (exfalso; omega) | trivial)
theorem bs_inj {a b : Str} (ha : By a) (hb : By b) (h : bs a = bs b) : a = b := by
  have hl : a.length = b.length := by rw [← bs_size a, ← bs_size b, h]
  apply List.ext_getElem hl
  intro i h1 h2
  have e1 := bs_get a ha i
  have e2 := bs_get b hb i
  rw [h, e2] at e1
  rw [List.getD_eq_getElem?_getD, List.getElem?_eq_getElem h2, List.getD_eq_getElem?_getD, List.getElem?_eq_getElem h1] at e1
  exact e1.symm
theorem str_eq (a b : Str) (ha : By a) (hb : By b) : ((bs a).toList == (bs b).toList) = decide (a = b) := by
  rw [Bool.eq_iff_iff, beq_iff_eq, decide_eq_true_iff]
  constructor
  · intro h
    rw [ByteArray.toList_eq, ByteArray.toList_eq] at h
    exact bs_inj ha hb (ByteArray.ext (Array.toList_inj.1 h))
  · intro h; rw [h]
theorem str_ne (a b : Str) (ha : By a) (hb : By b) : (!((bs a).toList == (bs b).toList)) = !decide (a = b) := by rw [str_eq a b ha hb]
theorem by_lit (l : Str) (h : l.all (fun c => decide (c < 256)) = true) : By l := fun c hc => of_decide_eq_true (List.all_eq_true.1 h c hc)
def BL (l : List Str) : Prop := ∀ s ∈ l, By s
theorem hd_SL (l : List Str) (k : Nat) (h : k < l.length) : ((SL l).drop k).head? = some (SV (l.getD k [])) := by
  rw [List.head?_drop]
  simp [SL, List.getElem?_eq_getElem h, List.getD]
end Go.Proofs.YtfjelkjlfcafgaaGreatDoor.CardB
end
section
/- Cards: wave words, counts. -/
namespace Go.Proofs.YtfjelkjlfcafgaaGreatDoor.CardC
open Go Go.RowKit Go.Proofs.YtfjelkjlfcafgaaGreatDoor.Ax Go.Proofs.YtfjelkjlfcafgaaGreatDoor.Ti Go.Proofs.YtfjelkjlfcafgaaGreatDoor.NumS Go.Proofs.YtfjelkjlfcafgaaGreatDoor.NumT Go.Proofs.YtfjelkjlfcafgaaGreatDoor.CardS Go.Proofs.YtfjelkjlfcafgaaGreatDoor.CardA Go.Proofs.YtfjelkjlfcafgaaGreatDoor.CardB
set_option linter.unusedSimpArgs false
set_option linter.unusedVariables false
set_option maxRecDepth 4000
set_option maxHeartbeats 2000000
theorem rTI : type_of% (cj @ti3 (cj @ti4 (cj @ti9 (cj @ti5 (cj @ti36 (cj @Nat.zero_add (cj @tz0 (cj @tz1 (cj @tz3 (cj @Nat.mul_one @Int.toNat_natCast)))))))))) := cj @ti3 (cj @ti4 (cj @ti9 (cj @ti5 (cj @ti36 (cj @Nat.zero_add (cj @tz0 (cj @tz1 (cj @tz3 (cj @Nat.mul_one @Int.toNat_natCast)))))))))

theorem if_dec {α : Type} (p : Prop) [Decidable p] (a b : α) : (if p then a else b) = if decide p = true then a else b := by
  by_cases h : p <;> simp [h]
theorem waveW_ax (w : List Str) (h : BL w) (hl : w.length ≤ 9223372036854775807) : PCall Tryz.prog 143 [TV w] (.v (.bool (waveWords w))) := by
  refine pcall_of fun s => ?_
  unfold TV
  cases w with
  | nil =>
    rw [show waveWords [] = false from rfl]
    refine acall_of Tryz.func143 rfl rfl (by simp [Tryz.ntmps143]) ?_; rw [Tryz.ntmps143, Tryz.results143]
    refine go rTI ?_
    refine ifs ?_ ?_ <;> first | exact nope | intro hb
    exact go0 rTI
  | cons kw r =>
    have hk : By kw := h kw (List.mem_cons_self ..)
    have e1 := str_eq kw sDc hk (by_lit _ rfl)
    have e2 := str_eq kw sPulse hk (by_lit _ rfl)
    have e3 := str_eq kw sPwl hk (by_lit _ rfl)
    have e4 := str_eq kw sTable hk (by_lit _ rfl)
    rw [show bs sDc = ByteArray.mk #[100, 99] from rfl] at e1
    rw [show bs sPulse = ByteArray.mk #[112, 117, 108, 115, 101] from rfl] at e2
    rw [show bs sPwl = ByteArray.mk #[112, 119, 108] from rfl] at e3
    rw [show bs sTable = ByteArray.mk #[116, 97, 98, 108, 101] from rfl] at e4
    rw [List.length_cons] at hl ⊢
    have hn : ((r.length + 1 : Nat) : Int) - 1 = (r.length : Int) := by omega
    have hz : (((r.length + 1 : Nat) : Int) == 0) = false := by simp; omega
    have hd : (SL (kw :: r)).head? = some (.v (.string (bs kw))) := rfl
    generalize hn2 : (r.length : Int) = n at *
    have goal : waveWords (kw :: r) = if kw = sDc then (n == 1) else if kw = sPulse then (n == 7) else if kw = sPwl then (decide (2 ≤ n) && (n % 2 == 0) && decide (n ≤ 32)) else if kw = sTable then (decide (1 ≤ n) && decide (n ≤ 16)) else (n == 0) := by
      show (if kw = sDc then decide (r.length = 1) else if kw = sPulse then decide (r.length = 7) else if kw = sPwl then decide (2 ≤ r.length ∧ r.length % 2 = 0 ∧ r.length ≤ 32) else if kw = sTable then decide (1 ≤ r.length ∧ r.length ≤ 16) else decide (r.length = 0)) = _
      have hm : (n % 2 == 0) = decide (r.length % 2 = 0) := by
        rw [← hn2, Bool.eq_iff_iff]
        simp only [beq_iff_eq, decide_eq_true_eq]
        omega
      rw [hm]
      have c1 : (n == 1) = decide (r.length = 1) := by rw [Bool.eq_iff_iff]; simp only [beq_iff_eq, decide_eq_true_eq]; omega
      have c2 : (n == 7) = decide (r.length = 7) := by rw [Bool.eq_iff_iff]; simp only [beq_iff_eq, decide_eq_true_eq]; omega
      have c3 : (n == 0) = decide (r.length = 0) := by rw [Bool.eq_iff_iff]; simp only [beq_iff_eq, decide_eq_true_eq]; omega
      have c4 : decide (2 ≤ n) = decide (2 ≤ r.length) := by rw [Bool.eq_iff_iff]; simp only [decide_eq_true_eq]; omega
      have c5 : decide (n ≤ 32) = decide (r.length ≤ 32) := by rw [Bool.eq_iff_iff]; simp only [decide_eq_true_eq]; omega
      have c6 : decide (1 ≤ n) = decide (1 ≤ r.length) := by rw [Bool.eq_iff_iff]; simp only [decide_eq_true_eq]; omega
      have c7 : decide (n ≤ 16) = decide (r.length ≤ 16) := by rw [Bool.eq_iff_iff]; simp only [decide_eq_true_eq]; omega
      rw [c1, c2, c3, c4, c5, c6, c7]
      simp only [Bool.decide_and, Bool.and_assoc]
    rw [goal]
    have hnb : 0 ≤ n ∧ n ≤ 9223372036854775806 := by omega
    clear goal hl h
    rw [if_dec (kw = sDc), if_dec (kw = sPulse), if_dec (kw = sPwl), if_dec (kw = sTable)]
    generalize g1 : decide (kw = sDc) = b1 at *
    generalize g2 : decide (kw = sPulse) = b2 at *
    generalize g3 : decide (kw = sPwl) = b3 at *
    generalize g4 : decide (kw = sTable) = b4 at *
    clear g1 g2 g3 g4
    generalize f1 : decide (2 ≤ n) = c1
    generalize f2 : (n % 2 == 0) = c2
    generalize f3 : decide (n ≤ 32) = c3
    generalize f4 : decide (1 ≤ n) = c4
    generalize f5 : decide (n ≤ 16) = c5
    generalize f6 : (n == 1) = c6
    generalize f7 : (n == 7) = c7
    generalize f8 : (n == 0) = c8
    refine acall_of Tryz.func143 rfl rfl (by simp [Tryz.ntmps143]) ?_; rw [Tryz.ntmps143, Tryz.results143]
    refine go (cj rTI @hz) ?_
    refine ifs ?_ ?_ <;> first | exact nope | intro hb
    refine go (cj rTI (cj @hn (cj @hd @e1))) ?_
    cases b1
    rotate_left
    · rw [if_pos rfl]
      refine ifs ?_ ?_ <;> first | exact nope | intro hb
      cases c6 <;> (simp only [decide_eq_true_eq, decide_eq_false_iff_not, beq_iff_eq, beq_eq_false_iff_ne, ne_eq] at f6; first | (exfalso; omega) | ((try simp only [Bool.false_and, Bool.and_false, Bool.true_and, Bool.and_true]); exact go0 rTI))
    rw [if_neg (by decide)]
    refine ifs ?_ ?_ <;> first | exact nope | intro hb
    refine go (cj rTI @e2) ?_
    cases b2
    rotate_left
    · rw [if_pos rfl]
      refine ifs ?_ ?_ <;> first | exact nope | intro hb
      cases c7 <;> (simp only [decide_eq_true_eq, decide_eq_false_iff_not, beq_iff_eq, beq_eq_false_iff_ne, ne_eq] at f7; first | (exfalso; omega) | ((try simp only [Bool.false_and, Bool.and_false, Bool.true_and, Bool.and_true]); exact go0 rTI))
    rw [if_neg (by decide)]
    refine ifs ?_ ?_ <;> first | exact nope | intro hb
    refine go (cj rTI @e3) ?_
    cases b3
    rotate_left
    · rw [if_pos rfl]
      refine ifs ?_ ?_ <;> first | exact nope | intro hb
      cases c1 <;> cases c2 <;> cases c3 <;> (simp only [decide_eq_true_eq, decide_eq_false_iff_not, beq_iff_eq, beq_eq_false_iff_ne, ne_eq] at f1 f2 f3; first | (exfalso; omega) | ((try simp only [Bool.false_and, Bool.and_false, Bool.true_and, Bool.and_true]); exact go0 rTI))
    rw [if_neg (by decide)]
    refine ifs ?_ ?_ <;> first | exact nope | intro hb
    refine go (cj rTI @e4) ?_
    cases b4
    rotate_left
    · rw [if_pos rfl]
      refine ifs ?_ ?_ <;> first | exact nope | intro hb
      cases c4 <;> cases c5 <;> (simp only [decide_eq_true_eq, decide_eq_false_iff_not, beq_iff_eq, beq_eq_false_iff_ne, ne_eq] at f4 f5; first | (exfalso; omega) | ((try simp only [Bool.false_and, Bool.and_false, Bool.true_and, Bool.and_true]); exact go0 rTI))
    rw [if_neg (by decide)]
    refine ifs ?_ ?_ <;> first | exact nope | intro hb
    cases c8 <;> (simp only [decide_eq_true_eq, decide_eq_false_iff_not, beq_iff_eq, beq_eq_false_iff_ne, ne_eq] at f8; first | (exfalso; omega) | ((try simp only [Bool.false_and, Bool.and_false, Bool.true_and, Bool.and_true]); exact go0 rTI))
theorem TV_drop (w : List Str) (k : Nat) : AV.sl (w.length - k) (((SL w).drop k).take (w.length - k)) = TV (w.drop k) := by
  unfold TV SL
  rw [List.map_drop, List.length_drop, List.take_of_length_le (by simp)]
theorem counted_ax (k : Nat) (w : List Str) (h : BL w) (hl : w.length ≤ 9223372036854775807) : PCall Tryz.prog 91 [.v (.int .u8 (k : Nat)), TV w] (.v (.bool (counted k w))) := by
  refine pcall_of fun s => ?_
  have hS := shape_ax k
  have hD := TV_drop w 3
  have hW := waveW_ax (w.drop 3) (fun x hx => h x (List.mem_of_mem_drop hx)) (by rw [List.length_drop]; omega)
  rw [← hD] at hW
  clear hD
  unfold counted want
  have hw1 : (shapeK k).1 ≤ 100 := by unfold shapeK; (repeat' split) <;> decide
  unfold shapeV at hS
  generalize shapeK k = sh at *
  obtain ⟨a, b, c⟩ := sh
  unfold TV
  generalize waveWords (w.drop 3) = ww at *
  generalize SL w = c0 at *
  clear h
  generalize w.length = n at *
  clear w
  simp only at hw1 hS ⊢
  have hn : (0 : Int) ≤ (n : Int) ∧ (n : Int) ≤ 9223372036854775807 := by omega
  have q2 : ((k : Int) == 118) = decide (k = 118) := by rw [Bool.eq_iff_iff]; simp only [beq_iff_eq, decide_eq_true_eq]; omega
  have q3 : ((k : Int) == 105) = decide (k = 105) := by rw [Bool.eq_iff_iff]; simp only [beq_iff_eq, decide_eq_true_eq]; omega
  by_cases q1 : k = 120
  · subst q1
    rw [if_pos rfl]
    rcases (by omega : (3 ≤ n ∧ n ≤ 10) ∨ n < 3 ∨ (3 ≤ n ∧ 10 < n)) with f1 | f1 | f1
    all_goals
      first
        | (have g : 3 ≤ n ∧ n ≤ 10 := by omega
           rw [decide_eq_true g])
        | (have g : ¬ (3 ≤ n ∧ n ≤ 10) := by omega
           rw [decide_eq_false g])
      refine acall_of Tryz.func91 rfl rfl (by simp [Tryz.ntmps91]) ?_; rw [Tryz.ntmps91, Tryz.results91]
      refine go rTI ?_
      refine ifs ?_ ?_ <;> first | exact nope | intro hb
      exact go0 rTI
  · rw [if_neg q1]
    have q1' : ¬ (k : Int) = 120 := by omega
    by_cases q4 : k = 118 ∨ k = 105
    · rw [if_pos q4]
      have e4 : decide (k = 118) = true ∨ decide (k = 118) = false ∧ decide (k = 105) = true := by
        rcases q4 with q | q
        · exact .inl (decide_eq_true q)
        · by_cases q5 : k = 118
          · exact .inl (decide_eq_true q5)
          · exact .inr ⟨decide_eq_false q5, decide_eq_true q⟩
      generalize decide (k = 118) = b2 at *
      generalize decide (k = 105) = b3 at *
      refine acall_of Tryz.func91 rfl rfl (by simp [Tryz.ntmps91]) ?_; rw [Tryz.ntmps91, Tryz.results91]
      refine go rTI ?_
      refine ifs ?_ ?_ <;> first | exact nope | intro hb
      refine go (cj rTI @q2) ?_
      rcases e4 with e4 | ⟨e4, e5⟩
      · subst e4
        refine ifs ?_ ?_ <;> first | exact nope | intro hb
        refine go rTI ?_
        refine ifs ?_ ?_ <;> first | exact nope | intro hb
        by_cases f1 : 4 ≤ n
        · rw [decide_eq_true f1, Bool.true_and]
          refine aw_seq ?_
          refine aw_reg fun K hK => ?_; refine rn rTI ?_; refine cont_pure hW ?_; refine rn rTI ?_; refine hK _ _ ?_; clear hK K
          exact go0 rTI
        · rw [decide_eq_false f1, Bool.false_and]
          exact go0 rTI
      · subst e4 e5
        refine ifs ?_ ?_ <;> first | exact nope | intro hb
        refine go (cj rTI @q3) ?_
        refine ifs ?_ ?_ <;> first | exact nope | intro hb
        by_cases f1 : 4 ≤ n
        · rw [decide_eq_true f1, Bool.true_and]
          refine aw_seq ?_
          refine aw_reg fun K hK => ?_; refine rn rTI ?_; refine cont_pure hW ?_; refine rn rTI ?_; refine hK _ _ ?_; clear hK K
          exact go0 rTI
        · rw [decide_eq_false f1, Bool.false_and]
          exact go0 rTI
    · rw [if_neg q4]
      rw [decide_eq_false (fun x => q4 (.inl x))] at q2
      rw [decide_eq_false (fun x => q4 (.inr x))] at q3
      have hc : decide (n = 1 + a + (if b then 1 else 0) + if c then 1 else 0) = ((n : Int) == 1 + (a : Int) + (if b then 1 else 0) + if c then 1 else 0) := by
        rw [Bool.eq_iff_iff]
        simp only [beq_iff_eq, decide_eq_true_eq]
        cases b <;> cases c <;> simp <;> omega
      rw [hc]
      clear hc q4
      have hw2 : (0 : Int) ≤ (a : Int) ∧ (a : Int) ≤ 100 := by omega
      generalize (a : Int) = a at *
      refine acall_of Tryz.func91 rfl rfl (by simp [Tryz.ntmps91]) ?_; rw [Tryz.ntmps91, Tryz.results91]
      refine go rTI ?_
      refine ifs ?_ ?_ <;> first | exact nope | intro hb
      refine go (cj rTI @q2) ?_
      refine ifs ?_ ?_ <;> first | exact nope | intro hb
      refine go (cj rTI @q3) ?_
      refine ifs ?_ ?_ <;> first | exact nope | intro hb
      refine go rTI ?_
      refine aw_reg fun K hK => ?_; refine rn rTI ?_; refine cont_pure hS ?_; refine rn rTI ?_; refine hK _ _ ?_; clear hK K
      cases b <;> cases c
      all_goals
        refine go rTI ?_
        refine ifs ?_ ?_ <;> first | exact nope | intro hb
        refine go rTI ?_
        refine ifs ?_ ?_ <;> first | exact nope | intro hb
        (first | refine go rTI ?_ | exact go0 rTI)
        try simp only [Bool.false_eq_true, if_false, if_true, Int.add_zero]
end Go.Proofs.YtfjelkjlfcafgaaGreatDoor.CardC
end
section
/- Cards and models, plain: what is written is read; what is read is right. -/
namespace Go.Proofs.YtfjelkjlfcafgaaGreatDoor.CardP
open Go.Proofs.YtfjelkjlfcafgaaGreatDoor.NumS Go.Proofs.YtfjelkjlfcafgaaGreatDoor.RefM Go.Proofs.YtfjelkjlfcafgaaGreatDoor.CardS Go.Proofs.YtfjelkjlfcafgaaGreatDoor.NumH
theorem text_read (n : Num) (h : valid n = true) : numV (textN n) = n ∧ ∀ e, numE (textN n) e = e := by
  have hp := parse_text n.1 n.2 ((ok_valid n.1 n.2).1 h)
  unfold textN numV numE
  rw [if_pos h, hp]
  refine ⟨rfl, fun e => ?_⟩
  split
  · rename_i h; rw [h]
  · rfl
theorem numE_le (w : Str) (e : Int) (h : numE w e = 0) : e = 0 := by
  unfold numE at h
  split at h
  · assumption
  · exact h
theorem stepE_le (w : Str) (e : Int) (h : stepE w e = 0) : e = 0 := by
  unfold stepE at h
  split at h
  · assumption
  · exact h
theorem dec_step (s : Int) (h0 : 0 ≤ s) (h1 : s ≤ 1000000000) : stepS (decS s) = some s := by
  obtain ⟨n, rfl⟩ := Int.eq_ofNat_of_zero_le h0
  have e : decS (n : Int) = decP n := by
    unfold decS decP
    by_cases hn : n = 0
    · subst hn; rfl
    · rw [if_neg (by omega), if_neg (by omega), if_neg hn]
      rfl
  obtain ⟨_, _, h2, _⟩ := decP_spec n (by omega)
  unfold stepS
  rw [e, h2, if_pos ⟨rfl, by omega⟩]
theorem step_le (w : Str) (s : Int) (h : stepS w = some s) : 0 ≤ s ∧ s ≤ 1000000000 ∧ decS s = w := by
  unfold stepS at h
  split at h
  · rename_i hh
    injection h with h
    subst h
    refine ⟨by omega, by omega, ?_⟩
    have e : decS (digV w : Int) = decP (digV w) := by
      unfold decS decP
      by_cases hn : digV w = 0
      · rw [hn]; rfl
      · rw [if_neg (by omega), if_neg (by omega), if_neg hn]
        rfl
    rw [e, hh.1]
  · cases h
theorem nums_text : ∀ (l : List Num) (e : Int), l.all valid = true → numsE (l.map textN) e = e ∧ (l.map textN).map numV = l
  | [], _, _ => ⟨rfl, rfl⟩
  | n :: r, e, h => by
    rw [List.all_cons, Bool.and_eq_true] at h
    obtain ⟨h1, h2⟩ := text_read n h.1
    obtain ⟨h3, h4⟩ := nums_text r e h.2
    refine ⟨?_, by rw [List.map_cons, List.map_cons, h1, h4]⟩
    show numsE (r.map textN) (numE (textN n) e) = e
    rw [h2, h3]
theorem read_eq (w0 : Str) (ws : List Str) : readC (w0 :: ws) = readB w0 ws (w0.getD 0 0) (formOf (w0.getD 0 0) (ws.length + 1)) := rfl
end Go.Proofs.YtfjelkjlfcafgaaGreatDoor.CardP
end
section
/- Cards: what the library answers: Atoi, Itoa, Clone, Equal. -/
namespace Go.Proofs.YtfjelkjlfcafgaaGreatDoor.CardD
open Go Go.RowKit Go.Proofs.YtfjelkjlfcafgaaGreatDoor.Ax Go.Proofs.YtfjelkjlfcafgaaGreatDoor.Ti Go.Proofs.YtfjelkjlfcafgaaGreatDoor.NumS Go.Proofs.YtfjelkjlfcafgaaGreatDoor.NumT Go.Proofs.YtfjelkjlfcafgaaGreatDoor.CardS Go.Proofs.YtfjelkjlfcafgaaGreatDoor.CardP Go.Proofs.YtfjelkjlfcafgaaGreatDoor.CardA Go.Proofs.YtfjelkjlfcafgaaGreatDoor.CardB Go.Proofs.YtfjelkjlfcafgaaGreatDoor.CardC
set_option linter.unusedSimpArgs false
set_option linter.unusedVariables false
set_option maxRecDepth 4000
set_option maxHeartbeats 2000000
theorem rTI : type_of% (cj @ti3 (cj @ti4 (cj @ti9 (cj @ti5 (cj @ti36 (cj @Nat.zero_add (cj @tz0 (cj @tz1 (cj @tz3 (cj @Nat.mul_one @Int.toNat_natCast)))))))))) := cj @ti3 (cj @ti4 (cj @ti9 (cj @ti5 (cj @ti36 (cj @Nat.zero_add (cj @tz0 (cj @tz1 (cj @tz3 (cj @Nat.mul_one @Int.toNat_natCast)))))))))

theorem acall_any {f : FuncId} {us : List Value} {s : St} {R : AV → Prop} (hen : Enters Tryz.prog f)
    (h : ∀ w, Tabs w.cell? → TabSize w → Calls Tryz.prog f us.toArray w fun en w' => ∃ v r, en = .returned v ∧ Below w.heap.size w w' ∧ R r ∧ ∀ k, Rel k r v) : ACall Tryz.prog f (us.map .v) s fun r s' => R r ∧ s' = s := by
  refine ⟨hen, fun w0 k w vs hs hv => ?_⟩
  have : vs = us := by
    apply List.ext_getElem
    · simpa using hv.1
    · intro j h1 h2
      have := hv.2 j (.v us[j]) vs[j] (by simp [h2]) (by simp [h1])
      exact this.v_eq
  subst this
  refine (h w (k.tab.mono hs.fz) (hs.shp.tz hs.tz)).mono ?_
  rintro en w' ⟨v, r, rfl, hb, hR, hr⟩
  exact ⟨v, r, s, k, rfl, ⟨hR, rfl⟩, hs.below hb, hr k, KW.le_refl (by rw [hs.m]; exact Nat.le_refl _)⟩
theorem tup2 (a b : Value) (k : KW) : Rel k (.tp [.v a, .v b]) (.tuple #[a, b]) := .tp _ [_, _] rfl fun j z u hz hu => by
  match j with
  | 0 => simp at hz hu; subst hz hu; exact .v _
  | 1 => simp at hz hu; subst hz hu; exact .v _
  | j + 2 => simp at hz
theorem itoa_ax (z : Int) (h0 : -9223372036854775808 ≤ z) (h1 : z ≤ 9223372036854775807) : PCall Tryz.prog 64 [.v (.int .i64 z)] (SV (decS z)) := by
  refine pcall_lift_tab (us := [.int .i64 z]) (enters_of Tryz.func64 rfl rfl) (fun k => .v _) fun w ht hz => ?_
  refine (Tryz.strconv_Itoa z h0 h1 w (NumLaid.tabIs ht hz)).mono ?_
  rintro en w' ⟨rfl, k, os, rfl⟩
  rw [NumG.itoa_eq]
  exact ⟨rfl, ⟨rfl, rfl, rfl, by simp [Sort.grow, World.drewN], fun i hi => by simp [Sort.grow, World.drewN, Array.getElem?_append, hi]⟩⟩
def AtoiR (w : Str) (r : AV) : Prop := ∃ (z : Int) (e : Value), r = .tp [.v (.int .i64 z), .v e] ∧ -9223372036854775808 ≤ z ∧ z ≤ 9223372036854775807 ∧ ((e = .nilIface ∧ (∀ n, stepS w = some n → z = n)) ∨ ((∃ t p, e = .iface t p) ∧ stepS w = none))
theorem atoi_step (w : Str) (n : Int) (h : stepS w = some n) : (∀ c ∈ w, isD c = true) ∧ w ≠ [] ∧ w.length ≤ 18 ∧ digV w = n.toNat ∧ 0 ≤ n := by
  unfold stepS at h
  split at h
  · rename_i hc
    injection h with h
    obtain ⟨h1, h2, h3, h4⟩ := decP_spec (digV w) (by omega)
    rw [hc.1] at h1 h2 h4
    exact ⟨h1, h2, by omega, by omega, by omega⟩
  · cases h
theorem atoi_any (w : Str) (hl : w.length ≤ 281474976710656) (s : St) : ACall Tryz.prog 102 [SV w] s fun r s' => AtoiR w r ∧ s' = s := by
  cases hs : stepS w with
  | some n =>
    obtain ⟨h1, h2, h3, h4, h5⟩ := atoi_step w n hs
    refine ((NumL.atoi_ax w h1 h2 h3) s).mono ?_
    rintro r s' ⟨rfl, rfl⟩
    have hb : n ≤ 1000000000 := (step_le w n hs).2.1
    refine ⟨⟨(digV w : Nat), .nilIface, rfl, by omega, by omega, .inl ⟨rfl, fun m hm => ?_⟩⟩, rfl⟩
    rw [hs] at hm
    injection hm with hm
    omega
  | none =>
    refine acall_any (us := [.string (bs w)]) (enters_of Tryz.func102 rfl rfl) fun W ht hz => ?_
    have hsz : (bs w).size ≤ 281474976710656 := by rw [bs_size]; exact hl
    obtain ⟨_, ⟨t2, p2, c2⟩, ⟨t3, p3, c3⟩, _⟩ := ht
    rcases ha : Lib.atoiAll (bs w).data.toList with v | _ | _
    · have hb := Lib.atoiAll_bounds ha
      refine (Tryz.strconv_Atoi_ok (bs w) (by omega) v ha W).mono ?_
      rintro en w' ⟨rfl, q⟩
      refine ⟨_, _, rfl, ?_, ⟨v, .nilIface, rfl, hb.1, hb.2, .inl ⟨rfl, fun n hn => by rw [hs] at hn; cases hn⟩⟩, tup2 _ _⟩
      rcases q with rfl | ⟨t, rfl⟩
      · exact Below.refl _ _
      · exact Lib.bytesWorld_below _ _ _
    · refine (Tryz.strconv_Atoi_syntax (bs w) hsz ⟨fun q => (by rw [ha] at q; cases q), fun v q => (by rw [ha] at q; cases q)⟩ _ W c2 (.inr ⟨_, _, rfl⟩)).mono ?_
      rintro en w' ⟨N, rfl, _, _, hb⟩
      exact ⟨_, _, rfl, hb, ⟨0, _, rfl, by decide, by decide, .inr ⟨⟨_, _, rfl⟩, hs⟩⟩, tup2 _ _⟩
    · have hb := Lib.atoiSat_bounds (bs w).data.toList
      refine (Tryz.strconv_Atoi_range (bs w) hsz ha _ W c3 (.inr ⟨_, _, rfl⟩)).mono ?_
      rintro en w' ⟨N, rfl, _, _, hb'⟩
      exact ⟨_, _, rfl, hb', ⟨_, _, rfl, hb.1, hb.2, .inr ⟨⟨_, _, rfl⟩, hs⟩⟩, tup2 _ _⟩
end Go.Proofs.YtfjelkjlfcafgaaGreatDoor.CardD
end
section
/- Cards: slices.Equal at three types, slices.Clone. (Made by gen_carde.py.) -/
namespace Go.Proofs.YtfjelkjlfcafgaaGreatDoor.CardE
open Go Go.RowKit Go.Proofs.YtfjelkjlfcafgaaGreatDoor.Ax Go.Proofs.YtfjelkjlfcafgaaGreatDoor.Ti Go.Proofs.YtfjelkjlfcafgaaGreatDoor.NumS Go.Proofs.YtfjelkjlfcafgaaGreatDoor.NumT Go.Proofs.YtfjelkjlfcafgaaGreatDoor.CardS Go.Proofs.YtfjelkjlfcafgaaGreatDoor.CardP Go.Proofs.YtfjelkjlfcafgaaGreatDoor.CardA Go.Proofs.YtfjelkjlfcafgaaGreatDoor.CardB Go.Proofs.YtfjelkjlfcafgaaGreatDoor.CardC Go.Proofs.YtfjelkjlfcafgaaGreatDoor.CardD
set_option linter.unusedSimpArgs false
set_option linter.unusedVariables false
set_option maxRecDepth 4000
set_option maxHeartbeats 2000000
theorem rTI : type_of% (cj @ti3 (cj @ti4 (cj @ti9 (cj @ti5 (cj @ti36 (cj @ti63 (cj @ti62 (cj @ti24 (cj @Nat.zero_add (cj @tz0 (cj @tz1 (cj @tz3 (cj @Nat.mul_one @Int.toNat_natCast))))))))))))) := cj @ti3 (cj @ti4 (cj @ti9 (cj @ti5 (cj @ti36 (cj @ti63 (cj @ti62 (cj @ti24 (cj @Nat.zero_add (cj @tz0 (cj @tz1 (cj @tz3 (cj @Nat.mul_one @Int.toNat_natCast))))))))))))

def iv (z : Int) : AV := .v (.int .i64 z)
def IL (l : List Int) : List AV := l.map iv
def NC (l : List Num) : List AV := l.flatMap fun n => [iv n.1, iv n.2]
def IV (l : List Int) : AV := .sl l.length (IL l)
def NV (l : List Num) : AV := .sl l.length (NC l)
theorem nc_len (l : List Num) : (NC l).length = l.length * 2 := by
  induction l with
  | nil => rfl
  | cons a l ih => simp [NC, List.flatMap_cons] at ih ⊢; omega
theorem nc_at : ∀ (l : List Num) (k : Nat), k < l.length → ((NC l).drop (k * 2)).take 2 = [iv (l.getD k (0, 0)).1, iv (l.getD k (0, 0)).2]
  | [], k, h => absurd h (Nat.not_lt_zero _)
  | a :: l, 0, h => rfl
  | a :: l, k + 1, h => by
    have := nc_at l k (Nat.lt_of_succ_lt_succ h)
    rw [List.getD_cons_succ, ← this]
    show ((iv a.1 :: iv a.2 :: NC l).drop ((k + 1) * 2)).take 2 = _
    rw [show (k + 1) * 2 = k * 2 + 1 + 1 by omega]
    rfl
theorem hd_IL (l : List Int) (k : Nat) (h : k < l.length) : ((IL l).drop k).head? = some (iv (l.getD k 0)) := by
  rw [List.head?_drop]
  simp [IL, List.getElem?_eq_getElem h, List.getD]
theorem take_eq {α : Type} {a b : List α} {d : α} {k : Nat} (hl : a.length = b.length) (hk : k < a.length) (h : a.take k = b.take k) (e : a.getD k d = b.getD k d) : a.take (k + 1) = b.take (k + 1) := by
  rw [List.getD_eq_getElem?_getD, List.getD_eq_getElem?_getD, List.getElem?_eq_getElem hk, List.getElem?_eq_getElem (hl ▸ hk)] at e
  rw [List.take_succ_eq_append_getElem hk, List.take_succ_eq_append_getElem (hl ▸ hk), h]
  simp only [Option.getD_some] at e
  rw [e]
theorem bl_at (l : List Str) (h : BL l) (k : Nat) : By (l.getD k []) := by
  rw [List.getD_eq_getElem?_getD]
  cases q : l[k]? with
  | none => exact fun c hc => by cases hc
  | some x => exact h x (List.mem_of_getElem? q)
theorem ne_at {α : Type} {a b : List α} {d : α} {k : Nat} (e : a.getD k d ≠ b.getD k d) : a ≠ b := fun h => e (by rw [h])
theorem equalS_ax (a b : List Str) (ga : BL a) (gb : BL b) (ha : a.length ≤ 9223372036854775807) (hb' : b.length ≤ 9223372036854775807) : PCall Tryz.prog 84 [TV a, TV b] (.v (.bool (decide (a = b)))) := by
  refine pcall_of fun s => ?_
  unfold TV
  by_cases hl : a.length = b.length
  · refine acall_of Tryz.func84 rfl rfl (by simp [Tryz.ntmps84]) ?_; rw [Tryz.ntmps84, Tryz.results84]
    refine go (cj rTI @hl) ?_
    refine ifs ?_ ?_ <;> first | exact nope | intro hb
    refine go (cj rTI @hl) ?_
    refine aw_loop (fun m e s' => ∃ k, m = b.length - k ∧ k ≤ b.length ∧ e.n = 26 ∧ e.m 0 = .sl b.length (SL a) ∧ e.m 1 = .sl b.length (SL b) ∧ e.m 12 = .v (.int .i64 b.length) ∧ e.m 13 = .v (.int .i64 (k : Nat)) ∧ a.take k = b.take k ∧ s' = s) b.length ?_ ?_
    · refine ⟨0, by omega, by omega, ?_⟩
      (repeat' refine And.intro ?_ ?_) <;> first | exact rfl | exact fnz (cj rTI @hl) | skip
    · rintro m e s' ⟨k, rfl, hk, h1, k0, k1, k12, k13, ht, rfl⟩
      by_cases hk2 : k < b.length
      · have ha2 : k < a.length := by omega
        have f1 := hd_SL a k ha2
        have f2 := hd_SL b k hk2
        have f3 := str_ne (a.getD k []) (b.getD k []) (bl_at a ga k) (bl_at b gb k)
        unfold SV at f1 f2
        refine go (cj rTI (cj @h1 (cj @k12 @k13))) ?_
        refine ifs ?_ ?_ <;> first | exact nope | intro hb
        refine aw_skip ?_
        refine aw_seq ?_
        refine aw_block ?_
        refine aw_seq ?_
        refine aw_reg fun K hK => ?_; refine rn (cj rTI (cj @h1 @k13)) ?_; refine hK _ _ ?_; clear hK K
        refine aw_seq ?_
        refine aw_drw (.take 0 (.take 1 (.take 2 (.take 3 (.take 4 (.take 5 (.take 6 (.take 7 (.take 8 (.done)))))))))) [] (by kernel_rfl) (by kernel_rfl) fun K hK => ?_; refine dr (cj rTI (cj @h1 (cj @k0 (cj @k1 (cj @k13 (cj @f1 (cj @f2 @f3))))))) ?_; refine hK _ _ ?_; clear hK K
        by_cases q : a.getD k [] = b.getD k []
        · have ht2 := take_eq hl ha2 ht q
          rw [decide_eq_true q]
          refine ifs ?_ ?_ <;> first | exact nope | intro hb
          refine go (cj rTI (cj @h1 @k13)) ?_
          simp only [block_normal, loop_normal]
          refine ⟨b.length - (k + 1), by omega, k + 1, rfl, by omega, ?_, ?_, ?_, ?_, ?_, ht2, trivial⟩
          all_goals ((first | refine rn (cj @h1 (cj @k0 (cj @k1 (cj @k12 @k13)))) ?_ | exact rn0 (cj @h1 (cj @k0 (cj @k1 (cj @k12 @k13))))))
          all_goals rfl
        · rw [decide_eq_false (ne_at q)]
          rw [decide_eq_false q]
          refine ifs ?_ ?_ <;> first | exact nope | intro hb
          exact go0 (cj rTI @h1)
      · obtain rfl : k = b.length := by omega
        rw [List.take_length, ← hl, List.take_length] at ht
        rw [decide_eq_true ht]
        refine go (cj rTI (cj @h1 (cj @k12 @k13))) ?_
        refine ifs ?_ ?_ <;> first | exact nope | intro hb
        exact go0 (cj rTI @h1)
  · rw [decide_eq_false fun h => hl (by rw [h])]
    have hl2 : ¬ ((a.length : Int) = (b.length : Int)) := by omega
    refine acall_of Tryz.func84 rfl rfl (by simp [Tryz.ntmps84]) ?_; rw [Tryz.ntmps84, Tryz.results84]
    refine go rTI ?_
    refine ifs ?_ ?_ <;> first | exact nope | intro hb
    exact go0 rTI
theorem equalI_ax (a b : List Int) (ha : a.length ≤ 9223372036854775807) (hb' : b.length ≤ 9223372036854775807) : PCall Tryz.prog 140 [IV a, IV b] (.v (.bool (decide (a = b)))) := by
  refine pcall_of fun s => ?_
  unfold IV
  by_cases hl : a.length = b.length
  · refine acall_of Tryz.func140 rfl rfl (by simp [Tryz.ntmps140]) ?_; rw [Tryz.ntmps140, Tryz.results140]
    refine go (cj rTI @hl) ?_
    refine ifs ?_ ?_ <;> first | exact nope | intro hb
    refine go (cj rTI @hl) ?_
    refine aw_loop (fun m e s' => ∃ k, m = b.length - k ∧ k ≤ b.length ∧ e.n = 26 ∧ e.m 0 = .sl b.length (IL a) ∧ e.m 1 = .sl b.length (IL b) ∧ e.m 12 = .v (.int .i64 b.length) ∧ e.m 13 = .v (.int .i64 (k : Nat)) ∧ a.take k = b.take k ∧ s' = s) b.length ?_ ?_
    · refine ⟨0, by omega, by omega, ?_⟩
      (repeat' refine And.intro ?_ ?_) <;> first | exact rfl | exact fnz (cj rTI @hl) | skip
    · rintro m e s' ⟨k, rfl, hk, h1, k0, k1, k12, k13, ht, rfl⟩
      by_cases hk2 : k < b.length
      · have ha2 : k < a.length := by omega
        have f1 := hd_IL a k ha2
        have f2 := hd_IL b k hk2
        unfold iv at f1 f2
        refine go (cj rTI (cj @h1 (cj @k12 @k13))) ?_
        refine ifs ?_ ?_ <;> first | exact nope | intro hb
        refine aw_skip ?_
        refine aw_seq ?_
        refine aw_block ?_
        refine aw_seq ?_
        refine aw_reg fun K hK => ?_; refine rn (cj rTI (cj @h1 @k13)) ?_; refine hK _ _ ?_; clear hK K
        refine aw_seq ?_
        refine aw_drw (.take 0 (.take 1 (.take 2 (.take 3 (.take 4 (.take 5 (.take 6 (.take 7 (.take 8 (.done)))))))))) [] (by kernel_rfl) (by kernel_rfl) fun K hK => ?_; refine dr (cj rTI (cj @h1 (cj @k0 (cj @k1 (cj @k13 (cj @f1 @f2)))))) ?_; refine hK _ _ ?_; clear hK K
        by_cases q : a.getD k 0 = b.getD k 0
        · have ht2 := take_eq hl ha2 ht q
          
          refine ifs ?_ ?_ <;> first | exact nope | intro hb
          refine go (cj rTI (cj @h1 @k13)) ?_
          simp only [block_normal, loop_normal]
          refine ⟨b.length - (k + 1), by omega, k + 1, rfl, by omega, ?_, ?_, ?_, ?_, ?_, ht2, trivial⟩
          all_goals ((first | refine rn (cj @h1 (cj @k0 (cj @k1 (cj @k12 @k13)))) ?_ | exact rn0 (cj @h1 (cj @k0 (cj @k1 (cj @k12 @k13))))))
          all_goals rfl
        · rw [decide_eq_false (ne_at q)]
          
          refine ifs ?_ ?_ <;> first | exact nope | intro hb
          exact go0 (cj rTI @h1)
      · obtain rfl : k = b.length := by omega
        rw [List.take_length, ← hl, List.take_length] at ht
        rw [decide_eq_true ht]
        refine go (cj rTI (cj @h1 (cj @k12 @k13))) ?_
        refine ifs ?_ ?_ <;> first | exact nope | intro hb
        exact go0 (cj rTI @h1)
  · rw [decide_eq_false fun h => hl (by rw [h])]
    have hl2 : ¬ ((a.length : Int) = (b.length : Int)) := by omega
    refine acall_of Tryz.func140 rfl rfl (by simp [Tryz.ntmps140]) ?_; rw [Tryz.ntmps140, Tryz.results140]
    refine go rTI ?_
    refine ifs ?_ ?_ <;> first | exact nope | intro hb
    exact go0 rTI
theorem equalN_ax (a b : List Num) (ha : a.length ≤ 9223372036854775807) (hb' : b.length ≤ 9223372036854775807) : PCall Tryz.prog 139 [NV a, NV b] (.v (.bool (decide (a = b)))) := by
  refine pcall_of fun s => ?_
  unfold NV
  by_cases hl : a.length = b.length
  · refine acall_of Tryz.func139 rfl rfl (by simp [Tryz.ntmps139]) ?_; rw [Tryz.ntmps139, Tryz.results139]
    refine go (cj rTI @hl) ?_
    refine ifs ?_ ?_ <;> first | exact nope | intro hb
    refine go (cj rTI @hl) ?_
    refine aw_loop (fun m e s' => ∃ k, m = b.length - k ∧ k ≤ b.length ∧ e.n = 26 ∧ e.m 0 = .sl b.length (NC a) ∧ e.m 1 = .sl b.length (NC b) ∧ e.m 12 = .v (.int .i64 b.length) ∧ e.m 13 = .v (.int .i64 (k : Nat)) ∧ a.take k = b.take k ∧ s' = s) b.length ?_ ?_
    · refine ⟨0, by omega, by omega, ?_⟩
      (repeat' refine And.intro ?_ ?_) <;> first | exact rfl | exact fnz (cj rTI @hl) | skip
    · rintro m e s' ⟨k, rfl, hk, h1, k0, k1, k12, k13, ht, rfl⟩
      by_cases hk2 : k < b.length
      · have ha2 : k < a.length := by omega
        have f1 := nc_at a k ha2
        have f2 := nc_at b k hk2
        have f3 : 2 ≤ ((NC a).drop (k * 2)).length := by rw [List.length_drop, nc_len]; omega
        have f4 : 2 ≤ ((NC b).drop (k * 2)).length := by rw [List.length_drop, nc_len]; omega
        unfold iv at f1 f2
        have f5 : eqOk Tryz.prog 24 = true := by kernel_rfl
        have f6 : ((a.getD k (0, 0)).1 == (b.getD k (0, 0)).1 && (a.getD k (0, 0)).2 == (b.getD k (0, 0)).2) = decide (a.getD k (0, 0) = b.getD k (0, 0)) := by rw [Bool.eq_iff_iff, decide_eq_true_eq, Prod.ext_iff]; simp
        refine go (cj rTI (cj @h1 (cj @k12 @k13))) ?_
        refine ifs ?_ ?_ <;> first | exact nope | intro hb
        refine aw_skip ?_
        refine aw_seq ?_
        refine aw_block ?_
        refine aw_seq ?_
        refine aw_reg fun K hK => ?_; refine rn (cj rTI (cj @h1 @k13)) ?_; refine hK _ _ ?_; clear hK K
        refine aw_seq ?_
        refine aw_drw (.take 0 (.take 1 (.take 2 (.take 3 (.take 4 (.take 5 (.take 6 (.take 7 (.take 8 (.done)))))))))) [] (by kernel_rfl) (by kernel_rfl) fun K hK => ?_; refine dr (cj rTI (cj @h1 (cj @k0 (cj @k1 (cj @k13 (cj @f1 (cj @f2 (cj @f3 (cj @f4 (cj @f5 @f6)))))))))) ?_; refine hK _ _ ?_; clear hK K
        by_cases q : a.getD k (0, 0) = b.getD k (0, 0)
        · have ht2 := take_eq hl ha2 ht q
          rw [decide_eq_true q]
          refine ifs ?_ ?_ <;> first | exact nope | intro hb
          refine go (cj rTI (cj @h1 @k13)) ?_
          simp only [block_normal, loop_normal]
          refine ⟨b.length - (k + 1), by omega, k + 1, rfl, by omega, ?_, ?_, ?_, ?_, ?_, ht2, trivial⟩
          all_goals ((first | refine rn (cj @h1 (cj @k0 (cj @k1 (cj @k12 @k13)))) ?_ | exact rn0 (cj @h1 (cj @k0 (cj @k1 (cj @k12 @k13))))))
          all_goals rfl
        · rw [decide_eq_false (ne_at q)]
          rw [decide_eq_false q]
          refine ifs ?_ ?_ <;> first | exact nope | intro hb
          exact go0 (cj rTI @h1)
      · obtain rfl : k = b.length := by omega
        rw [List.take_length, ← hl, List.take_length] at ht
        rw [decide_eq_true ht]
        refine go (cj rTI (cj @h1 (cj @k12 @k13))) ?_
        refine ifs ?_ ?_ <;> first | exact nope | intro hb
        exact go0 (cj rTI @h1)
  · rw [decide_eq_false fun h => hl (by rw [h])]
    have hl2 : ¬ ((a.length : Int) = (b.length : Int)) := by omega
    refine acall_of Tryz.func139 rfl rfl (by simp [Tryz.ntmps139]) ?_; rw [Tryz.ntmps139, Tryz.results139]
    refine go rTI ?_
    refine ifs ?_ ?_ <;> first | exact nope | intro hb
    exact go0 rTI
theorem pcall_nil {f : FuncId} {r : AV} (h : ∀ (a : Option Addr) (cap : Nat), PCall Tryz.prog f [.v (.slice a 0 cap)] r) : PCall Tryz.prog f [.sl 0 []] r := fun s =>
  ⟨(h none 0 s).1, fun w0 k w vs hs hv => by
    match vs, hv with
    | [u], hv =>
      have hr := hv.2 0 _ u rfl rfl
      cases hr with
      | sl _ cap _ a us hn h1 h2 => exact (h (some a) cap s).2 w0 k w _ hs ⟨rfl, fun j z u hz hu => by
          match j with
          | 0 => simp at hz hu; subst hz hu; exact .v _
          | j + 1 => simp at hz⟩
      | sl0 a cap => exact (h a cap s).2 w0 k w _ hs ⟨rfl, fun j z u hz hu => by
          match j with
          | 0 => simp at hz hu; subst hz hu; exact .v _
          | j + 1 => simp at hz⟩
    | [], hv => simp [RelL] at hv
    | _ :: _ :: _, hv => simp [RelL] at hv⟩
theorem sl_len (l : List Str) : (SL l).length = l.length := by simp [SL]
theorem sl_take (l : List Str) : (SL l).take (l.length * 1) = SL l := by rw [Nat.mul_one, ← sl_len, List.take_length]
theorem sl_one (l : List Str) : (SL l).all AV.one = true := by
  rw [List.all_eq_true]
  intro z hz
  obtain ⟨x, _, rfl⟩ := List.mem_map.1 hz
  rfl
theorem sl_idf (l : List Str) : idf.idfL (SL l) = true := (idfL_iff _).2 fun z hz => by
  obtain ⟨x, _, rfl⟩ := List.mem_map.1 hz
  rfl
theorem tv_idf (l : List Str) : idf (TV l) = true := sl_idf l
theorem clone_ax (l : List Str) (hl : l.length ≤ 100000) : PCall Tryz.prog 92 [TV l] (TV l) := by
  cases l with
  | nil =>
    refine pcall_nil fun a cap => ?_
    cases a with
    | none =>
      refine pcall_le fun s => ?_
      refine acall_of Tryz.func92 rfl rfl (by simp [Tryz.ntmps92]) ?_; rw [Tryz.ntmps92, Tryz.results92]
      refine go rTI ?_
      refine ifs ?_ ?_ <;> first | exact nope | intro hb
      refine go rTI ?_
      exact ⟨Le.nil 0 0 rfl, rfl⟩
    | some a =>
      refine pcall_own rfl fun s => ?_
      refine acall_of Tryz.func92 rfl rfl (by simp [Tryz.ntmps92]) ?_; rw [Tryz.ntmps92, Tryz.results92]
      refine go rTI ?_
      refine ifs ?_ ?_ <;> first | exact nope | intro hb
      refine go rTI ?_
      exact ⟨s.nx + 1, _, by omega, if_pos rfl, by simp [frz, TV, SL], fun j hj => by rw [if_neg (by omega), if_neg (by omega)]⟩
  | cons x r =>
    generalize hy : x :: r = y at *
    have h0 : 0 < y.length := by rw [← hy]; exact Nat.succ_pos _
    clear hy
    have e1 := sl_len y
    have e2 := sl_take y
    have e3 := sl_one y
    unfold TV
    refine pcall_own (sl_idf y) fun s => ?_
    refine acall_of Tryz.func92 rfl rfl (by simp [Tryz.ntmps92]) ?_; rw [Tryz.ntmps92, Tryz.results92]
    refine go rTI ?_
    refine ifs ?_ ?_ <;> first | exact nope | intro hb
    refine go (cj rTI (cj @e1 (cj @e2 @e3))) ?_
    exact ⟨s.nx + 1, _, by omega, if_pos rfl, by rw [frz_own, List.nil_append, List.drop_zero, e2], fun j hj => by rw [if_neg (by omega), if_neg (by omega)]⟩
end Go.Proofs.YtfjelkjlfcafgaaGreatDoor.CardE
end
section
/- Cards: the reader: next, num, step. -/
namespace Go.Proofs.YtfjelkjlfcafgaaGreatDoor.CardF
open Go Go.RowKit Go.Proofs.YtfjelkjlfcafgaaGreatDoor.Ax Go.Proofs.YtfjelkjlfcafgaaGreatDoor.Ti Go.Proofs.YtfjelkjlfcafgaaGreatDoor.NumS Go.Proofs.YtfjelkjlfcafgaaGreatDoor.NumT Go.Proofs.YtfjelkjlfcafgaaGreatDoor.CardS Go.Proofs.YtfjelkjlfcafgaaGreatDoor.CardP Go.Proofs.YtfjelkjlfcafgaaGreatDoor.CardA Go.Proofs.YtfjelkjlfcafgaaGreatDoor.CardB Go.Proofs.YtfjelkjlfcafgaaGreatDoor.CardC Go.Proofs.YtfjelkjlfcafgaaGreatDoor.CardD Go.Proofs.YtfjelkjlfcafgaaGreatDoor.CardE
open Go.Proofs.YtfjelkjlfcafgaaGreatDoor.NumA (NM)
open Go.Proofs.YtfjelkjlfcafgaaGreatDoor.NumW (parseV)
set_option linter.unusedSimpArgs false
set_option linter.unusedVariables false
set_option maxRecDepth 4000
set_option maxHeartbeats 2000000
theorem rTI : type_of% (cj @ti3 (cj @ti4 (cj @ti9 (cj @ti5 (cj @ti36 (cj @ti63 (cj @ti62 (cj @ti24 (cj @ti25 (cj @ti144 (cj @ti101 (cj @ti146 (cj @Nat.zero_add (cj @tz0 (cj @tz1 (cj @tz3 (cj @Nat.mul_one @Int.toNat_natCast))))))))))))))))) := cj @ti3 (cj @ti4 (cj @ti9 (cj @ti5 (cj @ti36 (cj @ti63 (cj @ti62 (cj @ti24 (cj @ti25 (cj @ti144 (cj @ti101 (cj @ti146 (cj @Nat.zero_add (cj @tz0 (cj @tz1 (cj @tz3 (cj @Nat.mul_one @Int.toNat_natCast))))))))))))))))
variable {P : Program}
theorem acall_upd {f : FuncId} {zs : List AV} {s : St} {R : AV → Prop} (id : Nat) (c : List AV) (hid : id < s.nx) (hc : idf.idfL c = true)
    (h : ACall P f zs s fun r s' => R r ∧ idf r = true ∧ s'.get id = some c ∧ ∀ i, i < s.nx → i ≠ id → s'.get i = s.get i) : ACall P f zs s fun r s' => R r ∧ s' = s.set id c := by
  refine ⟨h.1, fun w0 k w vs hs hv => (h.2 w0 k w vs hs hv).mono ?_⟩
  rintro en w' ⟨v, r, s', k', rfl, ⟨hR, hf, hgi, hg⟩, hs', hr, hk⟩
  refine ⟨v, r, s.set id c, ⟨k'.φ, s.nx, k'.S, k'.tab⟩, rfl, ⟨hR, rfl⟩, ⟨rfl, hs'.fz, ?_, ?_, ?_, hs'.shp, hs.tz⟩, rel_free hr (fun _ _ h => h) hf, ⟨Nat.le_refl _, hk.2.1, hk.2.2⟩⟩
  · intro i d hi
    by_cases e : i = id
    · subst e; exact hid
    · rw [St.set_ne _ _ _ _ e] at hi
      exact hs.lt i d hi
  · intro i d hi
    by_cases e : i = id
    · subst e
      rw [St.set_same] at hi
      injection hi with hi
      subst hi
      obtain ⟨h1, h2⟩ := hs'.box i c hgi
      refine ⟨h1, fun j hj => ?_⟩
      obtain ⟨u, q1, q2, q3, q4⟩ := h2 j hj
      exact ⟨u, q1, q2, q3, fun z hz => rel_free (q4 z hz) (fun _ _ h => h) ((idfL_iff c).1 hc z (List.mem_of_getElem? hz))⟩
    · rw [St.set_ne _ _ _ _ e] at hi
      have hlt := hs.lt i d hi
      obtain ⟨h1, h2⟩ := hs'.box i d ((hg i hlt e).trans hi)
      obtain ⟨o1, o2⟩ := hs.box i d hi
      refine ⟨h1, fun j hj => ?_⟩
      obtain ⟨u, q1, q2, q3, q4⟩ := h2 j hj
      refine ⟨u, q1, q2, q3, fun z hz => ?_⟩
      obtain ⟨u0, _, _, _, p4⟩ := o2 j (by
        have := (List.getElem?_eq_some_iff.1 hz).1
        omega)
      have := rel_cut (p4 z hz) (q4 z hz)
      rwa [hs.m] at this
  · intro i j d d' hi hj
    have key : ∀ i d, (s.set id c).get i = some d → ∃ d', s'.get i = some d' := fun i d hi => by
      by_cases e : i = id
      · subst e; exact ⟨c, hgi⟩
      · rw [St.set_ne _ _ _ _ e] at hi
        exact ⟨d, (hg i (hs.lt i d hi) e).trans hi⟩
    obtain ⟨d1, h1⟩ := key i d hi
    obtain ⟨d2, h2⟩ := key j d' hj
    exact hs'.sep i j d1 d2 h1 h2
def rdr (ws : List Str) (e : Int) : List AV := [TV ws, iv e]
theorem rdr_idf (ws : List Str) (e : Int) : idf.idfL (rdr ws e) = true := by
  show (idf (TV ws) && true) = true
  rw [tv_idf]
  rfl
theorem next_ax (s : St) (id : Nat) (w : Str) (r : List Str) (e : Int) (hi : s.get id = some (rdr (w :: r) e)) (hid : id < s.nx) (hl : r.length < 9223372036854775807) :
    ACall Tryz.prog 93 [.ptr id 0] s fun x s' => x = SV w ∧ s' = s.set id (rdr r e) := by
  refine acall_upd id _ hid (rdr_idf _ _) ?_
  have hD := TV_drop (w :: r) 1
  rw [List.drop_succ_cons, List.drop_zero] at hD
  have hn : ((w :: r).length : Int) = (r.length : Int) + 1 := rfl
  have hl2 : (w :: r).length = r.length + 1 := rfl
  have hd : (SL (w :: r)).head? = some (.v (.string (bs w))) := rfl
  rw [show (List.drop 1 (SL (w :: r))) = SL r from rfl] at hD
  unfold rdr TV iv at hi
  unfold rdr iv SV
  refine acall_of Tryz.func93 rfl rfl (by simp [Tryz.ntmps93]) ?_; rw [Tryz.ntmps93, Tryz.results93]
  refine go (cj rTI (cj @hi (cj @hd (cj @hn @hl2)))) ?_
  exact ⟨by rw [← hD]; rfl, fun i _ h => if_neg h⟩
theorem decS_by (z : Int) : By (decS z) := by
  intro c hc
  unfold decS at hc
  split at hc
  · simp at hc; omega
  · rcases List.mem_append.1 hc with hc | hc
    · split at hc
      · simp at hc; omega
      · cases hc
    · have := (isD_iff c).1 (decN_isD _ c hc)
      omega
theorem num_ax (s : St) (id : Nat) (w : Str) (r : List Str) (e : Int) (hw : By w) (hi : s.get id = some (rdr (w :: r) e)) (hid : id < s.nx) (hl : r.length < 9223372036854775807) :
    ACall Tryz.prog 94 [.ptr id 0] s fun x s' => x = NM (numV w).1 (numV w).2 ∧ s' = s.set id (rdr r (numE w e)) := by
  refine acall_upd id _ hid (rdr_idf _ _) ?_
  have hp := NumE.parse_any w hw
  unfold numV numE
  unfold parseV at hp
  generalize parseS w = p at *
  obtain ⟨m, x, e2⟩ := p
  simp only at hp ⊢
  have hnx : ∀ zc, ACall Tryz.prog 93 [.ptr id 0] (s.push zc) fun x s' => x = SV w ∧ s' = (s.push zc).set id (rdr r e) := fun zc => next_ax _ id w r e (by rw [St.push_ne _ _ _ (by omega)]; exact hi) (by rw [St.nx_push]; omega) hl
  have hid2 : id ≠ s.nx := by omega
  have hid3 : id ≠ s.nx + 1 := by omega
  unfold NM at hp ⊢
  unfold rdr iv at hnx ⊢
  clear hi
  by_cases he : e = 0
  · rw [if_pos he]
    subst he
    refine acall_of Tryz.func94 rfl rfl (by simp [Tryz.ntmps94]) ?_; rw [Tryz.ntmps94, Tryz.results94]
    refine go rTI ?_
    refine aw_reg fun K hK => ?_; refine rn rTI ?_; refine cont_go (hnx _) ?_; rintro _ s1 ⟨rfl, rfl⟩; refine rn rTI ?_; refine cont_pure hp ?_; refine rn rTI ?_; refine hK _ _ ?_; clear hK K
    refine go rTI ?_
    refine ifs ?_ ?_ <;> first | exact nope | intro hb
    refine go rTI ?_
    exact fun i h1 h2 => by rw [if_neg (by omega), if_neg (by omega), if_neg (by omega)]
  · rw [if_neg he]
    refine acall_of Tryz.func94 rfl rfl (by simp [Tryz.ntmps94]) ?_; rw [Tryz.ntmps94, Tryz.results94]
    refine go rTI ?_
    refine aw_reg fun K hK => ?_; refine rn rTI ?_; refine cont_go (hnx _) ?_; rintro _ s1 ⟨rfl, rfl⟩; refine rn rTI ?_; refine cont_pure hp ?_; refine rn rTI ?_; refine hK _ _ ?_; clear hK K
    refine go rTI ?_
    refine ifs ?_ ?_ <;> first | exact nope | intro hb
    refine go rTI ?_
    exact fun i h1 h2 => by rw [if_neg (by omega), if_neg (by omega), if_neg (by omega)]
theorem step_none (w : Str) (z : Int) (hz : ∀ n, stepS w = some n → z = n) (h : decS z ≠ w ∨ z < 0 ∨ 1000000000 < z) : stepS w = none := by
  cases hs : stepS w with
  | none => rfl
  | some n =>
    have := hz n hs
    obtain ⟨h1, h2, h3⟩ := step_le w n hs
    subst this
    rcases h with h | h | h
    · exact absurd h3 h
    · omega
    · omega
theorem step_ax (s : St) (id : Nat) (w : Str) (r : List Str) (e : Int) (hw : By w) (hwl : w.length ≤ 281474976710656) (hi : s.get id = some (rdr (w :: r) e)) (hid : id < s.nx) (hl : r.length < 9223372036854775807) :
    ACall Tryz.prog 144 [.ptr id 0] s fun x s' => (∃ n, x = iv n ∧ (stepE w e = 0 → n = stepV w)) ∧ s' = s.set id (rdr r (stepE w e)) := by
  refine acall_upd id _ hid (rdr_idf _ _) ?_
  have hnx := next_ax s id w r e hi hid hl
  have hat := atoi_any w hwl
  unfold rdr iv at hnx ⊢
  unfold SV at hnx hat
  clear hi
  refine acall_of Tryz.func144 rfl rfl (by simp [Tryz.ntmps144]) ?_; rw [Tryz.ntmps144, Tryz.results144]
  refine go rTI ?_
  refine aw_reg fun K hK => ?_; refine rn rTI ?_; refine cont_go hnx ?_; rintro _ s1 ⟨rfl, rfl⟩; refine rn rTI ?_; refine hK _ _ ?_; clear hK K
  refine go rTI ?_
  refine aw_reg fun K hK => ?_; refine rn rTI ?_; refine cont_go (hat _) ?_; rintro x s1 ⟨⟨z, v, rfl, z0, z1, hv⟩, rfl⟩; refine rn rTI ?_; refine hK _ _ ?_; clear hK K
  have hit := itoa_ax z z0 z1
  unfold SV at hit
  have hne := str_ne (decS z) w (decS_by z) hw
  have hx : ∀ b, stepE w b = if b = 0 then (if (stepS w).isSome then 0 else 3) else b := fun _ => rfl
  have hy : stepV w = (stepS w).getD 0 := rfl
  rw [hx, hy]
  by_cases he : e = 0
  · subst he
    rw [if_pos rfl]
    rcases hv with ⟨rfl, hz⟩ | ⟨⟨t, p, rfl⟩, hn⟩
    · have hc : ∀ b, (!decide (decS z = w)) = b → b = true → stepS w = none := fun b h1 h2 => by
        subst h1
        exact step_none w z hz (.inl (by simpa using h2))
      generalize hq : (!decide (decS z = w)) = b1 at *
      by_cases q2 : b1 = true ∨ z < 0 ∨ 1000000000 < z
      · have hn : stepS w = none := by
          rcases q2 with q2 | q2
          · exact hc b1 rfl q2
          · exact step_none w z hz (.inr q2)
        rw [hn]
        clear hz hc hq hn
        cases b1 with
        | true =>
          clear q2
          rw [then_normal]
          refine aw_seq ?_
          refine aw_seq ?_
          refine aw_reg fun K hK => ?_; refine rn (cj rTI @hne) ?_; refine cont_pure hit ?_; refine rn (cj rTI @hne) ?_; refine hK _ _ ?_; clear hK K
          refine ifs ?_ ?_ <;> first | exact nope | intro hb
          refine go rTI ?_
          exact ⟨⟨z, rfl, fun h => by simp at h⟩, rfl, fun i h1 h2 => if_neg h2⟩
        | false =>
          have q3 : z < 0 ∨ 1000000000 < z := by
            rcases q2 with q2 | q2
            · cases q2
            · exact q2
          clear q2
          rw [then_normal]
          refine aw_seq ?_
          refine aw_seq ?_
          rcases q3 with q3 | q3
          · refine aw_reg fun K hK => ?_; refine rn (cj rTI @hne) ?_; refine cont_pure hit ?_; refine rn (cj rTI @hne) ?_; refine hK _ _ ?_; clear hK K
            refine ifs ?_ ?_ <;> first | exact nope | intro hb
            refine go rTI ?_
            exact ⟨⟨z, rfl, fun h => by simp at h⟩, rfl, fun i h1 h2 => if_neg h2⟩
          · have q4 : ¬ z < 0 := by omega
            refine aw_reg fun K hK => ?_; refine rn (cj rTI @hne) ?_; refine cont_pure hit ?_; refine rn (cj rTI @hne) ?_; refine hK _ _ ?_; clear hK K
            refine ifs ?_ ?_ <;> first | exact nope | intro hb
            refine go rTI ?_
            exact ⟨⟨z, rfl, fun h => by simp at h⟩, rfl, fun i h1 h2 => if_neg h2⟩
      · have q3 : b1 = false := by
          cases b1
          · rfl
          · exact absurd (.inl rfl) q2
        subst q3
        have q4 : decS z = w := by simpa using hq
        have hn := dec_step z (by omega) (by omega)
        rw [q4] at hn
        rw [hn]
        clear hz hc hq hn
        rw [then_normal]
        refine aw_seq ?_
        refine aw_seq ?_
        refine aw_reg fun K hK => ?_; refine rn (cj rTI @hne) ?_; refine cont_pure hit ?_; refine rn (cj rTI @hne) ?_; refine hK _ _ ?_; clear hK K
        refine ifs ?_ ?_ <;> first | exact nope | intro hb
        refine go rTI ?_
        exact ⟨⟨z, rfl, fun _ => rfl⟩, rfl, fun i h1 h2 => if_neg h2⟩
    · rw [hn]
      refine go rTI ?_
      refine ifs ?_ ?_ <;> first | exact nope | intro hb
      refine go rTI ?_
      exact ⟨⟨z, rfl, fun h => by simp at h⟩, rfl, fun i h1 h2 => if_neg h2⟩
  · rw [if_neg he]
    refine go rTI ?_
    refine ifs ?_ ?_ <;> first | exact nope | intro hb
    refine go rTI ?_
    exact ⟨⟨z, rfl, fun h => absurd h he⟩, fun i h1 h2 => if_neg h2⟩
end Go.Proofs.YtfjelkjlfcafgaaGreatDoor.CardF
end
section
/- Cards: the reader: wave. -/
namespace Go.Proofs.YtfjelkjlfcafgaaGreatDoor.CardG
open Go Go.RowKit Go.Proofs.YtfjelkjlfcafgaaGreatDoor.Ax Go.Proofs.YtfjelkjlfcafgaaGreatDoor.Ti Go.Proofs.YtfjelkjlfcafgaaGreatDoor.NumS Go.Proofs.YtfjelkjlfcafgaaGreatDoor.NumT Go.Proofs.YtfjelkjlfcafgaaGreatDoor.CardS Go.Proofs.YtfjelkjlfcafgaaGreatDoor.CardP Go.Proofs.YtfjelkjlfcafgaaGreatDoor.CardA Go.Proofs.YtfjelkjlfcafgaaGreatDoor.CardB Go.Proofs.YtfjelkjlfcafgaaGreatDoor.CardC Go.Proofs.YtfjelkjlfcafgaaGreatDoor.CardD Go.Proofs.YtfjelkjlfcafgaaGreatDoor.CardE Go.Proofs.YtfjelkjlfcafgaaGreatDoor.CardF
open Go.Proofs.YtfjelkjlfcafgaaGreatDoor.NumA (NM)
set_option linter.unusedSimpArgs false
set_option linter.unusedVariables false
set_option maxRecDepth 4000
set_option maxHeartbeats 2000000
theorem rTI : type_of% (cj @ti3 (cj @ti4 (cj @ti9 (cj @ti5 (cj @ti36 (cj @ti63 (cj @ti62 (cj @ti24 (cj @ti65 (cj @ti25 (cj @ti144 (cj @ti146 (cj @Nat.zero_add (cj @tz0 (cj @tz1 (cj @tz3 (cj @Nat.mul_one @Int.toNat_natCast))))))))))))))))) := cj @ti3 (cj @ti4 (cj @ti9 (cj @ti5 (cj @ti36 (cj @ti63 (cj @ti62 (cj @ti24 (cj @ti65 (cj @ti25 (cj @ti144 (cj @ti146 (cj @Nat.zero_add (cj @tz0 (cj @tz1 (cj @tz3 (cj @Nat.mul_one @Int.toNat_natCast))))))))))))))))
def WA (w : Wv) : AV := .ag [iv w.kind, NV w.vals, IV w.steps]
theorem il_idf (l : List Int) : idf.idfL (IL l) = true := (idfL_iff _).2 fun z hz => by
  obtain ⟨x, _, rfl⟩ := List.mem_map.1 hz
  rfl
theorem nc_idf (l : List Num) : idf.idfL (NC l) = true := (idfL_iff _).2 fun z hz => by
  obtain ⟨x, _, hz⟩ := List.mem_flatMap.1 hz
  rcases List.mem_cons.1 hz with rfl | hz
  · rfl
  · rcases List.mem_cons.1 hz with rfl | hz
    · rfl
    · cases hz
theorem wa_idf (w : Wv) : idf (WA w) = true := by
  show (idf (iv w.kind) && (idf.idfL (NC w.vals) && (idf.idfL (IL w.steps) && true))) = true
  rw [nc_idf, il_idf]
  rfl
theorem il_len (l : List Int) : (IL l).length = l.length := by simp [IL]
theorem wv_lay {P : Program} {f : FuncId} {zs : List AV} {s : St} (id : Nat) (c : List AV) (R : Wv → Prop) (hid : id < s.nx) (hc : idf.idfL c = true)
    (h : ACall P f zs s fun x s' => ∃ W i j, R W ∧ x = .ag [iv W.kind, .own i 0 W.vals.length 2, .own j 0 W.steps.length 1] ∧ s.nx ≤ i ∧ s.nx ≤ j ∧ i ≠ j ∧ s'.get i = some (NC W.vals) ∧ s'.get j = some (IL W.steps) ∧ s'.get id = some c ∧ ∀ k, k < s.nx → k ≠ id → s'.get k = s.get k) :
    ACall P f zs s fun x s' => (∃ W, R W ∧ x = WA W) ∧ s' = s.set id c := by
  refine acall_upd id c hid hc (acall_lay (acall_lay (h.mono ?_)))
  rintro x s' ⟨W, i, j, hR, rfl, h1, h2, h3, h4, h5, h6, h7⟩
  have e1 : (NC W.vals).take (W.vals.length * 2) = NC W.vals := by rw [← nc_len, List.take_length]
  have e2 : (IL W.steps).take (W.steps.length * 1) = IL W.steps := by rw [Nat.mul_one, ← il_len, List.take_length]
  have e3 : frz.frzL j (IL W.steps) (NC W.vals) = NC W.vals := by
    apply List.ext_getElem?
    intro q
    rw [frzL_get]
    cases h : (NC W.vals)[q]? with
    | none => rfl
    | some z =>
      rw [Option.map_some, frz_idf]
      exact (idfL_iff _).1 (nc_idf W.vals) z (List.mem_of_getElem? h)
  have key : frz j (IL W.steps) (frz i (NC W.vals) (.ag [iv W.kind, .own i 0 W.vals.length 2, .own j 0 W.steps.length 1])) = WA W := by
    have e4 : ¬ j = i := fun h => h3 h.symm
    simp only [frz, frz.frzL, iv, if_true, if_neg e4, List.drop_zero, e1, e2, e3]
    rfl
  refine ⟨i, NC W.vals, fun _ => false, h4, j, IL W.steps, fun _ => false, by rw [frz_false _ _ _ _ (by omega)]; exact h5, ⟨W, hR, key⟩, ?_, ?_, fun k hk hk2 => ?_⟩
  · rw [key]; exact wa_idf W
  · rw [frz_false _ _ _ _ (by omega), frz_false _ _ _ _ (by omega)]
    exact h6
  · rw [frz_false _ _ _ _ (by omega), frz_false _ _ _ _ (by omega)]
    exact h7 k hk hk2
theorem zr2 (x y : Value) : zrow [x, y] 2 = [.v x, .v y] := by simp [zrow, List.range_succ]
theorem zr4 (x y : Value) : zrow [x, y] 4 = [.v x, .v y, .v x, .v y] := by simp [zrow, List.range_succ]
structure WI (s s' : St) (id bw iV iS : Nat) (kd : Int) (V : List Num) (S : List Int) (ws : List Str) (e : Int) : Prop where
  r : s'.get id = some (rdr ws e)
  b : s'.get bw = some [iv kd, .own iV 0 V.length 2, .own iS 0 S.length 1]
  v : s'.get iV = some (NC V)
  t : s'.get iS = some (IL S)
  o : s.nx < bw ∧ s.nx < iV ∧ s.nx < iS ∧ bw < s'.nx ∧ iV < s'.nx ∧ iS < s'.nx ∧ bw ≠ iV ∧ bw ≠ iS ∧ iV ≠ iS
  z : s'.get s.nx = some [.v (.int .i64 0), .v (.slice none 0 0), .v (.slice none 0 0)]
  fr : ∀ k, k < s.nx → k ≠ id → s'.get k = s.get k
theorem WI.num {s s' : St} {id bw iV iS : Nat} {kd : Int} {V : List Num} {S : List Int} {ws : List Str} {e : Int} (h : WI s s' id bw iV iS kd V S ws e) (hid : id < s.nx) (n : Num) (ws2 : List Str) (e2 : Int) :
    WI s (((((s'.set id (rdr ws2 e2)).push [iv n.1, iv n.2]).kill iV).push (NC V ++ [iv n.1, iv n.2])).set bw [iv kd, .own (s'.nx + 1) 0 (V.length + 1) 2, .own iS 0 S.length 1]) id bw (s'.nx + 1) iS kd (V ++ [n]) S ws2 e2 := by
  obtain ⟨o1, o2, o3, o4, o5, o6, o7, o8, o9⟩ := h.o
  have hn : (((((s'.set id (rdr ws2 e2)).push [iv n.1, iv n.2]).kill iV).push (NC V ++ [iv n.1, iv n.2])).set bw [iv kd, .own (s'.nx + 1) 0 (V.length + 1) 2, .own iS 0 S.length 1]).nx = s'.nx + 2 := rfl
  have hg : ∀ k c, k ≠ bw → k ≠ s'.nx + 1 → k ≠ iV → k ≠ s'.nx → k ≠ id → s'.get k = c → (((((s'.set id (rdr ws2 e2)).push [iv n.1, iv n.2]).kill iV).push (NC V ++ [iv n.1, iv n.2])).set bw [iv kd, .own (s'.nx + 1) 0 (V.length + 1) 2, .own iS 0 S.length 1]).get k = c := fun k c h1 h2 h3 h4 h5 h6 => by
    rw [St.set_ne _ _ _ _ h1, St.push_ne _ _ _ h2, St.kill_ne _ _ _ h3, St.push_ne (s'.set id _) _ _ h4, St.set_ne _ _ _ _ h5]
    exact h6
  refine ⟨?_, ?_, ?_, hg _ _ (by omega) (by omega) (by omega) (by omega) (by omega) h.t, ⟨o1, by omega, o3, by omega, by omega, by omega, by omega, o8, by omega⟩, hg _ _ (by omega) (by omega) (by omega) (by omega) (by omega) h.z, fun k h1 h2 => hg _ _ (by omega) (by omega) (by omega) (by omega) h2 (h.fr k h1 h2)⟩
  · rw [St.set_ne _ _ _ _ (by omega), St.push_ne _ _ _ (show id ≠ s'.nx + 1 by omega), St.kill_ne _ _ _ (by omega), St.push_ne (s'.set id _) _ _ (show id ≠ s'.nx by omega)]
    exact St.set_same _ _ _
  · rw [St.set_same, List.length_append]
    rfl
  · rw [St.set_ne _ _ _ _ (by omega)]
    have : NC (V ++ [n]) = NC V ++ [iv n.1, iv n.2] := by simp [NC]
    rw [this]
    exact St.push_same _ _
theorem WI.step {s s' : St} {id bw iV iS : Nat} {kd : Int} {V : List Num} {S : List Int} {ws : List Str} {e : Int} (h : WI s s' id bw iV iS kd V S ws e) (hid : id < s.nx) (n : Int) (ws2 : List Str) (e2 : Int) :
    WI s (((((s'.set id (rdr ws2 e2)).push [iv n]).kill iS).push (IL S ++ [iv n])).set bw [iv kd, .own iV 0 V.length 2, .own (s'.nx + 1) 0 (S.length + 1) 1]) id bw iV (s'.nx + 1) kd V (S ++ [n]) ws2 e2 := by
  obtain ⟨o1, o2, o3, o4, o5, o6, o7, o8, o9⟩ := h.o
  have hg : ∀ k c, k ≠ bw → k ≠ s'.nx + 1 → k ≠ iS → k ≠ s'.nx → k ≠ id → s'.get k = c → (((((s'.set id (rdr ws2 e2)).push [iv n]).kill iS).push (IL S ++ [iv n])).set bw [iv kd, .own iV 0 V.length 2, .own (s'.nx + 1) 0 (S.length + 1) 1]).get k = c := fun k c h1 h2 h3 h4 h5 h6 => by
    rw [St.set_ne _ _ _ _ h1, St.push_ne _ _ _ h2, St.kill_ne _ _ _ h3, St.push_ne (s'.set id _) _ _ h4, St.set_ne _ _ _ _ h5]
    exact h6
  have hn : (((((s'.set id (rdr ws2 e2)).push [iv n]).kill iS).push (IL S ++ [iv n])).set bw [iv kd, .own iV 0 V.length 2, .own (s'.nx + 1) 0 (S.length + 1) 1]).nx = s'.nx + 2 := rfl
  refine ⟨?_, ?_, hg _ _ (by omega) (by omega) (by omega) (by omega) (by omega) h.v, ?_, ⟨o1, o2, by omega, by omega, by omega, by omega, o7, by omega, by omega⟩, hg _ _ (by omega) (by omega) (by omega) (by omega) (by omega) h.z, fun k h1 h2 => hg _ _ (by omega) (by omega) (by omega) (by omega) h2 (h.fr k h1 h2)⟩
  · rw [St.set_ne _ _ _ _ (by omega), St.push_ne _ _ _ (show id ≠ s'.nx + 1 by omega), St.kill_ne _ _ _ (by omega), St.push_ne (s'.set id _) _ _ (show id ≠ s'.nx by omega)]
    exact St.set_same _ _ _
  · rw [St.set_same, List.length_append]
    rfl
  · rw [St.set_ne _ _ _ _ (by omega)]
    have : IL (S ++ [n]) = IL S ++ [iv n] := by simp [IL]
    rw [this]
    exact St.push_same _ _
def nilS : AV := .v (.slice none 0 0)
def wz : List AV := [.v (.int .i64 0), .v (.slice none 0 0), .v (.slice none 0 0)]
theorem WI.init (s : St) (id : Nat) (hid : id < s.nx) (kd : Int) (r : List Str) (e : Int) (s0 s1 s2 : St) (h0 : s0 = (((s.push wz).set id (rdr r e)).push wz).set (s.nx + 1) [iv kd, nilS, nilS])
    (h1 : s1 = (s0.push []).set (s.nx + 1) ([iv kd, nilS, nilS].set 1 (.own s0.nx 0 0 2))) (h2 : s2 = (s1.push []).set (s.nx + 1) (([iv kd, nilS, nilS].set 1 (.own s0.nx 0 0 2)).set 2 (.own s1.nx 0 0 1))) :
    WI s s2 id (s.nx + 1) (s.nx + 2) (s.nx + 3) kd [] [] r e := by
  have n0 : s0.nx = s.nx + 2 := by rw [h0]; rfl
  have n1 : s1.nx = s.nx + 3 := by rw [h1]; show s0.nx + 1 = _; omega
  have n2 : s2.nx = s.nx + 4 := by rw [h2]; show s1.nx + 1 = _; omega
  have hg : ∀ k c, k ≠ s.nx + 1 → k ≠ s.nx + 2 → k ≠ s.nx + 3 → ((s.push wz).set id (rdr r e)).get k = c → s2.get k = c := fun k c q1 q2 q3 q4 => by
    rw [h2, St.set_ne _ _ _ _ q1, St.push_ne s1 _ _ (by omega), h1, St.set_ne _ _ _ _ q1, St.push_ne s0 _ _ (by omega), h0, St.set_ne _ _ _ _ q1, St.push_ne ((s.push wz).set id _) _ _ (by rw [St.nx_set, St.nx_push]; omega)]
    exact q4
  refine ⟨hg _ _ (by omega) (by omega) (by omega) (St.set_same _ _ _), ?_, ?_, ?_, ⟨by omega, by omega, by omega, by omega, by omega, by omega, by omega, by omega, by omega⟩, hg _ _ (by omega) (by omega) (by omega) ?_, fun k q1 q2 => hg _ _ (by omega) (by omega) (by omega) ?_⟩
  · rw [h2, St.set_same, n0, n1]
    rfl
  · rw [h2, St.set_ne _ _ _ _ (by omega), St.push_ne s1 _ _ (by omega), h1, St.set_ne _ _ _ _ (by omega)]
    have := St.push_same s0 []
    rw [n0] at this
    exact this
  · rw [h2, St.set_ne _ _ _ _ (by omega)]
    have := St.push_same s1 []
    rw [n1] at this
    exact this
  · rw [St.set_ne _ _ _ _ (by omega)]
    exact St.push_same s wz
  · rw [St.set_ne _ _ _ _ q2, St.push_ne s _ _ (by omega)]
theorem numE_le (w : Str) (e : Int) (h : numE w e = 0) : e = 0 := by
  unfold numE at h
  split at h
  · assumption
  · exact h
theorem steps_le (l : List Str) : ∀ e, stepsE l e = 0 → e = 0 := by
  induction l with
  | nil => exact fun e h => h
  | cons a l ih => exact fun e h => stepE_le a e (ih _ h)
theorem pairs_le : ∀ (l : List Str) (e : Int), pairsE l e = 0 → e = 0
  | [], e, h => h
  | [_], e, h => h
  | a :: b :: l, e, h => stepE_le a e (numE_le b _ (pairs_le l _ h))
theorem WI.init2 (s s0 s1 s2 : St) (id : Nat) (hid : id < s.nx) (kd : Int) (V : List Num) (c : List AV) (r : List Str) (e : Int) (n0 : s0.nx = s.nx + 1) (g0 : s0.get id = some (rdr r e)) (z0 : s0.get s.nx = some wz) (f0 : ∀ k, k < s.nx → k ≠ id → s0.get k = s.get k) (hc : c = NC V)
    (h1 : s1 = ((s0.push c).push wz).set (s.nx + 2) [iv kd, .own (s.nx + 1) 0 V.length 2, nilS]) (h2 : s2 = (s1.push []).set (s.nx + 2) ([iv kd, .own (s.nx + 1) 0 V.length 2, nilS].set 2 (.own s1.nx 0 0 1))) :
    WI s s2 id (s.nx + 2) (s.nx + 1) (s.nx + 3) kd V [] r e := by
  have n1 : s1.nx = s.nx + 3 := by rw [h1]; show s0.nx + 1 + 1 = _; omega
  have n2 : s2.nx = s.nx + 4 := by rw [h2]; show s1.nx + 1 = _; omega
  have hg : ∀ k c, k ≠ s.nx + 1 → k ≠ s.nx + 2 → k ≠ s.nx + 3 → s0.get k = c → s2.get k = c := fun k c q1 q2 q3 q4 => by
    rw [h2, St.set_ne _ _ _ _ q2, St.push_ne s1 _ _ (by omega), h1, St.set_ne _ _ _ _ q2, St.push_ne (s0.push _) _ _ (by rw [St.nx_push]; omega), St.push_ne s0 _ _ (by omega)]
    exact q4
  refine ⟨hg _ _ (by omega) (by omega) (by omega) g0, ?_, ?_, ?_, ⟨by omega, by omega, by omega, by omega, by omega, by omega, by omega, by omega, by omega⟩, hg _ _ (by omega) (by omega) (by omega) z0, fun k q1 q2 => hg _ _ (by omega) (by omega) (by omega) (f0 k q1 q2)⟩
  · rw [h2, St.set_same, n1]
    rfl
  · rw [h2, St.set_ne _ _ _ _ (by omega), St.push_ne s1 _ _ (by omega), h1, St.set_ne _ _ _ _ (by omega), St.push_ne (s0.push _) _ _ (by rw [St.nx_push]; omega), hc]
    have := St.push_same s0 (NC V)
    rw [n0] at this
    exact this
  · rw [h2, St.set_ne _ _ _ _ (by omega)]
    have := St.push_same s1 []
    rw [n1] at this
    exact this
theorem wave_ax (s : St) (id : Nat) (ws : List Str) (e : Int) (hw : BL ws) (hwl : ∀ w ∈ ws, w.length ≤ 281474976710656) (hi : s.get id = some (rdr ws e)) (hid : id < s.nx) (hl : ws.length ≤ 10000) (hv : waveWords ws = true) :
    ACall Tryz.prog 95 [.ptr id 0] s fun x s' => (∃ W, ((waveR ws e).2 = 0 → W = (waveR ws e).1) ∧ x = WA W) ∧ s' = s.set id (rdr [] (waveR ws e).2) := by
  refine wv_lay id _ _ hid (rdr_idf _ _) ?_
  cases ws with
  | nil => cases hv
  | cons kw r =>
    have hk : By kw := hw kw (List.mem_cons_self ..)
    have e1 := str_eq kw sDc hk (by_lit _ rfl)
    have e2 := str_eq kw sPulse hk (by_lit _ rfl)
    have e3 := str_eq kw sPwl hk (by_lit _ rfl)
    have e4 := str_eq kw sTable hk (by_lit _ rfl)
    rw [show bs sDc = ByteArray.mk #[100, 99] from rfl] at e1
    rw [show bs sPulse = ByteArray.mk #[112, 117, 108, 115, 101] from rfl] at e2
    rw [show bs sPwl = ByteArray.mk #[112, 119, 108] from rfl] at e3
    rw [show bs sTable = ByteArray.mk #[116, 97, 98, 108, 101] from rfl] at e4
    have hd : (SL (kw :: r)).head? = some (.v (.string (bs kw))) := rfl
    have hi2 : s.get id = some [.sl (r.length + 1) (SL (kw :: r)), .v (.int .i64 e)] := hi
    have hnx : ∀ zc, ACall Tryz.prog 93 [.ptr id 0] (s.push zc) fun x s' => x = SV kw ∧ s' = (s.push zc).set id (rdr r e) := fun zc => next_ax _ id kw r e (by rw [St.push_ne _ _ _ (by omega)]; exact hi) (by rw [St.nx_push]; omega) (by rw [List.length_cons] at hl; omega)
    have hid2 : id ≠ s.nx := by omega
    refine acall_of Tryz.func95 rfl rfl (by simp [Tryz.ntmps95]) ?_; rw [Tryz.ntmps95, Tryz.results95]
    refine go (cj rTI (cj @hi2 (cj @hd @e2))) ?_
    by_cases q1 : kw = sPulse
    · have hw1 : waveWords (kw :: r) = decide (r.length = 7) := by
        show (if kw = sDc then _ else if kw = sPulse then _ else if kw = sPwl then _ else if kw = sTable then _ else _) = _
        rw [q1, if_neg (by decide), if_pos rfl]
      have hr1 : waveR (kw :: r) e = (⟨2, (r.take 2).map numV, (r.drop 2).map stepV⟩, stepsE (r.drop 2) (numsE (r.take 2) e)) := by
        show (if kw = sPulse then _ else if kw = sPwl then _ else if kw = sTable then _ else _) = _
        rw [if_pos q1]
      rw [hr1, decide_eq_true q1]
      rw [hw1, decide_eq_true_eq] at hv
      clear e1 e2 e3 e4 hr1 hw1
      match r, hv with
      | a :: b :: r, hv =>
        rw [List.length_cons, List.length_cons] at hv
        have ha : By a := hw a (by simp)
        have hb2 : By b := hw b (by simp)
        have hr5 : r.length = 5 := by omega
        rw [show List.take 2 (a :: b :: r) = [a, b] from rfl, show List.drop 2 (a :: b :: r) = r from rfl, show List.map numV [a, b] = [numV a, numV b] from rfl, show numsE [a, b] e = numE b (numE a e) from rfl]
        have hn1 := fun zc => num_ax ((s.push zc).set id (rdr (a :: b :: r) e)) id a (b :: r) e ha (St.set_same _ _ _) (by rw [St.nx_set, St.nx_push]; omega) (by rw [List.length_cons]; omega)
        have hn2 := fun zc => num_ax (((s.push zc).set id (rdr (a :: b :: r) e)).set id (rdr (b :: r) (numE a e))) id b r (numE a e) hb2 (St.set_same _ _ _) (by rw [St.nx_set, St.nx_set, St.nx_push]; omega) (by omega)
        generalize numE b (numE a e) = ef at *
        generalize numE a e = eg at *
        unfold NM at hn1 hn2
        generalize numV a = n1 at *
        generalize numV b = n2 at *
        refine ifs ?_ ?_ <;> first | exact nope | intro hb
        refine aw_seq ?_
        refine aw_reg fun K hK => ?_; refine rn rTI ?_; refine cont_go (hnx _) ?_; rintro _ s1 ⟨rfl, rfl⟩; refine rn rTI ?_; refine hK _ _ ?_; clear hK K
        refine go rTI ?_
        refine aw_reg fun K hK => ?_; refine rn (cj rTI @zr4) ?_; refine cont_go (hn1 _) ?_; rintro _ s1 ⟨rfl, rfl⟩; refine rn rTI ?_; refine cont_go (hn2 _) ?_; rintro _ s1 ⟨rfl, rfl⟩; refine rn (cj rTI @zr4) ?_; refine hK _ _ ?_; clear hK K
        refine go rTI ?_
        refine aw_nil_box (s.nx + 1 + 1) 2 1 _ (St.set_same _ _ _) rfl ?_
        have h0 := WI.init2 s ((((s.push wz).set id (rdr (a :: b :: r) e)).set id (rdr (b :: r) eg)).set id (rdr r ef)) _ _ id hid 2 [n1, n2] (NC [n1, n2]) r ef rfl (St.set_same _ _ _) (by rw [St.set_ne _ _ _ _ (by omega), St.set_ne _ _ _ _ (by omega), St.set_ne _ _ _ _ (by omega)]; exact St.push_same s wz) (fun k h1 h2 => by rw [St.set_ne _ _ _ _ h2, St.set_ne _ _ _ _ h2, St.set_ne _ _ _ _ h2, St.push_ne s _ _ (by omega)]) rfl rfl rfl
        clear hnx hn1 hn2 hi hi2 hd
        refine aw_loop (fun m e' s' => ∃ q e1 S iS, m = q.length ∧ e'.n = 86 ∧ e'.m 0 = .ptr id 0 ∧ e'.m 2 = .ptr s.nx 0 ∧ e'.m 3 = .ptr (s.nx + 1 + 1) 0 ∧ e'.m 22 = .v (.int .i64 (S.length : Nat)) ∧ WI s s' id (s.nx + 1 + 1) (s.nx + 1) iS 2 [n1, n2] S q e1 ∧ stepsE r ef = stepsE q e1 ∧ (stepsE r ef = 0 → r.map stepV = S ++ q.map stepV) ∧ S.length + q.length = 5 ∧ (∀ w ∈ q, w ∈ r)) r.length ?_ ?_
        · refine ⟨r, ef, [], s.nx + 3, rfl, ?_, ?_, ?_, ?_, ?_, h0, rfl, fun _ => rfl, by rw [List.length_nil]; omega, fun _ h => h⟩
          all_goals ((first | refine rn rTI ?_ | exact rn0 rTI))
          all_goals trivial
        · rintro m e' s' ⟨q, e1, S, iS, rfl, h1, k0, k2, k3, k22, hW, hE, hS, hsl, hm⟩
          have gb : s'.get (s.nx + 1 + 1) = some [.v (.int .i64 2), .own (s.nx + 1) 0 2 2, .own iS 0 S.length 1] := hW.b
          have gz := hW.z
          obtain ⟨o1, o2, o3, o4, o5, o6, o7, o8, o9⟩ := hW.o
          clear h0
          match q with
          | [] =>
            have h5 : (S.length : Int) = 5 := by rw [List.length_nil] at hsl; omega
            refine go (cj rTI (cj @h1 (cj @k22 @h5))) ?_
            refine ifs ?_ ?_ <;> first | exact nope | intro hb
            refine go (cj rTI (cj @h1 (cj @k0 (cj @k2 (cj @k3 (cj @gb @gz)))))) ?_
            rw [List.map_nil, List.append_nil] at hS
            have hE' : stepsE r ef = e1 := hE
            rw [hE'] at hS ⊢
            exact ⟨⟨2, [n1, n2], S⟩, s.nx + 1, iS, fun h => by rw [hS h], rfl, by omega, by omega, o9, by rw [if_neg (by omega)]; exact hW.v, by rw [if_neg (by omega)]; exact hW.t, hW.r, fun k h1 h2 => by rw [if_neg (by omega)]; exact hW.fr k h1 h2⟩
          | a' :: q =>
            rw [List.length_cons] at hsl
            have h5 : (S.length : Int) < 5 := by omega
            have ha2 : By a' := hw a' (by have := hm a' (by simp); simp [this])
            have hal := hwl a' (by have := hm a' (by simp); simp [this])
            have hst := step_ax s' id a' q e1 ha2 hal hW.r (by omega) (by omega)
            have gt := hW.t
            have nl := il_len S
            have hEE : stepsE (a' :: q) e1 = stepsE q (stepE a' e1) := rfl
            rw [hEE] at hE
            clear hEE
            unfold iv at hst
            refine go (cj rTI (cj @h1 @k22)) ?_
            refine ifs ?_ ?_ <;> first | exact nope | intro hb
            refine aw_skip ?_
            refine go rTI ?_
            refine aw_drwR (.take 0 (.take 1 (.take 2 (.one 3 (.one 4 (.one 5 (.done))))))) 6 [7] [s.nx + 1 + 1] (by kernel_rfl) (by kernel_rfl) fun K hK => ?_; refine dt (cj rTI (cj @h1 (cj @k0 (cj @k3 (cj @gb (cj @gt @nl)))))) ?_; refine cont_go hst ?_; rintro x s1 ⟨⟨n, rfl, hn⟩, rfl⟩; refine dt (cj rTI (cj @h1 (cj @k0 (cj @k3 (cj @gb (cj @gt @nl)))))) ?_; refine hK _ _ ?_; clear hK K
            refine go (cj rTI (cj @h1 @k22)) ?_
            simp only [block_normal, loop_normal]
            have hW2 := hW.step (by omega) n q (stepE a' e1)
            have hS2 : stepsE r ef = 0 → List.map stepV r = (S ++ [n]) ++ List.map stepV q := fun h => by
              rw [hS h]
              rw [hE] at h
              rw [hn (steps_le _ _ h)]
              simp
            refine ⟨q.length, by rw [List.length_cons]; omega, q, stepE a' e1, S ++ [n], s'.nx + 1, rfl, ?_, ?_, ?_, ?_, ?_, hW2, hE, hS2, by rw [List.length_append]; simp; omega, fun w hw => hm w (List.mem_cons_of_mem _ hw)⟩
            all_goals ((first | refine rn (cj @h1 (cj @k0 (cj @k2 @k3))) ?_ | exact rn0 (cj @h1 (cj @k0 (cj @k2 @k3)))))
            all_goals first | trivial | (rw [List.length_append]; rfl)
    rw [decide_eq_false q1]
    refine ifs ?_ ?_ <;> first | exact nope | intro hb
    refine go (cj rTI @e3) ?_
    by_cases q2 : kw = sPwl
    · have hw1 : waveWords (kw :: r) = decide (2 ≤ r.length ∧ r.length % 2 = 0 ∧ r.length ≤ 32) := by
        show (if kw = sDc then _ else if kw = sPulse then _ else if kw = sPwl then _ else if kw = sTable then _ else _) = _
        rw [q2, if_neg (by decide), if_neg (by decide), if_pos rfl]
      have hr1 : waveR (kw :: r) e = (⟨3, (odds r).map numV, (evens r).map stepV⟩, pairsE r e) := by
        show (if kw = sPulse then _ else if kw = sPwl then _ else if kw = sTable then _ else _) = _
        rw [if_neg q1, if_pos q2]
      rw [hr1, decide_eq_true q2]
      rw [hw1, decide_eq_true_eq] at hv
      obtain ⟨hv1, hv2, hv3⟩ := hv
      clear e1 e2 e3 e4 hr1 hw1
      refine ifs ?_ ?_ <;> first | exact nope | intro hb
      refine aw_seq ?_
      refine aw_reg fun K hK => ?_; refine rn rTI ?_; refine cont_go (hnx _) ?_; rintro _ s1 ⟨rfl, rfl⟩; refine rn rTI ?_; refine hK _ _ ?_; clear hK K
      refine go rTI ?_
      refine aw_nil_box (s.nx + 1) 1 2 _ (St.set_same _ _ _) rfl ?_
      refine aw_nil_box (s.nx + 1) 2 1 _ (St.set_same _ _ _) rfl ?_
      have h0 := WI.init s id hid 3 r e _ _ _ rfl rfl rfl
      refine aw_loop (fun m e' s' => ∃ q e1 V S iV iS, m = q.length ∧ e'.n = 86 ∧ e'.m 0 = .ptr id 0 ∧ e'.m 2 = .ptr s.nx 0 ∧ e'.m 4 = .ptr (s.nx + 1) 0 ∧ WI s s' id (s.nx + 1) iV iS 3 V S q e1 ∧ pairsE r e = pairsE q e1 ∧ (odds r).map numV = V ++ (odds q).map numV ∧ (pairsE r e = 0 → (evens r).map stepV = S ++ (evens q).map stepV) ∧ q.length % 2 = 0 ∧ V.length + q.length ≤ 32 ∧ S.length + q.length ≤ 32 ∧ (∀ w ∈ q, w ∈ r)) r.length ?_ ?_
      · refine ⟨r, e, [], [], s.nx + 2, s.nx + 3, rfl, ?_, ?_, ?_, ?_, h0, rfl, rfl, fun _ => rfl, hv2, by simp; omega, by simp; omega, fun _ h => h⟩
        all_goals (exact rn0 rTI)
        all_goals trivial
      · rintro m e' s' ⟨q, e1, V, S, iV, iS, rfl, h1, k0, k2, k4, hW, hE, hV, hS, hm2, hvl, hsl, hm⟩
        have hr : s'.get id = some [.sl q.length (SL q), .v (.int .i64 e1)] := hW.r
        have gb : s'.get (s.nx + 1) = some [.v (.int .i64 3), .own iV 0 V.length 2, .own iS 0 S.length 1] := hW.b
        have gz := hW.z
        obtain ⟨o1, o2, o3, o4, o5, o6, o7, o8, o9⟩ := hW.o
        clear h0 hi hi2 hd hnx
        match q with
        | [] =>
          refine go (cj rTI (cj @h1 (cj @k0 @hr))) ?_
          refine ifs ?_ ?_ <;> first | exact nope | intro hb
          refine go (cj rTI (cj @h1 (cj @k0 (cj @k2 (cj @k4 (cj @hr (cj @gb @gz))))))) ?_
          have hV' : List.map numV (odds r) = V := by rw [hV]; simp [odds]
          have hS' : pairsE r e = 0 → List.map stepV (evens r) = S := fun h => by rw [hS h]; simp [evens]
          rw [hV']
          have hE' : pairsE r e = e1 := hE
          rw [hE'] at hS' ⊢
          exact ⟨⟨3, V, S⟩, iV, iS, fun h => by rw [hS' h], rfl, by omega, by omega, o9, by rw [if_neg (by omega)]; exact hW.v, by rw [if_neg (by omega)]; exact hW.t, rfl, fun k h1 h2 => by rw [if_neg (by omega)]; exact hW.fr k h1 h2⟩
        | [x] => simp at hm2
        | a :: b :: q =>
          have ha : By a := hw a (List.mem_cons_of_mem _ (hm a (by simp)))
          have hal := hwl a (List.mem_cons_of_mem _ (hm a (by simp)))
          have hb2 : By b := hw b (List.mem_cons_of_mem _ (hm b (by simp)))
          rw [List.length_cons, List.length_cons] at hm2 hvl hsl
          have hst := step_ax s' id a (b :: q) e1 ha hal hW.r (by omega) (by rw [List.length_cons]; omega)
          have gt := hW.t
          have nl := il_len S
          have hEE : pairsE (a :: b :: q) e1 = pairsE q (numE b (stepE a e1)) := rfl
          rw [hEE] at hE
          clear hEE
          refine go (cj rTI (cj @h1 (cj @k0 @hr))) ?_
          refine ifs ?_ ?_ <;> first | exact nope | intro hb
          refine aw_skip ?_
          refine go rTI ?_
          refine aw_only (fun e'' s'' => ∃ n iS', e''.n = 86 ∧ e''.m 0 = .ptr id 0 ∧ e''.m 2 = .ptr s.nx 0 ∧ e''.m 4 = .ptr (s.nx + 1) 0 ∧ WI s s'' id (s.nx + 1) iV iS' 3 V (S ++ [n]) (b :: q) (stepE a e1) ∧ (stepE a e1 = 0 → n = stepV a)) ?_ ?_
          · unfold iv at hst
            refine aw_drwR (.take 0 (.take 1 (.take 2 (.one 3 (.one 4 (.one 5 (.done))))))) 6 [7] [s.nx + 1] (by kernel_rfl) (by kernel_rfl) fun K hK => ?_; refine dt (cj rTI (cj @h1 (cj @k0 (cj @k4 (cj @gb (cj @gt @nl)))))) ?_; refine cont_go hst ?_; rintro x s1 ⟨⟨n, rfl, hn⟩, rfl⟩; refine dt (cj rTI (cj @h1 (cj @k0 (cj @k4 (cj @gb (cj @gt @nl)))))) ?_; refine hK _ _ ?_; clear hK K
            refine ⟨rfl, n, s'.nx + 1, ?_, ?_, ?_, ?_, hW.step (by omega) n (b :: q) (stepE a e1), hn⟩
            all_goals (exact rn0 (cj @h1 (cj @k0 (cj @k2 @k4))))
            all_goals trivial
          · clear hW hst gt nl gb gz h1 k0 k2 k4 o1 o2 o3 o4 o5 o6 o7 o8 o9 hr
            rintro e'' s'' ⟨n, iS', h1, k0, k2, k4, hW, hn⟩
            rw [then_normal]
            have hr : s''.get id = some [.sl (q.length + 1) (SL (b :: q)), .v (.int .i64 (stepE a e1))] := hW.r
            have gb : s''.get (s.nx + 1) = some [.v (.int .i64 3), .own iV 0 V.length 2, .own iS' 0 (S ++ [n]).length 1] := hW.b
            have gv := hW.v
            have nl := nc_len V
            obtain ⟨o1, o2, o3, o4, o5, o6, o7, o8, o9⟩ := hW.o
            have hnu := num_ax s'' id b q (stepE a e1) hb2 hW.r (by omega) (by omega)
            have hW2 := hW.num hid (numV b) q (numE b (stepE a e1))
            unfold NM at hnu
            have hS2 : pairsE r e = 0 → List.map stepV (evens r) = (S ++ [n]) ++ List.map stepV (evens q) := fun h => by
              rw [hS h]
              rw [hE] at h
              rw [hn (numE_le _ _ (pairs_le _ _ h))]
              simp [evens]
            have hV2 : List.map numV (odds r) = (V ++ [numV b]) ++ List.map numV (odds q) := by rw [hV]; simp [odds]
            have hsl2 : (S ++ [n]).length + q.length ≤ 32 := by rw [List.length_append]; simp; omega
            have hvl2 : (V ++ [numV b]).length + q.length ≤ 32 := by rw [List.length_append]; simp; omega
            clear hn hS hV hsl
            generalize numE b (stepE a e1) = e2 at *
            generalize numV b = n2 at *
            generalize S ++ [n] = S2 at *
            refine aw_drwR (.take 0 (.take 1 (.take 2 (.one 3 (.one 4 (.one 5 (.done))))))) 6 [7] [s.nx + 1] (by kernel_rfl) (by kernel_rfl) fun K hK => ?_; refine dt (cj rTI (cj @h1 (cj @k0 (cj @k4 (cj @gb (cj @gv (cj @nl @zr2))))))) ?_; refine cont_go hnu ?_; rintro _ s1 ⟨rfl, rfl⟩; refine dt (cj rTI (cj @h1 (cj @k0 (cj @k4 (cj @gb (cj @gv (cj @nl @zr2))))))) ?_; refine hK _ _ ?_; clear hK K
            simp only [block_normal, loop_normal]
            refine ⟨q.length, by rw [List.length_cons, List.length_cons]; omega, q, e2, V ++ [n2], S2, s''.nx + 1, iS', rfl, ?_, ?_, ?_, ?_, hW2, hE, hV2, hS2, by omega, hvl2, hsl2, fun w hw => hm w (List.mem_cons_of_mem _ (List.mem_cons_of_mem _ hw))⟩
            all_goals (exact rn0 (cj @h1 (cj @k0 (cj @k2 @k4))))
            all_goals trivial
    rw [decide_eq_false q2]
    refine ifs ?_ ?_ <;> first | exact nope | intro hb
    refine go (cj rTI @e4) ?_
    by_cases q3 : kw = sTable
    · have hr1 : waveR (kw :: r) e = (⟨4, r.map numV, []⟩, numsE r e) := by
        show (if kw = sPulse then _ else if kw = sPwl then _ else if kw = sTable then _ else _) = _
        rw [if_neg q1, if_neg q2, if_pos q3]
      rw [hr1, decide_eq_true q3]
      clear e1 e2 e3 e4 hr1 hv
      refine ifs ?_ ?_ <;> first | exact nope | intro hb
      refine aw_seq ?_
      refine aw_reg fun K hK => ?_; refine rn rTI ?_; refine cont_go (hnx _) ?_; rintro _ s1 ⟨rfl, rfl⟩; refine rn rTI ?_; refine hK _ _ ?_; clear hK K
      refine go rTI ?_
      refine aw_nil_box (s.nx + 1) 1 2 _ (St.set_same _ _ _) rfl ?_
      refine aw_nil_box (s.nx + 1) 2 1 _ (St.set_same _ _ _) rfl ?_
      have h0 := WI.init s id hid 4 r e _ _ _ rfl rfl rfl
      refine aw_loop (fun m e' s' => ∃ q e1 V iV, m = q.length ∧ e'.n = 86 ∧ e'.m 0 = .ptr id 0 ∧ e'.m 2 = .ptr s.nx 0 ∧ e'.m 5 = .ptr (s.nx + 1) 0 ∧ WI s s' id (s.nx + 1) iV (s.nx + 3) 4 V [] q e1 ∧ numsE r e = numsE q e1 ∧ r.map numV = V ++ q.map numV ∧ (∀ w ∈ q, w ∈ r)) r.length ?_ ?_
      · refine ⟨r, e, [], s.nx + 2, rfl, ?_, ?_, ?_, ?_, h0, rfl, rfl, fun _ h => h⟩
        all_goals (exact rn0 rTI)
        all_goals trivial
      · rintro m e' s' ⟨q, e1, V, iV, rfl, h1, k0, k2, k5, hW, hE, hV, hm⟩
        have hr : s'.get id = some [.sl q.length (SL q), .v (.int .i64 e1)] := hW.r
        have gb : s'.get (s.nx + 1) = some [.v (.int .i64 4), .own iV 0 V.length 2, .own (s.nx + 3) 0 0 1] := hW.b
        have gz := hW.z
        obtain ⟨o1, o2, o3, o4, o5, o6, o7, o8, o9⟩ := hW.o
        cases q with
        | nil =>
          refine go (cj rTI (cj @h1 (cj @k0 @hr))) ?_
          refine ifs ?_ ?_ <;> first | exact nope | intro hb
          refine go (cj rTI (cj @h1 (cj @k0 (cj @k2 (cj @k5 (cj @hr (cj @gb @gz))))))) ?_
          rw [List.map_nil, List.append_nil] at hV
          rw [hV, hE]
          exact ⟨⟨4, V, []⟩, iV, s.nx + 3, fun _ => rfl, rfl, by omega, by omega, o9, by rw [if_neg (by omega)]; exact hW.v, by rw [if_neg (by omega)]; exact hW.t, rfl, fun k h1 h2 => by rw [if_neg (by omega)]; exact hW.fr k h1 h2⟩
        | cons a q =>
          have ha : By a := hw a (List.mem_cons_of_mem _ (hm a (List.mem_cons_self ..)))
          have hlen := congrArg List.length hV
          rw [List.length_map, List.length_append, List.length_map, List.length_cons] at hlen
          rw [List.length_cons] at hl
          have hvl : V.length ≤ 10000 := by omega
          have hq : q.length < 9223372036854775807 := by omega
          clear hlen
          have hnu := num_ax s' id a q e1 ha hW.r (by omega) hq
          have hW2 := hW.num hid (numV a) q (numE a e1)
          rw [show numsE (a :: q) e1 = numsE q (numE a e1) from rfl] at hE
          rw [List.map_cons] at hV
          have gv := hW.v
          have nl := nc_len V
          generalize numE a e1 = e2 at *
          unfold NM at hnu
          generalize numV a = n at *
          refine go (cj rTI (cj @h1 (cj @k0 @hr))) ?_
          refine ifs ?_ ?_ <;> first | exact nope | intro hb
          refine aw_skip ?_
          refine go rTI ?_
          refine aw_drwR (.take 0 (.take 1 (.take 2 (.one 3 (.one 4 (.one 5 (.done))))))) 6 [7] [s.nx + 1] (by kernel_rfl) (by kernel_rfl) fun K hK => ?_; refine dt (cj rTI (cj @h1 (cj @k0 (cj @k5 (cj @gb (cj @gv (cj @nl @zr2))))))) ?_; refine cont_go hnu ?_; rintro _ s1 ⟨rfl, rfl⟩; refine dt (cj rTI (cj @h1 (cj @k0 (cj @k5 (cj @gb (cj @gv (cj @nl @zr2))))))) ?_; refine hK _ _ ?_; clear hK K
          simp only [block_normal, loop_normal]
          refine ⟨q.length, by rw [List.length_cons]; omega, q, e2, V ++ [n], s'.nx + 1, rfl, ?_, ?_, ?_, ?_, hW2, hE, by rw [hV]; simp, fun w hw => hm w (List.mem_cons_of_mem _ hw)⟩
          all_goals (exact rn0 (cj @h1 (cj @k0 (cj @k2 @k5))))
          all_goals trivial
    rw [decide_eq_false q3]
    refine ifs ?_ ?_ <;> first | exact nope | intro hb
    refine go (cj rTI @e1) ?_
    have hw1 : waveWords (kw :: r) = if kw = sDc then decide (r.length = 1) else decide (r.length = 0) := by
      show (if kw = sDc then _ else if kw = sPulse then _ else if kw = sPwl then _ else if kw = sTable then _ else _) = _
      rw [if_neg q1, if_neg q2, if_neg q3]
    have hr1 : waveR (kw :: r) e = if kw = sDc then (⟨1, r.map numV, []⟩, numsE r e) else (⟨1, [numV kw], []⟩, numE kw e) := by
      show (if kw = sPulse then _ else if kw = sPwl then _ else if kw = sTable then _ else _) = _
      rw [if_neg q1, if_neg q2, if_neg q3]
    rw [hw1] at hv
    rw [hr1]
    clear hw1 hr1 e1 e2 e3 e4 q1 q2 q3
    by_cases q4 : kw = sDc
    · rw [if_pos q4, decide_eq_true_eq] at hv
      rw [if_pos q4, decide_eq_true q4]
      match r, hv with
      | [a], _ =>
        have ha : By a := hw a (by simp)
        have hnu := fun zc => num_ax ((s.push zc).set id (rdr [a] e)) id a [] e ha (St.set_same _ _ _) (by rw [St.nx_set, St.nx_push]; omega) (by decide)
        rw [show numsE [a] e = numE a e from rfl]
        generalize numE a e = e' at *
        unfold NM at hnu
        rw [show List.map numV [a] = [numV a] from rfl]
        generalize numV a = n at *
        refine ifs ?_ ?_ <;> first | exact nope | intro hb
        refine aw_reg fun K hK => ?_; refine rn rTI ?_; refine cont_go (hnx _) ?_; rintro _ s1 ⟨rfl, rfl⟩; refine rn rTI ?_; refine hK _ _ ?_; clear hK K
        refine go rTI ?_
        refine aw_reg fun K hK => ?_; refine rn (cj rTI @zr2) ?_; refine cont_go (hnu _) ?_; rintro _ s1 ⟨rfl, rfl⟩; refine rn (cj rTI @zr2) ?_; refine hK _ _ ?_; clear hK K
        rw [then_normal]
        refine aw_nil_box s.nx 2 1 _ (St.set_same _ _ _) rfl ?_
        refine go rTI ?_
        exact ⟨⟨1, [n], []⟩, s.nx + 1, s.nx + 1 + 1, fun _ => rfl, rfl, by omega, by omega, by omega, by rw [if_neg (by omega), if_neg (by omega), if_pos rfl]; rfl, by rw [if_neg (by omega), if_pos rfl]; rfl, fun k h1 h2 => by rw [if_neg (by omega), if_neg (by omega), if_neg (by omega), if_neg (by omega)]⟩
    · rw [if_neg q4, decide_eq_true_eq] at hv
      rw [if_neg q4, decide_eq_false q4]
      match r, hv with
      | [], _ =>
        have hnu := fun zc => num_ax (s.push zc) id kw [] e hk (by rw [St.push_ne _ _ _ (by omega)]; exact hi) (by rw [St.nx_push]; omega) (by decide)
        generalize numE kw e = e' at *
        unfold NM at hnu
        generalize numV kw = n at *
        refine ifs ?_ ?_ <;> first | exact nope | intro hb
        refine go rTI ?_
        refine aw_reg fun K hK => ?_; refine rn (cj rTI @zr2) ?_; refine cont_go (hnu _) ?_; rintro _ s1 ⟨rfl, rfl⟩; refine rn (cj rTI @zr2) ?_; refine hK _ _ ?_; clear hK K
        rw [then_normal]
        refine aw_nil_box s.nx 2 1 _ (St.set_same _ _ _) rfl ?_
        refine go rTI ?_
        exact ⟨⟨1, [n], []⟩, s.nx + 1, s.nx + 1 + 1, fun _ => rfl, rfl, by omega, by omega, by omega, by rw [if_neg (by omega), if_neg (by omega), if_pos rfl]; rfl, by rw [if_neg (by omega), if_pos rfl]; rfl, fun k h1 h2 => by rw [if_neg (by omega), if_neg (by omega), if_neg (by omega), if_neg (by omega)]⟩
end Go.Proofs.YtfjelkjlfcafgaaGreatDoor.CardG
end
section
/- Cards: wave.Valid. -/
namespace Go.Proofs.YtfjelkjlfcafgaaGreatDoor.CardH
open Go Go.RowKit Go.Proofs.YtfjelkjlfcafgaaGreatDoor.Ax Go.Proofs.YtfjelkjlfcafgaaGreatDoor.Ti Go.Proofs.YtfjelkjlfcafgaaGreatDoor.NumS Go.Proofs.YtfjelkjlfcafgaaGreatDoor.NumT Go.Proofs.YtfjelkjlfcafgaaGreatDoor.CardS Go.Proofs.YtfjelkjlfcafgaaGreatDoor.CardP Go.Proofs.YtfjelkjlfcafgaaGreatDoor.CardA Go.Proofs.YtfjelkjlfcafgaaGreatDoor.CardB Go.Proofs.YtfjelkjlfcafgaaGreatDoor.CardC Go.Proofs.YtfjelkjlfcafgaaGreatDoor.CardD Go.Proofs.YtfjelkjlfcafgaaGreatDoor.CardE Go.Proofs.YtfjelkjlfcafgaaGreatDoor.CardF Go.Proofs.YtfjelkjlfcafgaaGreatDoor.CardG
open Go.Proofs.YtfjelkjlfcafgaaGreatDoor.NumA (NM valid_ax)
open Go.Proofs.YtfjelkjlfcafgaaGreatDoor.RefM (validN)
set_option linter.unusedSimpArgs false
set_option linter.unusedVariables false
set_option maxRecDepth 4000
set_option maxHeartbeats 2000000
theorem rTI : type_of% (cj @ti3 (cj @ti4 (cj @ti9 (cj @ti5 (cj @ti36 (cj @ti63 (cj @ti62 (cj @ti24 (cj @ti65 (cj @Nat.zero_add (cj @tz0 (cj @tz1 (cj @tz3 (cj @Nat.mul_one @Int.toNat_natCast)))))))))))))) := cj @ti3 (cj @ti4 (cj @ti9 (cj @ti5 (cj @ti36 (cj @ti63 (cj @ti62 (cj @ti24 (cj @ti65 (cj @Nat.zero_add (cj @tz0 (cj @tz1 (cj @tz3 (cj @Nat.mul_one @Int.toNat_natCast)))))))))))))
def okS (s : Int) : Bool := decide (0 ≤ s ∧ s ≤ 1000000000)
def kindOk (kd : Int) (V : List Num) (S : List Int) : Bool :=
  if kd = 1 then decide (V.length = 1 ∧ S.length = 0)
  else if kd = 2 then decide (V.length = 2 ∧ S.length = 5 ∧ 1 ≤ S.getD 4 0 ∧ S.getD 1 0 + S.getD 2 0 + S.getD 3 0 ≤ S.getD 4 0)
  else if kd = 3 then rising S && decide (V.length = S.length ∧ 1 ≤ V.length ∧ V.length ≤ 16)
  else if kd = 4 then decide (1 ≤ V.length ∧ V.length ≤ 16 ∧ S.length = 0) else false
theorem waveOk_eq (kd : Int) (V : List Num) (S : List Int) : waveOk ⟨kd, V, S⟩ = (V.all valid && S.all okS && kindOk kd V S) := rfl
theorem rising_of : ∀ (S : List Int), (∀ i, i + 1 < S.length → S.getD i 0 < S.getD (i + 1) 0) → rising S = true
  | [], _ => rfl
  | [_], _ => rfl
  | a :: b :: r, h => by
    have h0 := h 0 (by simp)
    have h1 := rising_of (b :: r) fun i hi => by
      have := h (i + 1) (by simp at hi ⊢; omega)
      simpa using this
    show (decide (a < b) && rising (b :: r)) = true
    rw [h1, decide_eq_true (by simpa using h0)]
    rfl
theorem rising_not : ∀ (S : List Int) (i : Nat), i + 1 < S.length → ¬ S.getD i 0 < S.getD (i + 1) 0 → rising S = false
  | [], i, h, _ => by simp at h
  | [_], i, h, _ => by simp at h
  | a :: b :: r, 0, h, hn => by
    show (decide (a < b) && rising (b :: r)) = false
    rw [decide_eq_false (by simpa using hn)]
    rfl
  | a :: b :: r, i + 1, h, hn => by
    show (decide (a < b) && rising (b :: r)) = false
    rw [rising_not (b :: r) i (by simp at h ⊢; omega) (by simpa using hn), Bool.and_false]
theorem wvalid_ax (w : Wv) (hv : w.vals.length ≤ 9223372036854775807) (hs : w.steps.length ≤ 9223372036854775807) : PCall Tryz.prog 96 [WA w] (.v (.bool (waveOk w))) := by
  refine pcall_of fun s => ?_
  obtain ⟨kd, V, S⟩ := w
  rw [waveOk_eq]
  simp only at hv hs
  unfold WA NV IV iv
  simp only
  refine acall_of Tryz.func96 rfl rfl (by simp [Tryz.ntmps96]) ?_; rw [Tryz.ntmps96, Tryz.results96]
  refine go rTI ?_
  refine aw_loop (fun m e s' => ∃ k, m = V.length - k ∧ k ≤ V.length ∧ e.n = 145 ∧ e.m 1 = .ptr s.nx 0 ∧ e.m 9 = .sl V.length (NC V) ∧ e.m 10 = .v (.int .i64 V.length) ∧ e.m 11 = .v (.int .i64 (k : Nat)) ∧ (V.take k).all valid = true ∧ s.nx < s'.nx ∧ s'.get s.nx = some [.v (.int .i64 kd), .sl V.length (NC V), .sl S.length (IL S)] ∧ ∀ i, i < s.nx → s'.get i = s.get i) V.length ?_ ?_
  · refine ⟨0, by omega, by omega, ?_⟩
    (repeat' refine And.intro ?_ ?_) <;> first | exact rfl | exact fnz rTI | skip
    exact Nat.lt_succ_self _
  · rintro m e s' ⟨k, rfl, hk, h1, k1, k9, k10, k11, ha, hn, gb, fr⟩
    by_cases hk2 : k < V.length
    · have f1 := nc_at V k hk2
      have f2 : 2 ≤ ((NC V).drop (k * 2)).length := by rw [List.length_drop, nc_len]; omega
      have hp : PCall Tryz.prog 18 [NM (V.getD k (0, 0)).1 (V.getD k (0, 0)).2] (.v (.bool (valid (V.getD k (0, 0))))) := valid_ax _ _
      have ht := take_all valid V (0, 0) k hk2 ha
      have hf := all_not valid V (0, 0) k hk2
      unfold iv at f1
      unfold NM at hp
      generalize V.getD k (0, 0) = n at *
      refine go (cj rTI (cj @h1 (cj @k10 @k11))) ?_
      refine ifs ?_ ?_ <;> first | exact nope | intro hb
      refine aw_skip ?_
      refine go (cj rTI (cj @h1 (cj @k9 (cj @k11 (cj @f1 @f2))))) ?_
      refine aw_reg fun K hK => ?_; refine rn rTI ?_; refine cont_pure hp ?_; refine rn rTI ?_; refine hK _ _ ?_; clear hK K
      cases hc : valid n with
      | false =>
        rw [hf hc]
        rw [Bool.false_and, Bool.false_and]
        refine ifs ?_ ?_ <;> first | exact nope | intro hb
        refine go (cj rTI @h1) ?_
        exact fun i hi => by rw [if_neg (by omega)]; exact fr i hi
      | true =>
        rw [hc] at ht
        refine ifs ?_ ?_ <;> first | exact nope | intro hb
        refine go (cj rTI (cj @h1 @k11)) ?_
        simp only [block_normal, loop_normal]
        refine ⟨V.length - (k + 1), by omega, k + 1, rfl, by omega, ?_, ?_, ?_, ?_, ?_, ht, ?_, ?_, ?_⟩
        all_goals ((first | refine rn (cj rTI (cj @h1 (cj @k1 (cj @k9 (cj @k10 @k11))))) ?_ | exact rn0 (cj rTI (cj @h1 (cj @k1 (cj @k9 (cj @k10 @k11)))))))
        all_goals (first | rfl | trivial | (rw [St.nx_push]; omega) | omega | (intro i hi; rw [if_neg (by omega)]; exact fr i hi))
    · obtain rfl : k = V.length := by omega
      rw [List.take_length] at ha
      rw [ha, Bool.true_and]
      refine go (cj rTI (cj @h1 (cj @k1 (cj @k10 (cj @k11 @gb))))) ?_
      refine ifs ?_ ?_ <;> first | exact nope | intro hb
      refine go (cj rTI (cj @h1 (cj @k1 (cj @k10 (cj @k11 @gb))))) ?_
      clear ha hk hk2 k9 k10 k11
      refine aw_loop (fun m e' s'' => ∃ k, m = S.length - k ∧ k ≤ S.length ∧ e'.n = 145 ∧ e'.m 1 = .ptr s.nx 0 ∧ e'.m 20 = .sl S.length (IL S) ∧ e'.m 21 = .v (.int .i64 S.length) ∧ e'.m 22 = .v (.int .i64 (k : Nat)) ∧ (S.take k).all okS = true ∧ s'' = s') S.length ?_ ?_
      · refine ⟨0, by omega, by omega, ?_⟩
        (repeat' refine And.intro ?_ ?_) <;> first | exact rfl | exact fnz (cj rTI (cj @h1 @k1)) | skip
      · clear h1 k1
        rintro m e' s'' ⟨k, rfl, hk, h1, k1, k20, k21, k22, ha, rfl⟩
        by_cases hk2 : k < S.length
        · have f1 := hd_IL S k hk2
          have ht := take_all okS S 0 k hk2 ha
          have hf := all_not okS S 0 k hk2
          unfold iv at f1
          generalize S.getD k 0 = n at *
          have hn2 : okS n = (decide (0 ≤ n) && decide (n ≤ 1000000000)) := by unfold okS; rw [Bool.decide_and]
          refine go (cj rTI (cj @h1 (cj @k21 @k22))) ?_
          refine ifs ?_ ?_ <;> first | exact nope | intro hb
          refine aw_skip ?_
          by_cases c1 : 0 ≤ n
          · by_cases c2 : n ≤ 1000000000
            · refine go (cj rTI (cj @h1 (cj @k20 (cj @k22 @f1)))) ?_
              refine ifs ?_ ?_ <;> first | exact nope | intro hb
              rw [hn2, decide_eq_true c1, decide_eq_true c2] at ht
              refine go (cj rTI (cj @h1 @k22)) ?_
              simp only [block_normal, loop_normal]
              refine ⟨S.length - (k + 1), by omega, k + 1, rfl, by omega, ?_, ?_, ?_, ?_, ?_, ht, trivial⟩
              all_goals ((first | refine rn (cj rTI (cj @h1 (cj @k1 (cj @k20 (cj @k21 @k22))))) ?_ | exact rn0 (cj rTI (cj @h1 (cj @k1 (cj @k20 (cj @k21 @k22)))))))
              all_goals rfl
            · rw [hf (by rw [hn2, decide_eq_false c2, Bool.and_false]), Bool.false_and]
              refine go (cj rTI (cj @h1 (cj @k20 (cj @k22 @f1)))) ?_
              refine ifs ?_ ?_ <;> first | exact nope | intro hb
              refine go (cj rTI @h1) ?_
              exact fr
          · rw [hf (by rw [hn2, decide_eq_false c1, Bool.false_and]), Bool.false_and]
            refine go (cj rTI (cj @h1 (cj @k20 (cj @k22 @f1)))) ?_
            refine ifs ?_ ?_ <;> first | exact nope | intro hb
            refine go (cj rTI @h1) ?_
            exact fr
        · obtain rfl : k = S.length := by omega
          rw [List.take_length] at ha
          rw [ha, Bool.true_and]
          clear hk hk2
          unfold kindOk
          by_cases q1 : kd = 1
          · rw [if_pos q1]
            subst q1
            by_cases c1 : V.length = 1
            · by_cases c2 : S.length = 0
              · rw [decide_eq_true (by exact ⟨c1, c2⟩)]
                refine go (cj rTI (cj @h1 (cj @k1 (cj @k21 (cj @k22 @gb))))) ?_
                refine ifs ?_ ?_ <;> first | exact nope | intro hb
                refine go (cj rTI (cj @h1 (cj @k1 (cj @k21 (cj @k22 @gb))))) ?_
                refine ifs ?_ ?_ <;> first | exact nope | intro hb
                refine go (cj rTI (cj @h1 (cj @k1 @gb))) ?_
                exact fr
              · rw [decide_eq_false (fun x => c2 x.2)]
                refine go (cj rTI (cj @h1 (cj @k1 (cj @k21 (cj @k22 @gb))))) ?_
                refine ifs ?_ ?_ <;> first | exact nope | intro hb
                refine go (cj rTI (cj @h1 (cj @k1 (cj @k21 (cj @k22 @gb))))) ?_
                refine ifs ?_ ?_ <;> first | exact nope | intro hb
                refine go (cj rTI (cj @h1 (cj @k1 @gb))) ?_
                exact fr
            · rw [decide_eq_false (fun x => c1 x.1)]
              refine go (cj rTI (cj @h1 (cj @k1 (cj @k21 (cj @k22 @gb))))) ?_
              refine ifs ?_ ?_ <;> first | exact nope | intro hb
              refine go (cj rTI (cj @h1 (cj @k1 (cj @k21 (cj @k22 @gb))))) ?_
              refine ifs ?_ ?_ <;> first | exact nope | intro hb
              refine go (cj rTI (cj @h1 (cj @k1 @gb))) ?_
              exact fr
          rw [if_neg q1]
          by_cases q2 : kd = 2
          · rw [if_pos q2]
            subst q2
            refine go (cj rTI (cj @h1 (cj @k1 (cj @k21 (cj @k22 @gb))))) ?_
            refine ifs ?_ ?_ <;> first | exact nope | intro hb
            refine go (cj rTI (cj @h1 (cj @k1 (cj @k21 (cj @k22 @gb))))) ?_
            refine ifs ?_ ?_ <;> first | exact nope | intro hb
            refine go (cj rTI @h1) ?_
            refine ifs ?_ ?_ <;> first | exact nope | intro hb
            by_cases c1 : V.length = 2
            · by_cases c2 : S.length = 5
              · match S, c2 with
                | [a, b, c, d, f], _ =>
                  have hb5 : ∀ x ∈ [a, b, c, d, f], 0 ≤ x ∧ x ≤ 1000000000 := fun x hx => by
                    have := List.all_eq_true.1 ha x hx
                    unfold okS at this
                    exact of_decide_eq_true this
                  have bb := hb5 b (by simp)
                  have bc := hb5 c (by simp)
                  have bd := hb5 d (by simp)
                  have bf := hb5 f (by simp)
                  have e5 : ([a, b, c, d, f].length : Int) = 5 := rfl
                  have n5 : [a, b, c, d, f].length = 5 := rfl
                  have t1 : Int.toNat 4 = 4 := rfl
                  have t2 : Int.toNat 2 = 2 := rfl
                  have i4 : ((IL [a, b, c, d, f]).drop 4).head? = some (.v (.int .i64 f)) := rfl
                  have i1 : ((IL [a, b, c, d, f]).drop 1).head? = some (.v (.int .i64 b)) := rfl
                  have i2 : ((IL [a, b, c, d, f]).drop 2).head? = some (.v (.int .i64 c)) := rfl
                  have i3 : ((IL [a, b, c, d, f]).drop 3).head? = some (.v (.int .i64 d)) := rfl
                  have hd5 : decide (V.length = 2 ∧ [a, b, c, d, f].length = 5 ∧ 1 ≤ [a, b, c, d, f].getD 4 0 ∧ [a, b, c, d, f].getD 1 0 + [a, b, c, d, f].getD 2 0 + [a, b, c, d, f].getD 3 0 ≤ [a, b, c, d, f].getD 4 0) = (decide (1 ≤ f) && decide (b + c + d ≤ f)) := by
                    rw [Bool.eq_iff_iff]
                    simp [c1]
                  rw [hd5]
                  clear hb5 hd5 ha
                  generalize [a, b, c, d, f] = S' at *
                  refine aw_seq ?_
                  by_cases c3 : 1 ≤ f
                  · rw [decide_eq_true c3, Bool.true_and]
                    by_cases c4 : b + c + d ≤ f
                    · rw [decide_eq_true c4]
                      refine aw_drw (.take 0 (.take 1 (.take 2 (.take 3 (.take 4 (.take 5 (.take 6 (.take 7 (.take 8 (.take 9 (.take 10 (.take 11 (.take 12 (.take 13 (.take 14 (.take 15 (.take 16 (.take 17 (.take 18 (.take 19 (.take 20 (.take 21 (.take 22 (.take 23 (.take 24 (.take 25 (.take 26 (.take 27 (.take 28 (.take 29 (.take 30 (.take 31 (.take 32 (.take 33 (.take 34 (.take 35 (.take 36 (.take 37 (.take 38 (.done)))))))))))))))))))))))))))))))))))))))) [s.nx] (by kernel_rfl) (by kernel_rfl) fun K hK => ?_; refine dr (cj rTI (cj @h1 (cj @k1 (cj @gb (cj @c1 (cj @e5 (cj @n5 (cj @t1 (cj @t2 (cj @i1 (cj @i2 (cj @i3 @i4)))))))))))) ?_; refine hK _ _ ?_; clear hK K
                      refine go (cj rTI @h1) ?_
                      exact fr
                    · rw [decide_eq_false c4]
                      refine aw_drw (.take 0 (.take 1 (.take 2 (.take 3 (.take 4 (.take 5 (.take 6 (.take 7 (.take 8 (.take 9 (.take 10 (.take 11 (.take 12 (.take 13 (.take 14 (.take 15 (.take 16 (.take 17 (.take 18 (.take 19 (.take 20 (.take 21 (.take 22 (.take 23 (.take 24 (.take 25 (.take 26 (.take 27 (.take 28 (.take 29 (.take 30 (.take 31 (.take 32 (.take 33 (.take 34 (.take 35 (.take 36 (.take 37 (.take 38 (.done)))))))))))))))))))))))))))))))))))))))) [s.nx] (by kernel_rfl) (by kernel_rfl) fun K hK => ?_; refine dr (cj rTI (cj @h1 (cj @k1 (cj @gb (cj @c1 (cj @e5 (cj @n5 (cj @t1 (cj @t2 (cj @i1 (cj @i2 (cj @i3 @i4)))))))))))) ?_; refine hK _ _ ?_; clear hK K
                      refine go (cj rTI @h1) ?_
                      exact fr
                  · rw [decide_eq_false c3, Bool.false_and]
                    refine aw_drw (.take 0 (.take 1 (.take 2 (.take 3 (.take 4 (.take 5 (.take 6 (.take 7 (.take 8 (.take 9 (.take 10 (.take 11 (.take 12 (.take 13 (.take 14 (.take 15 (.take 16 (.take 17 (.take 18 (.take 19 (.take 20 (.take 21 (.take 22 (.take 23 (.take 24 (.take 25 (.take 26 (.take 27 (.take 28 (.take 29 (.take 30 (.take 31 (.take 32 (.take 33 (.take 34 (.take 35 (.take 36 (.take 37 (.take 38 (.done)))))))))))))))))))))))))))))))))))))))) [s.nx] (by kernel_rfl) (by kernel_rfl) fun K hK => ?_; refine dr (cj rTI (cj @h1 (cj @k1 (cj @gb (cj @c1 (cj @e5 (cj @n5 (cj @t1 (cj @t2 (cj @i1 (cj @i2 (cj @i3 @i4)))))))))))) ?_; refine hK _ _ ?_; clear hK K
                    refine go (cj rTI @h1) ?_
                    exact fr
              · rw [decide_eq_false (fun x => c2 x.2.1)]
                refine aw_seq ?_
                refine aw_drw (.take 0 (.take 1 (.take 2 (.take 3 (.take 4 (.take 5 (.take 6 (.take 7 (.take 8 (.take 9 (.take 10 (.take 11 (.take 12 (.take 13 (.take 14 (.take 15 (.take 16 (.take 17 (.take 18 (.take 19 (.take 20 (.take 21 (.take 22 (.take 23 (.take 24 (.take 25 (.take 26 (.take 27 (.take 28 (.take 29 (.take 30 (.take 31 (.take 32 (.take 33 (.take 34 (.take 35 (.take 36 (.take 37 (.take 38 (.done)))))))))))))))))))))))))))))))))))))))) [s.nx] (by kernel_rfl) (by kernel_rfl) fun K hK => ?_; refine dr (cj rTI (cj @h1 (cj @k1 (cj @gb @c1)))) ?_; refine hK _ _ ?_; clear hK K
                refine go (cj rTI @h1) ?_
                exact fr
            · rw [decide_eq_false (fun x => c1 x.1)]
              refine aw_seq ?_
              refine aw_drw (.take 0 (.take 1 (.take 2 (.take 3 (.take 4 (.take 5 (.take 6 (.take 7 (.take 8 (.take 9 (.take 10 (.take 11 (.take 12 (.take 13 (.take 14 (.take 15 (.take 16 (.take 17 (.take 18 (.take 19 (.take 20 (.take 21 (.take 22 (.take 23 (.take 24 (.take 25 (.take 26 (.take 27 (.take 28 (.take 29 (.take 30 (.take 31 (.take 32 (.take 33 (.take 34 (.take 35 (.take 36 (.take 37 (.take 38 (.done)))))))))))))))))))))))))))))))))))))))) [s.nx] (by kernel_rfl) (by kernel_rfl) fun K hK => ?_; refine dr (cj rTI (cj @h1 (cj @k1 @gb))) ?_; refine hK _ _ ?_; clear hK K
              refine go (cj rTI @h1) ?_
              exact fr
          rw [if_neg q2]
          by_cases q3 : kd = 3
          · rw [if_pos q3]
            subst q3
            refine go (cj rTI (cj @h1 (cj @k1 (cj @k21 (cj @k22 @gb))))) ?_
            refine ifs ?_ ?_ <;> first | exact nope | intro hb
            refine go (cj rTI (cj @h1 (cj @k1 (cj @k21 (cj @k22 @gb))))) ?_
            refine ifs ?_ ?_ <;> first | exact nope | intro hb
            refine go (cj rTI @h1) ?_
            refine ifs ?_ ?_ <;> first | exact nope | intro hb
            refine go (cj rTI @h1) ?_
            refine ifs ?_ ?_ <;> first | exact nope | intro hb
            refine go (cj rTI @h1) ?_
            refine aw_loop (fun m e2 s2 => ∃ j, m = S.length - j ∧ j ≤ S.length ∧ e2.n = 145 ∧ e2.m 1 = .ptr s.nx 0 ∧ e2.m 7 = .v (.int .i64 ((j : Int) + 1)) ∧ (∀ i, i < j → i + 1 < S.length → S.getD i 0 < S.getD (i + 1) 0) ∧ s2 = s'') S.length ?_ ?_
            · refine ⟨0, by omega, by omega, ?_, ?_, ?_, fun i hi => by omega, ?_⟩
              all_goals ((first | refine rn (cj rTI (cj @h1 @k1)) ?_ | exact rn0 (cj rTI (cj @h1 @k1))))
              all_goals (first | rfl | trivial)
            · clear h1 k1 k20 k21 k22
              rintro m e2 s2 ⟨j, rfl, hj, h1, k1, k7, hr, rfl⟩
              by_cases hj2 : j + 1 < S.length
              · have f1 := hd_IL S (j + 1) hj2
                have f2 := hd_IL S j (by omega)
                have hnr := rising_not S j hj2
                have hpr : S.getD j 0 < S.getD (j + 1) 0 → ∀ i, i < j + 1 → i + 1 < S.length → S.getD i 0 < S.getD (i + 1) 0 := fun h i hi hi2 => by
                  by_cases q : i = j
                  · subst q; exact h
                  · exact hr i (by omega) hi2
                clear hr
                unfold iv at f1 f2
                generalize S.getD (j + 1) 0 = x1 at *
                generalize S.getD j 0 = x0 at *
                have hj3 : (j : Int) + 1 - 1 = (j : Int) := by omega
                have hj4 : ((j : Int) + 1).toNat = j + 1 := by omega
                refine go (cj rTI (cj @h1 (cj @k1 (cj @k7 @gb)))) ?_
                refine ifs ?_ ?_ <;> first | exact nope | intro hb
                refine aw_skip ?_
                refine go rTI ?_
                refine aw_drw (.take 0 (.take 1 (.take 2 (.take 3 (.take 4 (.take 5 (.take 6 (.take 7 (.take 8 (.take 9 (.take 10 (.take 11 (.done))))))))))))) [s.nx] (by kernel_rfl) (by kernel_rfl) fun K hK => ?_; refine dr (cj rTI (cj @h1 (cj @k1 (cj @k7 (cj @gb (cj @f1 (cj @f2 (cj @hj3 @hj4)))))))) ?_; refine hK _ _ ?_; clear hK K
                by_cases c : x1 ≤ x0
                · refine ifs ?_ ?_ <;> first | exact nope | intro hb
                  rw [hnr (by omega), Bool.false_and]
                  refine go (cj rTI @h1) ?_
                  exact fr
                · refine ifs ?_ ?_ <;> first | exact nope | intro hb
                  have hp2 := hpr (by omega)
                  refine go (cj rTI (cj @h1 @k7)) ?_
                  try simp only [block_normal, loop_normal]
                  refine ⟨S.length - (j + 1), by omega, j + 1, rfl, by omega, ?_, ?_, ?_, hp2, ?_⟩
                  all_goals ((first | refine rn (cj rTI (cj @h1 (cj @k1 @k7))) ?_ | exact rn0 (cj rTI (cj @h1 (cj @k1 @k7)))))
                  all_goals (first | rfl | trivial)
              · have hR : rising S = true := rising_of S fun i hi => hr i (by omega) hi
                rw [hR, Bool.true_and]
                refine go (cj rTI (cj @h1 (cj @k1 (cj @k7 @gb)))) ?_
                refine ifs ?_ ?_ <;> first | exact nope | intro hb
                have hb4 : decide (V.length = S.length ∧ 1 ≤ V.length ∧ V.length ≤ 16) = (decide (V.length = S.length) && (decide (1 ≤ V.length) && decide (V.length ≤ 16))) := by rw [Bool.decide_and, Bool.decide_and]
                rw [hb4]
                rcases (by omega : ¬ V.length = S.length ∨ (V.length = S.length ∧ V.length < 1) ∨ (V.length = S.length ∧ 16 < V.length) ∨ (V.length = S.length ∧ 1 ≤ V.length ∧ V.length ≤ 16)) with c | ⟨c1, c2⟩ | ⟨c1, c2⟩ | ⟨c1, c2, c3⟩
                · rw [decide_eq_false c, Bool.false_and]
                  refine go (cj rTI (cj @h1 (cj @k1 @gb))) ?_
                  exact fr
                · rw [decide_eq_true c1, decide_eq_false (by omega : ¬ 1 ≤ V.length), Bool.false_and, Bool.and_false]
                  refine go (cj rTI (cj @h1 (cj @k1 @gb))) ?_
                  exact fr
                · rw [decide_eq_true c1, decide_eq_false (by omega : ¬ V.length ≤ 16), Bool.and_false, Bool.and_false]
                  refine go (cj rTI (cj @h1 (cj @k1 @gb))) ?_
                  exact fr
                · rw [decide_eq_true c1, decide_eq_true c2, decide_eq_true c3]
                  refine go (cj rTI (cj @h1 (cj @k1 @gb))) ?_
                  exact fr
          rw [if_neg q3]
          by_cases q4 : kd = 4
          · rw [if_pos q4]
            subst q4
            have hb4 : decide (1 ≤ V.length ∧ V.length ≤ 16 ∧ S.length = 0) = (decide (1 ≤ V.length) && (decide (V.length ≤ 16) && decide (S.length = 0))) := by rw [Bool.decide_and, Bool.decide_and]
            rw [hb4]
            rcases (by omega : V.length < 1 ∨ 16 < V.length ∨ (1 ≤ V.length ∧ V.length ≤ 16 ∧ S.length = 0) ∨ (1 ≤ V.length ∧ V.length ≤ 16 ∧ ¬ S.length = 0)) with c | c | ⟨c1, c2, c3⟩ | ⟨c1, c2, c3⟩
            · rw [decide_eq_false (by omega : ¬ 1 ≤ V.length), Bool.false_and]
              refine go (cj rTI (cj @h1 (cj @k1 (cj @k21 (cj @k22 @gb))))) ?_
              refine ifs ?_ ?_ <;> first | exact nope | intro hb
              refine go (cj rTI (cj @h1 (cj @k1 (cj @k21 (cj @k22 @gb))))) ?_
              refine ifs ?_ ?_ <;> first | exact nope | intro hb
              refine go (cj rTI @h1) ?_
              refine ifs ?_ ?_ <;> first | exact nope | intro hb
              refine go (cj rTI @h1) ?_
              refine ifs ?_ ?_ <;> first | exact nope | intro hb
              refine go (cj rTI @h1) ?_
              refine ifs ?_ ?_ <;> first | exact nope | intro hb
              refine go (cj rTI (cj @h1 (cj @k1 @gb))) ?_
              exact fr
            · rw [decide_eq_false (by omega : ¬ V.length ≤ 16), Bool.false_and, Bool.and_false]
              refine go (cj rTI (cj @h1 (cj @k1 (cj @k21 (cj @k22 @gb))))) ?_
              refine ifs ?_ ?_ <;> first | exact nope | intro hb
              refine go (cj rTI (cj @h1 (cj @k1 (cj @k21 (cj @k22 @gb))))) ?_
              refine ifs ?_ ?_ <;> first | exact nope | intro hb
              refine go (cj rTI @h1) ?_
              refine ifs ?_ ?_ <;> first | exact nope | intro hb
              refine go (cj rTI @h1) ?_
              refine ifs ?_ ?_ <;> first | exact nope | intro hb
              refine go (cj rTI @h1) ?_
              refine ifs ?_ ?_ <;> first | exact nope | intro hb
              refine go (cj rTI (cj @h1 (cj @k1 @gb))) ?_
              exact fr
            · rw [decide_eq_true c1, decide_eq_true c2, decide_eq_true c3]
              refine go (cj rTI (cj @h1 (cj @k1 (cj @k21 (cj @k22 @gb))))) ?_
              refine ifs ?_ ?_ <;> first | exact nope | intro hb
              refine go (cj rTI (cj @h1 (cj @k1 (cj @k21 (cj @k22 @gb))))) ?_
              refine ifs ?_ ?_ <;> first | exact nope | intro hb
              refine go (cj rTI @h1) ?_
              refine ifs ?_ ?_ <;> first | exact nope | intro hb
              refine go (cj rTI @h1) ?_
              refine ifs ?_ ?_ <;> first | exact nope | intro hb
              refine go (cj rTI @h1) ?_
              refine ifs ?_ ?_ <;> first | exact nope | intro hb
              refine go (cj rTI (cj @h1 (cj @k1 @gb))) ?_
              exact fr
            · rw [decide_eq_true c1, decide_eq_true c2, decide_eq_false c3]
              refine go (cj rTI (cj @h1 (cj @k1 (cj @k21 (cj @k22 @gb))))) ?_
              refine ifs ?_ ?_ <;> first | exact nope | intro hb
              refine go (cj rTI (cj @h1 (cj @k1 (cj @k21 (cj @k22 @gb))))) ?_
              refine ifs ?_ ?_ <;> first | exact nope | intro hb
              refine go (cj rTI @h1) ?_
              refine ifs ?_ ?_ <;> first | exact nope | intro hb
              refine go (cj rTI @h1) ?_
              refine ifs ?_ ?_ <;> first | exact nope | intro hb
              refine go (cj rTI @h1) ?_
              refine ifs ?_ ?_ <;> first | exact nope | intro hb
              refine go (cj rTI (cj @h1 (cj @k1 @gb))) ?_
              exact fr
          rw [if_neg q4]
          refine go (cj rTI (cj @h1 (cj @k1 (cj @k21 (cj @k22 @gb))))) ?_
          refine ifs ?_ ?_ <;> first | exact nope | intro hb
          refine go (cj rTI (cj @h1 (cj @k1 (cj @k21 (cj @k22 @gb))))) ?_
          refine ifs ?_ ?_ <;> first | exact nope | intro hb
          refine go (cj rTI @h1) ?_
          refine ifs ?_ ?_ <;> first | exact nope | intro hb
          refine go (cj rTI @h1) ?_
          refine ifs ?_ ?_ <;> first | exact nope | intro hb
          refine go (cj rTI @h1) ?_
          refine ifs ?_ ?_ <;> first | exact nope | intro hb
          refine go (cj rTI @h1) ?_
          exact fr
end Go.Proofs.YtfjelkjlfcafgaaGreatDoor.CardH
end
section
/- Models, plain: what is written is read; and a source with a number alone. -/
namespace Go.Proofs.YtfjelkjlfcafgaaGreatDoor.CardQ
open Go.Proofs.YtfjelkjlfcafgaaGreatDoor.NumS Go.Proofs.YtfjelkjlfcafgaaGreatDoor.RefM Go.Proofs.YtfjelkjlfcafgaaGreatDoor.CardS Go.Proofs.YtfjelkjlfcafgaaGreatDoor.NumH Go.Proofs.YtfjelkjlfcafgaaGreatDoor.CardP
theorem zipM_parts : ∀ (x : Str) (vs gs : List Num), vs.length = gs.length → evens (x :: zipM vs gs) = x :: gs.map textN ∧ odds (x :: zipM vs gs) = vs.map textN ∧ (zipM vs gs).length = 2 * vs.length
  | x, [], [], _ => ⟨rfl, rfl, rfl⟩
  | x, v :: vs, g :: gs, h => by
    obtain ⟨q1, q2, q3⟩ := zipM_parts (textN g) vs gs (by simpa using h)
    refine ⟨?_, ?_, ?_⟩
    · show x :: evens (textN g :: zipM vs gs) = _
      rw [q1]
      rfl
    · show textN v :: odds (textN g :: zipM vs gs) = _
      rw [q2]
      rfl
    · show (zipM vs gs).length + 1 + 1 = _
      rw [q3, List.length_cons]
      omega
  | _, [], _ :: _, h => by simp at h
  | _, _ :: _, [], h => by simp at h
theorem zipM_err : ∀ (vs gs : List Num) (e : Int), vs.all valid = true → gs.all valid = true → numsE (zipM vs gs) e = e
  | [], _, _, _, _ => rfl
  | _ :: _, [], _, _, _ => rfl
  | v :: vs, g :: gs, e, hv, hg => by
    rw [List.all_cons, Bool.and_eq_true] at hv hg
    show numsE (zipM vs gs) (numE (textN g) (numE (textN v) e)) = e
    rw [(text_read v hv.1).2, (text_read g hg.1).2]
    exact zipM_err vs gs e hv.2 hg.2
theorem all_text (l : List Num) (h : l.all valid = true) : (l.map textN).map numV = l := (nums_text l 0 h).2
theorem model_back (m : Mdl) (h : modelOk m = true) : readM (modelT m) = (m, 0) := by
  have h0 := h
  unfold modelOk at h
  simp only [Bool.and_eq_true] at h
  obtain ⟨⟨⟨h1, h2⟩, h3⟩, h4⟩ := h
  obtain ⟨nm, k, g, v⟩ := m
  simp only at h1 h2 h3 h4
  have hk : (k = 115 ∧ g.length = 2 ∧ v.length = 1) ∨ (k = 100 ∧ 1 ≤ g.length ∧ g.length ≤ 4 ∧ v.length + 1 = g.length) := by
    by_cases k1 : k = 115
    · rw [if_pos k1, decide_eq_true_iff] at h4
      exact .inl ⟨k1, h4⟩
    · rw [if_neg k1] at h4
      by_cases k2 : k = 100
      · rw [if_pos k2, Bool.and_eq_true, decide_eq_true_iff] at h4
        exact .inr ⟨k2, h4.1⟩
      · rw [if_neg k2] at h4
        cases h4
  match g, h2 with
  | [], _ => simp at hk
  | g0 :: gs, h2 =>
    rw [List.all_cons, Bool.and_eq_true] at h2
    have hl : v.length = gs.length := by simp only [List.length_cons] at hk; omega
    obtain ⟨q1, q2, q3⟩ := zipM_parts (textN g0) v gs hl
    obtain ⟨q4, q5⟩ := text_read g0 h2.1
    have hm : modelT ⟨nm, k, g0 :: gs, v⟩ = sModel :: nm :: [k.toNat] :: textN g0 :: zipM v gs := rfl
    have he : numsE (textN g0 :: zipM v gs) 0 = 0 := by
      show numsE (zipM v gs) (numE (textN g0) 0) = 0
      rw [q5]
      exact zipM_err v gs 0 h3 h2.2
    unfold readM
    rw [hm]
    simp only [List.getD_cons_zero, List.getD_cons_succ, List.drop_succ_cons, List.drop_zero, List.length_cons]
    have hkk : ([k.toNat] : Str) = [100] ∨ ([k.toNat] : Str) = [115] := by
      rcases hk with ⟨rfl, _⟩ | ⟨rfl, _⟩
      · exact .inr rfl
      · exact .inl rfl
    have hkn : ((k.toNat : Nat) : Int) = k := by
      rcases hk with ⟨rfl, _⟩ | ⟨rfl, _⟩ <;> rfl
    rw [if_pos (by
      refine ⟨by omega, trivial, hkk, ?_, ?_, fun q => ?_⟩
      · rw [q3]; omega
      · rw [q3]
        simp only [List.length_cons] at hk
        omega
      · rw [q3]
        injection q with q _
        simp only [List.length_cons] at hk
        omega), if_pos h1]
    rw [q1, q2, he]
    rw [if_neg (by decide), List.map_cons, all_text _ h2.2, all_text _ h3, q4, hkn, if_pos h0]
theorem readM_right (l : List Str) (m : Mdl) (h : readM l = (m, 0)) : modelOk m = true := by
  unfold readM at h
  simp only at h
  split at h
  · split at h
    · split at h
      · rename_i q
        exact absurd (congrArg Prod.snd h) q
      · split at h
        · rename_i q
          have e := congrArg Prod.fst h
          simp only at e
          rw [← e]
          exact q
        · exact absurd (congrArg Prod.snd h) (show ¬ (50 : Int) = 0 by decide)
    · exact absurd (congrArg Prod.snd h) (show ¬ (71 : Int) = 0 by decide)
  · exact absurd (congrArg Prod.snd h) (show ¬ (70 : Int) = 0 by decide)
theorem readM_no (l : List Str) (h : (readM l).2 ≠ 0) : (readM l).1 = mdl0 := by
  revert h
  unfold readM
  simp only
  (repeat' split) <;> intro h <;> first | rfl | exact absurd rfl h
end Go.Proofs.YtfjelkjlfcafgaaGreatDoor.CardQ
end
