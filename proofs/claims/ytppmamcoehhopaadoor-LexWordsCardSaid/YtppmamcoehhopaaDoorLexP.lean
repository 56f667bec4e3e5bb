/- Plain lists: great letters and tabs count as small ones and blanks. -/
import Derived.Test.YtppmamcoehhopaaDoorLexE
namespace Go.Proofs.YtppmamcoehhopaaDoor.LexP
open Go.RowKit Go.Proofs.YtppmamcoehhopaaDoor.Base Go.Proofs.YtppmamcoehhopaaDoor.LexA Go.Proofs.YtppmamcoehhopaaDoor.LexB Go.Proofs.YtppmamcoehhopaaDoor.LexM Go.Proofs.YtppmamcoehhopaaDoor.LexE
set_option linter.unusedVariables false

/-- A fact of every byte, asked of each. -/
theorem all_bytes (p : UInt8 → Bool) (h : ((List.range 256).all fun n => p (UInt8.ofNat n)) = true) (b : UInt8) : p b = true := by
  have h1 := List.all_eq_true.1 h b.toNat (List.mem_range.2 b.toNat_lt)
  rwa [UInt8.ofNat_toNat] at h1

def turnB (b : UInt8) : UInt8 := if 97 ≤ b && b ≤ 122 then b - 32 else if b == 32 then 9 else b
theorem turn_ten (b : UInt8) : (turnB b == 10) = (b == 10) := by
  have := all_bytes (fun b => (turnB b == 10) == (b == 10)) (by decide +kernel) b
  simpa using this
theorem turn_semi (b : UInt8) : (turnB b != 59) = (b != 59) := by
  have := all_bytes (fun b => (turnB b != 59) == (b != 59)) (by decide +kernel) b
  exact eq_of_beq this
theorem turn_ok (b : UInt8) : okB (turnB b) = okB b := by
  have := all_bytes (fun b => okB (turnB b) == okB b) (by decide +kernel) b
  exact eq_of_beq this
theorem turn_lower (b : UInt8) : (Lib.lowerB (turnB b) == Lib.lowerB b || (blankB (Lib.lowerB (turnB b)) && blankB (Lib.lowerB b))) = true :=
  all_bytes (fun b => (Lib.lowerB (turnB b) == Lib.lowerB b || (blankB (Lib.lowerB (turnB b)) && blankB (Lib.lowerB b)))) (by decide +kernel) b

theorem fieldsGo_turn : ∀ (l cur : List UInt8), fieldsGo cur ((l.map turnB).map Lib.lowerB) = fieldsGo cur (l.map Lib.lowerB)
  | [], _ => rfl
  | b :: l, cur => by
    simp only [List.map_cons]
    have h := turn_lower b
    rw [Bool.or_eq_true] at h
    rcases h with h | h
    · rw [eq_of_beq h, fieldsGo, fieldsGo, fieldsGo_turn l, fieldsGo_turn l]
    · rw [Bool.and_eq_true] at h
      rw [fieldsGo, fieldsGo, if_pos h.1, if_pos h.2, fieldsGo_turn l]
theorem pre_turn (l : List UInt8) : pre (l.map turnB) 59 = (pre l 59).map turnB := by
  unfold pre
  rw [List.takeWhile_map]
  congr 2
  funext b
  exact turn_semi b
theorem lexWords_turn (l : List UInt8) : lexWords (l.map turnB) = lexWords l := by
  unfold lexWords fieldsB
  rw [pre_turn, fieldsGo_turn]
theorem cleanL_turn (l : List UInt8) : cleanL (l.map turnB) = cleanL l := by
  unfold cleanL
  rw [List.all_map]
  congr 1
  funext b
  exact turn_ok b
theorem lexStep_turn (n : Nat) (L : LL) (l : List UInt8) : lexStep n L (l.map turnB) = lexStep n L l := by
  unfold lexStep
  rw [cleanL_turn, lexWords_turn]
theorem lexFold_turn : ∀ (xs : List (List UInt8)) (n : Nat) (L : LL), lexFold n L (xs.map fun l => l.map turnB) = lexFold n L xs
  | [], _, _ => rfl
  | x :: xs, n, L => by
    rw [List.map_cons, lexFold, lexFold, lexStep_turn, lexFold_turn xs]
theorem linesGo_turn : ∀ (t cur : List UInt8), linesGo (cur.map turnB) (t.map turnB) = (linesGo cur t).map fun l => l.map turnB
  | [], cur => by
    rw [List.map_nil, linesGo, linesGo]
    cases cur <;> rfl
  | b :: t, cur => by
    rw [List.map_cons, linesGo, linesGo, turn_ten]
    have h0 := linesGo_turn t []
    have h1 := linesGo_turn t (cur ++ [b])
    rw [List.map_nil] at h0
    rw [List.map_append] at h1
    split
    · rw [h0]; rfl
    · exact h1
theorem lexAll_turn (t : List UInt8) : lexAll (t.map turnB) = lexAll t := by
  unfold lexAll linesOf
  rw [List.length_map]
  split
  · rfl
  · have := linesGo_turn t []
    rw [List.map_nil] at this
    rw [this, lexFold_turn]
end Go.Proofs.YtppmamcoehhopaaDoor.LexP
