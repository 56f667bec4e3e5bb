/- Plain lists: what Lines answers. -/
import Derived.Test.YtppmamcoehhopaaDoorLexA
import Derived.Test.YtppmamcoehhopaaDoorLexM
namespace Go.Proofs.YtppmamcoehhopaaDoor.LexE
open Go.RowKit Go.Proofs.YtppmamcoehhopaaDoor.Base Go.Proofs.YtppmamcoehhopaaDoor.LexA Go.Proofs.YtppmamcoehhopaaDoor.LexB Go.Proofs.YtppmamcoehhopaaDoor.LexM
set_option linter.unusedVariables false

abbrev W := List (List UInt8)
abbrev LL := List (Nat × W)
def addLast : LL → W → LL
  | [], _ => []
  | [(a, x)], y => [(a, x ++ y)]
  | p :: q :: L, y => p :: addLast (q :: L) y
theorem addLast_snoc : ∀ (L : LL) (a : Nat) (x y : W), addLast (L ++ [(a, x)]) y = L ++ [(a, x ++ y)]
  | [], _, _, _ => rfl
  | [p], _, _, _ => rfl
  | p :: q :: L, a, x, y => by
    have := addLast_snoc (q :: L) a x y
    simp only [List.cons_append] at this ⊢
    rw [addLast, this]
def lastLen : LL → Nat
  | [] => 0
  | [(_, x)] => x.length
  | _ :: q :: L => lastLen (q :: L)
theorem lastLen_snoc : ∀ (L : LL) (a : Nat) (x : W), lastLen (L ++ [(a, x)]) = x.length
  | [], _, _ => rfl
  | [p], _, _ => rfl
  | p :: q :: L, a, x => by
    have := lastLen_snoc (q :: L) a x
    simp only [List.cons_append] at this ⊢
    rw [lastLen, this]
/-- What a line that goes on adds. -/
def plusWords : W → W
  | (_ :: t) :: ws => if t.isEmpty then ws else t :: ws
  | w => w
/-- One line's words: its error, or the lines with it. -/
def stepWords (n : Nat) (L : LL) : W → Int × LL
  | [] => (0, L)
  | (43 :: t) :: ws => if L.isEmpty then (61, []) else if 64 < lastLen (addLast L (plusWords ((43 :: t) :: ws))) then (7, []) else (0, addLast L (plusWords ((43 :: t) :: ws)))
  | w => if 64 < w.length then (7, []) else (0, L ++ [(n, w)])
theorem stepWords_new (n : Nat) (L : LL) (c : UInt8) (t : List UInt8) (ws : W) (h : ¬ c = 43) : stepWords n L ((c :: t) :: ws) = if 64 < ((c :: t) :: ws).length then (7, []) else (0, L ++ [(n, (c :: t) :: ws)]) := by
  unfold stepWords
  split
  · rename_i e; cases e
  · rename_i e; injection e with e1 e2; injection e1 with e1 e3; exact absurd e1 h
  · rfl
theorem stepWords_plus (n : Nat) (L : LL) (t : List UInt8) (ws : W) : stepWords n L ((43 :: t) :: ws) = if L.isEmpty then (61, []) else if 64 < lastLen (addLast L (plusWords ((43 :: t) :: ws))) then (7, []) else (0, addLast L (plusWords ((43 :: t) :: ws))) := rfl
/-- One line. -/
def lexStep (n : Nat) (L : LL) (line : List UInt8) : Int × LL := if cleanL line then stepWords n L (lexWords line) else (60, [])
def lexFold : Nat → LL → List (List UInt8) → LL × Int × Int
  | _, L, [] => (L, 0, 0)
  | n, L, x :: xs => if (lexStep n L x).1 = 0 then lexFold (n + 1) (lexStep n L x).2 xs else ([], n, (lexStep n L x).1)
def linesGo : List UInt8 → List UInt8 → List (List UInt8)
  | cur, [] => if cur.isEmpty then [] else [cur]
  | cur, b :: t => if b == 10 then cur :: linesGo [] t else linesGo (cur ++ [b]) t
def linesOf (t : List UInt8) : List (List UInt8) := linesGo [] t
/-- What Lines answers. -/
def lexAll (t : List UInt8) : LL × Int × Int := if 65536 < t.length then ([], 0, 2) else lexFold 1 [] (linesOf t)

theorem linesGo_pre : ∀ (t cur : List UInt8), cur ++ t ≠ [] → linesGo cur t = (cur ++ pre t 10) :: linesOf (post t 10)
  | [], cur, h => by
    have hc : cur.isEmpty = false := by simpa using h
    rw [linesGo, hc]
    simp [pre, post, linesOf, linesGo]
  | b :: t, cur, h => by
    by_cases hb : b = 10
    · subst hb
      rw [linesGo]
      simp [pre, post, linesOf]
    · have h1 : (b == 10) = false := by simpa using hb
      have h2 : (b != 10) = true := by simpa using hb
      rw [linesGo, h1]
      have := linesGo_pre t (cur ++ [b]) (by simp)
      simp only [Bool.false_eq_true, if_false]
      rw [this]
      simp [pre, post, h2]
theorem linesOf_cons (t : List UInt8) (h : t ≠ []) : linesOf t = pre t 10 :: linesOf (post t 10) := by
  have := linesGo_pre t [] (by simpa using h)
  simpa [linesOf] using this
theorem linesOf_nil : linesOf [] = [] := rfl

theorem post_length (t : List UInt8) (c : UInt8) (h : t ≠ []) : (post t c).length < t.length := by
  unfold post
  rw [List.length_drop]
  have := (List.dropWhile_suffix (· != c) (l := t)).length_le
  have := List.length_pos_iff.2 h
  omega
theorem pre_length (t : List UInt8) (c : UInt8) : (pre t c).length ≤ t.length := (List.takeWhile_prefix _).length_le

theorem fieldsGo_length : ∀ (l cur : List UInt8), (fieldsGo cur l).length ≤ l.length + 1
  | [], cur => by
    rw [fieldsGo]
    split <;> simp
  | b :: l, cur => by
    rw [fieldsGo]
    have h1 := fieldsGo_length l []
    have h2 := fieldsGo_length l (cur ++ [b])
    split
    · split
      · simp; omega
      · simp; omega
    · simp; omega
theorem lexWords_length (l : List UInt8) : (lexWords l).length ≤ l.length + 1 := by
  have h1 := fieldsGo_length ((pre l 59).map Lib.lowerB) []
  rw [List.length_map] at h1
  have h2 := pre_length l 59
  have h3 : (fieldsB ((pre l 59).map Lib.lowerB)).length ≤ l.length + 1 := by unfold fieldsB; omega
  unfold lexWords
  split
  · simp
  · exact h3
theorem lexWords_ne (l : List UInt8) : ∀ x ∈ lexWords l, x ≠ [] := by
  unfold lexWords
  split
  · simp
  · exact fieldsB_ne _
theorem clean_ascii (l : List UInt8) (h : cleanL l = true) : ∀ b ∈ l, b.toNat < 128 := by
  intro b hb
  have := List.all_eq_true.1 h b hb
  rw [okB_iff] at this
  omega
end Go.Proofs.YtppmamcoehhopaaDoor.LexE
