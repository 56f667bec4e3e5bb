/- Plain lists: what Lines answers. -/
import Derived.Test.YtppmamcoehhopaaDoorLexA
import Derived.Test.YtppmamcoehhopaaDoorLexM
namespace Go.Proofs.YtppmamcoehhopaaDoor.LexE
open Go.RowKit Go.Proofs.YtppmamcoehhopaaDoor.Base Go.Proofs.YtppmamcoehhopaaDoor.LexA Go.Proofs.YtppmamcoehhopaaDoor.LexB Go.Proofs.YtppmamcoehhopaaDoor.LexM
set_option linter.unusedVariables false

abbrev W := List (List UInt8)
abbrev LL := List (Nat × W)
def addLast : LL → W → LL
  | [], _ => []
  | [(a, x)], y => [(a, x ++ y)]
  | p :: q :: L, y => p :: addLast (q :: L) y
theorem addLast_snoc : ∀ (L : LL) (a : Nat) (x y : W), addLast (L ++ [(a, x)]) y = L ++ [(a, x ++ y)]
  | [], _, _, _ => rfl
  | [p], _, _, _ => rfl
  | p :: q :: L, a, x, y => by
    have := addLast_snoc (q :: L) a x y
    simp only [List.cons_append] at this ⊢
    rw [addLast, this]
def lastLen : LL → Nat
  | [] => 0
  | [(_, x)] => x.length
  | _ :: q :: L => lastLen (q :: L)
theorem lastLen_snoc : ∀ (L : LL) (a : Nat) (x : W), lastLen (L ++ [(a, x)]) = x.length
  | [], _, _ => rfl
  | [p], _, _ => rfl
  | p :: q :: L, a, x => by
    have := lastLen_snoc (q :: L) a x
    simp only [List.cons_append] at this ⊢
    rw [lastLen, this]
/-- What a line that goes on adds. -/
def plusWords : W → W
  | (_ :: t) :: ws => if t.isEmpty then ws else t :: ws
  | w => w
/-- One line's words: its error, or the lines with it. -/
def stepWords (n : Nat) (L : LL) : W → Int × LL
  | [] => (0, L)
  | (43 :: t) :: ws => if L.isEmpty then (61, []) else if 64 < lastLen (addLast L (plusWords ((43 :: t) :: ws))) then (7, []) else (0, addLast L (plusWords ((43 :: t) :: ws)))
  | w => if 64 < w.length then (7, []) else (0, L ++ [(n, w)])
theorem stepWords_new (n : Nat) (L : LL) (c : UInt8) (t : List UInt8) (ws : W) (h : ¬ c = 43) : stepWords n L ((c :: t) :: ws) = if 64 < ((c :: t) :: ws).length then (7, []) else (0, L ++ [(n, (c :: t) :: ws)]) := by
  unfold stepWords
  split
  · rename_i e; cases e
  · rename_i e; injection e with e1 e2; injection e1 with e1 e3; exact absurd e1 h
  · rfl
theorem stepWords_plus (n : Nat) (L : LL) (t : List UInt8) (ws : W) : stepWords n L ((43 :: t) :: ws) = if L.isEmpty then (61, []) else if 64 < lastLen (addLast L (plusWords ((43 :: t) :: ws))) then (7, []) else (0, addLast L (plusWords ((43 :: t) :: ws))) := rfl
/-- One line. -/
def lexStep (n : Nat) (L : LL) (line : List UInt8) : Int × LL := if cleanL line then stepWords n L (lexWords line) else (60, [])
def lexFold : Nat → LL → List (List UInt8) → LL × Int × Int
  | _, L, [] => (L, 0, 0)
  | n, L, x :: xs => if (lexStep n L x).1 = 0 then lexFold (n + 1) (lexStep n L x).2 xs else ([], n, (lexStep n L x).1)
def linesGo : List UInt8 → List UInt8 → List (List UInt8)
  | cur, [] => if cur.isEmpty then [] else [cur]
  | cur, b :: t => if b == 10 then cur :: linesGo [] t else linesGo (cur ++ [b]) t
def linesOf (t : List UInt8) : List (List UInt8) := linesGo [] t
/-- What Lines answers. -/
def lexAll (t : List UInt8) : LL × Int × Int := if 65536 < t.length then ([], 0, 2) else lexFold 1 [] (linesOf t)

theorem linesGo_pre : ∀ (t cur : List UInt8), cur ++ t ≠ [] → linesGo cur t = (cur ++ pre t 10) :: linesOf (post t 10)
  | [], cur, h => by
    have hc : cur.isEmpty = false := by simpa using h
    rw [linesGo, hc]
    simp [pre, post, linesOf, linesGo]
  | b :: t, cur, h => by
    by_cases hb : b = 10
    · subst hb
      rw [linesGo]
      simp [pre, post, linesOf]
    · have h1 : (b == 10) = false := by simpa using hb
      have h2 : (b != 10) = true := by simpa using hb
      rw [linesGo, h1]
      have := linesGo_pre t (cur ++ [b]) (by simp)
      simp only [Bool.false_eq_true, if_false]
      rw [this]
      simp [pre, post, h2]
theorem linesOf_cons (t : List UInt8) (h : t ≠ []) : linesOf t = pre t 10 :: linesOf (post t 10) := by
  have := linesGo_pre t [] (by simpa using h)
  simpa [linesOf] using this
theorem linesOf_nil : linesOf [] = [] := rfl

theorem post_length (t : List UInt8) (c : UInt8) (h : t ≠ []) : (post t c).length < t.length := by
  unfold post
  rw [List.length_drop]
  have := (List.dropWhile_suffix (· != c) (l := t)).length_le
  have := List.length_pos_iff.2 h
  omega
theorem pre_length (t : List UInt8) (c : UInt8) : (pre t c).length ≤ t.length := (List.takeWhile_prefix _).length_le

theorem fieldsGo_length : ∀ (l cur : List UInt8), (fieldsGo cur l).length ≤ l.length + 1
  | [], cur => by
    rw [fieldsGo]
    split <;> simp
  | b :: l, cur => by
    rw [fieldsGo]
    have h1 := fieldsGo_length l []
    have h2 := fieldsGo_length l (cur ++ [b])
    split
    · split
      · simp; omega
      · simp; omega
    · simp; omega
theorem lexWords_length (l : List UInt8) : (lexWords l).length ≤ l.length + 1 := by
  have h1 := fieldsGo_length ((pre l 59).map Lib.lowerB) []
  rw [List.length_map] at h1
  have h2 := pre_length l 59
  have h3 : (fieldsB ((pre l 59).map Lib.lowerB)).length ≤ l.length + 1 := by unfold fieldsB; omega
  unfold lexWords
  split
  · simp
  · exact h3
theorem lexWords_ne (l : List UInt8) : ∀ x ∈ lexWords l, x ≠ [] := by
  unfold lexWords
  split
  · simp
  · exact fieldsB_ne _
theorem clean_ascii (l : List UInt8) (h : cleanL l = true) : ∀ b ∈ l, b.toNat < 128 := by
  intro b hb
  have := List.all_eq_true.1 h b hb
  rw [okB_iff] at this
  omega
/-! Bounds: places and numbers of lines. -/
theorem addLast_at (m : Nat) : ∀ (L : LL) (y : W), (∀ p ∈ L, p.1 ≤ m) → ∀ p ∈ addLast L y, p.1 ≤ m
  | [], _, _, p, hp => by simp [addLast] at hp
  | [(a, x)], y, h, p, hp => by
    simp only [addLast, List.mem_singleton] at hp
    subst hp
    exact h (a, x) (by simp)
  | q :: r :: L, y, h, p, hp => by
    rw [addLast] at hp
    rcases List.mem_cons.1 hp with rfl | hp
    · exact h _ (by simp)
    · exact addLast_at m (r :: L) y (fun p hp => h p (List.mem_cons_of_mem _ hp)) p hp
theorem stepWords_at (n m : Nat) (L : LL) (w : W) (hn : n ≤ m) (h : ∀ p ∈ L, p.1 ≤ m) : ∀ p ∈ (stepWords n L w).2, p.1 ≤ m := by
  unfold stepWords
  split
  · exact h
  · split
    · simp
    · split
      · simp
      · exact addLast_at m L _ h
  · split
    · simp
    · intro p hp
      rcases List.mem_append.1 hp with hp | hp
      · exact h p hp
      · rw [List.mem_singleton] at hp
        subst hp
        exact hn
theorem lexStep_at (n m : Nat) (L : LL) (x : List UInt8) (hn : n ≤ m) (h : ∀ p ∈ L, p.1 ≤ m) : ∀ p ∈ (lexStep n L x).2, p.1 ≤ m := by
  unfold lexStep
  split
  · exact stepWords_at n m L _ hn h
  · simp
theorem lexFold_place : ∀ (xs : List (List UInt8)) (n : Nat) (L : LL), 0 ≤ (lexFold n L xs).2.1 ∧ (lexFold n L xs).2.1 ≤ (n : Int) + xs.length
  | [], n, L => by simp only [lexFold, List.length_nil]; omega
  | x :: xs, n, L => by
    rw [lexFold]
    have ih := lexFold_place xs (n + 1) (lexStep n L x).2
    split
    · rw [List.length_cons]
      omega
    · simp only [List.length_cons]
      omega
theorem lexFold_at : ∀ (xs : List (List UInt8)) (n : Nat) (L : LL), (∀ p ∈ L, p.1 ≤ n) → ∀ p ∈ (lexFold n L xs).1, p.1 ≤ n + xs.length
  | [], n, L, h, p, hp => h p hp
  | x :: xs, n, L, h, p, hp => by
    rw [lexFold] at hp
    split at hp
    · have := lexFold_at xs (n + 1) (lexStep n L x).2 (fun p hp => Nat.le_succ_of_le (lexStep_at n n L x (Nat.le_refl _) h p hp)) p hp
      rw [List.length_cons]
      omega
    · simp at hp
theorem linesGo_length : ∀ (t cur : List UInt8), (linesGo cur t).length ≤ t.length + 1
  | [], cur => by
    rw [linesGo]
    split <;> simp
  | b :: t, cur => by
    rw [linesGo]
    have h1 := linesGo_length t []
    have h2 := linesGo_length t (cur ++ [b])
    split
    · simp; omega
    · simp; omega
theorem lexAll_place (t : List UInt8) : 0 ≤ (lexAll t).2.1 ∧ (lexAll t).2.1 ≤ 65538 := by
  unfold lexAll
  split
  · simp
  · have h1 := lexFold_place (linesOf t) 1 []
    have h2 := linesGo_length t []
    unfold linesOf at *
    omega
theorem lexAll_at (t : List UInt8) : ∀ p ∈ (lexAll t).1, p.1 ≤ 65538 := by
  unfold lexAll
  split
  · simp
  · intro p hp
    have h1 := lexFold_at (linesOf t) 1 [] (by simp) p hp
    have h2 := linesGo_length t []
    unfold linesOf at *
    omega
theorem addLast_length : ∀ (L : LL) (y : W), (addLast L y).length = L.length
  | [], _ => rfl
  | [(a, x)], y => rfl
  | p :: q :: L, y => by
    have := addLast_length (q :: L) y
    rw [addLast, List.length_cons, this]
    rfl
theorem lexStep_count (n : Nat) (L : LL) (x : List UInt8) : (lexStep n L x).2.length ≤ L.length + 1 := by
  unfold lexStep
  split
  · unfold stepWords
    split
    · simp
    · split
      · simp
      · split
        · simp
        · rw [addLast_length]; omega
    · split
      · simp
      · simp
  · simp
theorem lexFold_count : ∀ (xs : List (List UInt8)) (n : Nat) (L : LL), (lexFold n L xs).1.length ≤ L.length + xs.length
  | [], n, L => by simp [lexFold]
  | x :: xs, n, L => by
    rw [lexFold]
    have h1 := lexFold_count xs (n + 1) (lexStep n L x).2
    have h2 := lexStep_count n L x
    split
    · rw [List.length_cons]; omega
    · simp
theorem lexAll_count (t : List UInt8) : (lexAll t).1.length ≤ 65537 := by
  unfold lexAll
  split
  · simp
  · have h1 := lexFold_count (linesOf t) 1 []
    have h2 := linesGo_length t []
    unfold linesOf at *
    simp at h1
    omega
end Go.Proofs.YtppmamcoehhopaaDoor.LexE
