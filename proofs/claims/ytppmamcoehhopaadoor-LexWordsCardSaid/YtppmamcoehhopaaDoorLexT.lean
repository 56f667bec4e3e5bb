/- Plain lists: two texts, one behind the other. -/
import Derived.Test.YtppmamcoehhopaaDoorLexR
namespace Go.Proofs.YtppmamcoehhopaaDoor.LexT
open Go.RowKit Go.Proofs.YtppmamcoehhopaaDoor.Base Go.Proofs.YtppmamcoehhopaaDoor.LexA Go.Proofs.YtppmamcoehhopaaDoor.LexB Go.Proofs.YtppmamcoehhopaaDoor.LexM Go.Proofs.YtppmamcoehhopaaDoor.LexE Go.Proofs.YtppmamcoehhopaaDoor.LexR
set_option linter.unusedVariables false

/-- All pieces, a last one without bytes too. -/
def piecesGo : List UInt8 → List UInt8 → List (List UInt8)
  | cur, [] => [cur]
  | cur, b :: t => if b == 10 then cur :: piecesGo [] t else piecesGo (cur ++ [b]) t
def tens (t : List UInt8) : Nat := t.countP (· == 10)
theorem pieces_length : ∀ (t cur : List UInt8), (piecesGo cur t).length = 1 + tens t
  | [], _ => rfl
  | b :: t, cur => by
    rw [piecesGo]
    have h1 := pieces_length t []
    have h2 := pieces_length t (cur ++ [b])
    by_cases h : (b == 10) = true
    · have e : tens (b :: t) = tens t + 1 := List.countP_cons_of_pos h
      rw [if_pos h, List.length_cons, h1, e]
      omega
    · have e : tens (b :: t) = tens t := List.countP_cons_of_neg h
      rw [if_neg h, h2, e]
theorem pieces_lines : ∀ (t cur : List UInt8), piecesGo cur t = linesGo cur t ∨ piecesGo cur t = linesGo cur t ++ [[]]
  | [], cur => by
    rw [piecesGo, linesGo]
    cases cur with
    | nil => exact .inr rfl
    | cons c cs => exact .inl rfl
  | b :: t, cur => by
    rw [piecesGo, linesGo]
    by_cases h : (b == 10) = true
    · rw [if_pos h, if_pos h]
      rcases pieces_lines t [] with e | e
      · exact .inl (by rw [e])
      · exact .inr (by rw [e]; rfl)
    · rw [if_neg h, if_neg h]
      exact pieces_lines t (cur ++ [b])
theorem lines_joined : ∀ (a cur b : List UInt8), linesGo cur (a ++ 10 :: b) = piecesGo cur a ++ linesGo [] b
  | [], cur, b => by
    rw [List.nil_append, linesGo_ten]
    rfl
  | x :: a, cur, b => by
    rw [List.cons_append, linesGo, piecesGo]
    by_cases h : (x == 10) = true
    · rw [if_pos h, if_pos h, lines_joined a [] b]
      rfl
    · rw [if_neg h, if_neg h, lines_joined a _ b]

theorem fold_append : ∀ (xs ys : List (List UInt8)) (n : Nat) (L : LL), lexFold n L (xs ++ ys) = if (lexFold n L xs).2.2 = 0 then lexFold (n + xs.length) (lexFold n L xs).1 ys else lexFold n L xs
  | [], ys, n, L => rfl
  | x :: xs, ys, n, L => by
    rw [List.cons_append, lexFold_cons, lexFold_cons]
    by_cases h : (lexStep n L x).1 = 0
    · rw [if_pos h, if_pos h, fold_append xs ys (n + 1)]
      have e : n + 1 + xs.length = n + (x :: xs).length := by rw [List.length_cons]; omega
      rw [e]
    · rw [if_neg h, if_neg h, if_neg h]
theorem fold_empty (n : Nat) (L : LL) (xs : List (List UInt8)) : lexFold n L (xs ++ [[]]) = lexFold n L xs := by
  rw [fold_append]
  by_cases h : (lexFold n L xs).2.2 = 0
  · rw [if_pos h, lexFold_cons, lexStep_none _ _ [] (by decide) (by decide), if_pos rfl]
    show ((lexFold n L xs).1, (0 : Int), (0 : Int)) = _
    have h2 := fold_zero xs n L h
    exact Prod.ext rfl (Prod.ext h2.symm h.symm)
  · rw [if_neg h]
where
  fold_zero : ∀ (xs : List (List UInt8)) (n : Nat) (L : LL), (lexFold n L xs).2.2 = 0 → (lexFold n L xs).2.1 = 0
    | [], _, _, _ => rfl
    | x :: xs, n, L, h => by
      rw [lexFold_cons] at h ⊢
      by_cases h1 : (lexStep n L x).1 = 0
      · rw [if_pos h1] at h ⊢
        exact fold_zero xs _ _ h
      · rw [if_neg h1] at h
        exact absurd h h1
theorem fold_err : ∀ (xs : List (List UInt8)) (n : Nat) (L : LL), ¬ (lexFold n L xs).2.2 = 0 → (lexFold n L xs).1 = []
  | [], _, _, h => absurd rfl h
  | x :: xs, n, L, h => by
    rw [lexFold_cons] at h ⊢
    by_cases h1 : (lexStep n L x).1 = 0
    · rw [if_pos h1] at h ⊢
      exact fold_err xs _ _ h
    · rw [if_neg h1]

def shift (m : Nat) (L : LL) : LL := L.map fun p => (m + p.1, p.2)
theorem add_shift (m : Nat) (X : LL) : ∀ (L : LL) (y : W), ¬ L = [] → addLast (X ++ shift m L) y = X ++ shift m (addLast L y) := by
  intro L y h
  rcases List.eq_nil_or_concat L with rfl | ⟨Q, ⟨a, x⟩, rfl⟩
  · exact absurd rfl h
  · rw [List.concat_eq_append, addLast_snoc]
    unfold shift
    rw [List.map_append, List.map_append, ← List.append_assoc, ← List.append_assoc]
    exact addLast_snoc _ _ _ _
theorem last_shift (m : Nat) (X : LL) (L : LL) (h : ¬ L = []) : lastLen (X ++ shift m L) = lastLen L := by
  rcases List.eq_nil_or_concat L with rfl | ⟨Q, ⟨a, x⟩, rfl⟩
  · exact absurd rfl h
  · rw [List.concat_eq_append, lastLen_snoc]
    unfold shift
    rw [List.map_append, ← List.append_assoc]
    exact lastLen_snoc _ _ _
theorem addLast_ne (L : LL) (y : W) (h : ¬ L = []) : ¬ addLast L y = [] := by
  rcases List.eq_nil_or_concat L with rfl | ⟨Q, ⟨a, x⟩, rfl⟩
  · exact absurd rfl h
  · rw [List.concat_eq_append, addLast_snoc]
    simp
theorem step_shift (m k : Nat) (X L : LL) (w : W) (h : ¬ (stepWords k L w).1 = 61) : (stepWords (m + k) (X ++ shift m L) w).1 = (stepWords k L w).1 ∧ ((stepWords k L w).1 = 0 → (stepWords (m + k) (X ++ shift m L) w).2 = X ++ shift m (stepWords k L w).2) := by
  unfold stepWords at h ⊢
  split at h
  · exact ⟨rfl, fun _ => rfl⟩
  · rename_i t ws
    by_cases hL : L = []
    · subst hL
      exact absurd rfl h
    · have e1 : L.isEmpty = false := by simpa using hL
      have e2 : (X ++ shift m L).isEmpty = false := by
        cases L with
        | nil => exact absurd rfl hL
        | cons p L => simp [shift]
      rw [e1, e2, add_shift m X L _ hL, last_shift m X _ (addLast_ne L _ hL)]
      simp only [Bool.false_eq_true, if_false]
      split
      · exact ⟨rfl, fun h => by simp at h⟩
      · exact ⟨rfl, fun _ => rfl⟩
  · split
    · exact ⟨rfl, fun h => by simp at h⟩
    · refine ⟨rfl, fun _ => ?_⟩
      simp [shift]
theorem lexStep_shift (m k : Nat) (X L : LL) (x : List UInt8) (h : ¬ (lexStep k L x).1 = 61) : (lexStep (m + k) (X ++ shift m L) x).1 = (lexStep k L x).1 ∧ ((lexStep k L x).1 = 0 → (lexStep (m + k) (X ++ shift m L) x).2 = X ++ shift m (lexStep k L x).2) := by
  unfold lexStep at h ⊢
  split
  · rename_i hc
    rw [if_pos hc] at h
    exact step_shift m k X L _ h
  · exact ⟨rfl, fun h => by simp at h⟩
theorem fold_shift (m : Nat) (X : LL) : ∀ (xs : List (List UInt8)) (k : Nat) (L : LL), ¬ (lexFold k L xs).2.2 = 61 →
    lexFold (m + k) (X ++ shift m L) xs = if (lexFold k L xs).2.2 = 0 then (X ++ shift m (lexFold k L xs).1, 0, 0) else ([], m + (lexFold k L xs).2.1, (lexFold k L xs).2.2)
  | [], k, L, _ => rfl
  | x :: xs, k, L, h => by
    rw [lexFold_cons] at h ⊢
    rw [lexFold_cons k]
    by_cases h1 : (lexStep k L x).1 = 0
    · have hs := lexStep_shift m k X L x (by rw [h1]; decide)
      rw [if_pos h1] at h
      rw [if_pos (hs.1.trans h1), if_pos h1, hs.2 h1]
      exact fold_shift m X xs (k + 1) _ h
    · rw [if_neg h1] at h
      have hs := lexStep_shift m k X L x h
      rw [if_neg (by rw [hs.1]; exact h1), if_neg h1]
      show _ = if (lexStep k L x).1 = 0 then _ else _
      rw [if_neg h1, hs.1]
      simp

theorem lexAll_short (t : List UInt8) (h : t.length ≤ 65536) : lexAll t = lexFold 1 [] (linesGo [] t) := by
  unfold lexAll
  rw [if_neg (by omega)]
  rfl
theorem fold_pieces (a : List UInt8) : lexFold 1 [] (piecesGo [] a) = lexFold 1 [] (linesGo [] a) := by
  rcases pieces_lines a [] with e | e
  · rw [e]
  · rw [e, fold_empty]
theorem joined_bad (a b : List UInt8) (ha : a.length + b.length ≤ 60000) (h : ¬ (lexAll a).2.2 = 0) : lexAll (a ++ 10 :: b) = lexAll a := by
  rw [lexAll_short a (by omega)] at h ⊢
  rw [lexAll_short (a ++ 10 :: b) (by rw [List.length_append, List.length_cons]; omega), lines_joined, fold_append, fold_pieces, if_neg h]
theorem joined_good (a b : List UInt8) (ha : a.length + b.length ≤ 60000) (h : (lexAll a).2.2 = 0) (h2 : ¬ (lexAll b).2.2 = 61) :
    lexAll (a ++ 10 :: b) = if (lexAll b).2.2 = 0 then ((lexAll a).1 ++ shift (1 + tens a) (lexAll b).1, 0, 0) else ([], ((1 + tens a : Nat) : Int) + (lexAll b).2.1, (lexAll b).2.2) := by
  rw [lexAll_short a (by omega)] at h ⊢
  rw [lexAll_short b (by omega)] at h2 ⊢
  rw [lexAll_short (a ++ 10 :: b) (by rw [List.length_append, List.length_cons]; omega), lines_joined, fold_append, fold_pieces, if_pos h, pieces_length]
  have := fold_shift (1 + tens a) (lexFold 1 [] (linesGo [] a)).1 (linesGo [] b) 1 [] h2
  rw [show (lexFold 1 [] (linesGo [] a)).1 ++ shift (1 + tens a) [] = (lexFold 1 [] (linesGo [] a)).1 by simp [shift]] at this
  rw [show 1 + (1 + tens a) = 1 + tens a + 1 by omega]
  exact this
theorem lexAll_err (t : List UInt8) (h : ¬ (lexAll t).2.2 = 0) : (lexAll t).1 = [] := by
  unfold lexAll at h ⊢
  split
  · rfl
  · rename_i hl
    rw [if_neg hl] at h
    exact fold_err _ _ _ h
end Go.Proofs.YtppmamcoehhopaaDoor.LexT
