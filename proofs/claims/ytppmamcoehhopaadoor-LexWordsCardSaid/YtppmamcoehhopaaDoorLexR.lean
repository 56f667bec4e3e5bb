/- Plain lists: lines that say nothing, and remarks, leave the words as they are. -/
import Derived.Test.YtppmamcoehhopaaDoorLexE
namespace Go.Proofs.YtppmamcoehhopaaDoor.LexR
open Go.RowKit Go.Proofs.YtppmamcoehhopaaDoor.Base Go.Proofs.YtppmamcoehhopaaDoor.LexA Go.Proofs.YtppmamcoehhopaaDoor.LexB Go.Proofs.YtppmamcoehhopaaDoor.LexM Go.Proofs.YtppmamcoehhopaaDoor.LexE
set_option linter.unusedVariables false

def title : List UInt8 := [42, 32, 116, 105, 116, 108, 101, 10, 10]
def r0 : List UInt8 := [32, 59, 32, 114, 101, 109, 97, 114, 107, 32, 42, 32, 43, 32, 97]
def r1 : List UInt8 := [32, 9]
def r2 : List UInt8 := [42, 32, 109, 111, 114, 101, 59, 32, 98]
def remark : List UInt8 := r0 ++ [10] ++ r1 ++ [10] ++ r2 ++ [10]
def outB (b : UInt8) : List UInt8 := if b == 10 then remark else [b]
def outL (t : List UInt8) : List UInt8 := t.flatMap outB

inductive Rel : List (List UInt8) → List (List UInt8) → Prop where
  | nil : Rel [] []
  | last (c : List UInt8) : Rel [c] [c]
  | cons (c : List UInt8) {xs ys : List (List UInt8)} (h : Rel xs ys) : Rel (c :: xs) ((c ++ r0) :: r1 :: r2 :: ys)

theorem linesGo_run : ∀ (x cur t : List UInt8), (∀ b ∈ x, (b == 10) = false) → linesGo cur (x ++ t) = linesGo (cur ++ x) t
  | [], cur, t, _ => by simp
  | b :: x, cur, t, h => by
    rw [List.cons_append, linesGo, h b (by simp)]
    simp only [Bool.false_eq_true, if_false]
    rw [linesGo_run x (cur ++ [b]) t (fun b hb => h b (by simp [hb]))]
    simp
theorem linesGo_ten (cur t : List UInt8) : linesGo cur (10 :: t) = cur :: linesGo [] t := by
  rw [linesGo]
  rfl
theorem linesGo_remark (cur t : List UInt8) : linesGo cur (remark ++ t) = (cur ++ r0) :: r1 :: r2 :: linesGo [] t := by
  have e : remark ++ t = r0 ++ (10 :: (r1 ++ (10 :: (r2 ++ (10 :: t))))) := by simp [remark]
  rw [e, linesGo_run r0 cur _ (by decide), linesGo_ten, linesGo_run r1 [] _ (by decide), linesGo_ten, linesGo_run r2 [] _ (by decide), linesGo_ten]
  rfl
theorem linesGo_rel : ∀ (t cur : List UInt8), Rel (linesGo cur t) (linesGo cur (outL t))
  | [], cur => by
    show Rel (linesGo cur []) (linesGo cur [])
    rw [linesGo]
    split
    · exact .nil
    · exact .last _
  | b :: t, cur => by
    have e : outL (b :: t) = outB b ++ outL t := by simp [outL]
    rw [e]
    unfold outB
    by_cases h : (b == 10) = true
    · rw [if_pos h, linesGo_remark, linesGo, if_pos h]
      exact .cons cur (linesGo_rel t [])
    · rw [if_neg h, linesGo, if_neg h, List.singleton_append, linesGo, if_neg h]
      exact linesGo_rel t (cur ++ [b])

def tri (L : LL) : LL := L.map fun p => (3 * p.1, p.2)
theorem tri_add : ∀ (L : LL) (y : W), tri (addLast L y) = addLast (tri L) y
  | [], _ => rfl
  | [(a, x)], y => rfl
  | p :: q :: L, y => by
    have := tri_add (q :: L) y
    simp only [tri, List.map_cons, addLast] at this ⊢
    rw [this]
theorem tri_last : ∀ (L : LL), lastLen (tri L) = lastLen L
  | [] => rfl
  | [(a, x)] => rfl
  | p :: q :: L => by
    have := tri_last (q :: L)
    simp only [tri, List.map_cons, lastLen] at this ⊢
    exact this
theorem stepWords_tri (k : Nat) (L : LL) (w : W) : stepWords (3 * k) (tri L) w = ((stepWords k L w).1, tri (stepWords k L w).2) := by
  unfold stepWords
  split
  · rfl
  · have e : (tri L).isEmpty = L.isEmpty := by cases L <;> rfl
    rw [e, ← tri_add, tri_last]
    split
    · rfl
    · split <;> rfl
  · split
    · rfl
    · simp [tri]
theorem fieldsGo_blank_end : ∀ (x cur : List UInt8), fieldsGo cur (x ++ [32]) = fieldsGo cur x
  | [], cur => by
    cases cur <;> simp [fieldsGo, blankB]
  | b :: x, cur => by
    rw [List.cons_append, fieldsGo, fieldsGo, fieldsGo_blank_end x, fieldsGo_blank_end x]
theorem pre_r0 : ∀ (c : List UInt8), pre (c ++ r0) 59 = if (59 : UInt8) ∈ c then pre c 59 else c ++ [32]
  | [] => by decide
  | b :: c => by
    have ih := pre_r0 c
    by_cases h : b = 59
    · subst h
      simp [pre]
    · have h2 : (b != 59) = true := by simpa using h
      have h3 : ¬ 59 = b := fun e => h e.symm
      unfold pre at ih ⊢
      rw [List.cons_append, List.takeWhile_cons, if_pos h2, ih, List.takeWhile_cons, if_pos h2]
      by_cases hm : (59 : UInt8) ∈ c
      · rw [if_pos hm, if_pos (by simp [hm])]
      · rw [if_neg hm, if_neg (by simp [hm, h3])]
        rfl
theorem pre_none : ∀ (c : List UInt8), ¬ (59 : UInt8) ∈ c → pre c 59 = c
  | [], _ => rfl
  | b :: c, h => by
    have h2 : (b != 59) = true := by
      have : b ≠ 59 := fun e => h (by simp [e])
      simpa using this
    have ih := pre_none c (fun e => h (by simp [e]))
    unfold pre at ih ⊢
    rw [List.takeWhile_cons, if_pos h2, ih]
theorem lexWords_r0 (c : List UInt8) : lexWords (c ++ r0) = lexWords c := by
  have e : fieldsB ((pre (c ++ r0) 59).map Lib.lowerB) = fieldsB ((pre c 59).map Lib.lowerB) := by
    rw [pre_r0]
    split
    · rfl
    · rename_i h
      rw [pre_none c h, List.map_append]
      exact fieldsGo_blank_end _ _
  unfold lexWords
  rw [e]
theorem cleanL_r0 (c : List UInt8) : cleanL (c ++ r0) = cleanL c := by
  unfold cleanL
  rw [List.all_append]
  have : r0.all okB = true := by decide
  rw [this, Bool.and_true]
theorem lexStep_tri (k : Nat) (L : LL) (c : List UInt8) : lexStep (3 * k) (tri L) c = ((lexStep k L c).1, tri (lexStep k L c).2) := by
  unfold lexStep
  split
  · exact stepWords_tri k L _
  · rfl
theorem lexStep_r0 (n : Nat) (L : LL) (c : List UInt8) : lexStep n L (c ++ r0) = lexStep n L c := by
  unfold lexStep
  rw [cleanL_r0, lexWords_r0]
theorem lexStep_none (n : Nat) (L : LL) (c : List UInt8) (h : cleanL c = true) (hw : lexWords c = []) : lexStep n L c = (0, L) := by
  unfold lexStep
  rw [if_pos h, hw]
  rfl
theorem lexFold_cons (n : Nat) (L : LL) (x : List UInt8) (xs : List (List UInt8)) : lexFold n L (x :: xs) = if (lexStep n L x).1 = 0 then lexFold (n + 1) (lexStep n L x).2 xs else ([], n, (lexStep n L x).1) := rfl
theorem lexFold_rel {xs ys : List (List UInt8)} (h : Rel xs ys) : ∀ (k : Nat) (L : LL), lexFold (3 * k) (tri L) ys = (tri (lexFold k L xs).1, 3 * (lexFold k L xs).2.1, (lexFold k L xs).2.2) := by
  induction h with
  | nil => intro k L; simp [lexFold]
  | last c =>
    intro k L
    simp only [lexFold, lexStep_tri]
    by_cases h : (lexStep k L c).1 = 0
    · rw [if_pos h, if_pos h]
      simp
    · rw [if_neg h, if_neg h]
      simp [tri]
  | @cons c xs ys h ih =>
    intro k L
    rw [lexFold_cons k L c xs, lexFold_cons (3 * k) (tri L), lexStep_r0, lexStep_tri]
    by_cases h : (lexStep k L c).1 = 0
    · rw [if_pos h, if_pos h]
      show lexFold (3 * k + 1) (tri (lexStep k L c).2) (r1 :: r2 :: ys) = _
      rw [lexFold_cons, lexStep_none _ _ r1 (by decide) (by decide), if_pos rfl]
      show lexFold (3 * k + 1 + 1) (tri (lexStep k L c).2) (r2 :: ys) = _
      rw [lexFold_cons, lexStep_none _ _ r2 (by decide) (by decide), if_pos rfl]
      exact ih (k + 1) _
    · rw [if_neg h, if_neg h]
      simp [tri]
theorem outL_length (t : List UInt8) : (outL t).length ≤ 31 * t.length := by
  induction t with
  | nil => simp [outL]
  | cons b t ih =>
    have e : outL (b :: t) = outB b ++ outL t := by simp [outL]
    have h : (outB b).length ≤ 31 := by
      unfold outB
      split
      · decide
      · simp
    rw [e, List.length_append, List.length_cons]
    omega
theorem lexAll_remarks (t : List UInt8) (ht : t.length ≤ 1500) : lexAll (title ++ outL t) = (tri (lexAll t).1, 3 * (lexAll t).2.1, (lexAll t).2.2) := by
  have h1 := outL_length t
  have h2 : title.length = 9 := rfl
  unfold lexAll
  rw [if_neg (by rw [List.length_append]; omega), if_neg (by omega)]
  have e : linesOf (title ++ outL t) = [42, 32, 116, 105, 116, 108, 101] :: [] :: linesGo [] (outL t) := by
    have e2 : title ++ outL t = [42, 32, 116, 105, 116, 108, 101] ++ (10 :: (10 :: outL t)) := rfl
    unfold linesOf
    rw [e2, linesGo_run _ _ _ (by decide), linesGo_ten, linesGo_ten]
    rfl
  rw [e, lexFold, lexStep_none _ _ _ (by decide) (by decide)]
  simp only [if_true]
  rw [lexFold, lexStep_none _ _ _ (by decide) (by decide)]
  simp only [if_true]
  exact lexFold_rel (linesGo_rel t []) 1 []
end Go.Proofs.YtppmamcoehhopaaDoor.LexR
