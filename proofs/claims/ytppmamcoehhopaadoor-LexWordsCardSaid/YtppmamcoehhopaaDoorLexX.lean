/- Plain lists: words are clean; written out again they are read as the same words. -/
import Derived.Test.YtppmamcoehhopaaDoorLexT
import Derived.Test.YtppmamcoehhopaaDoorLexP
namespace Go.Proofs.YtppmamcoehhopaaDoor.LexX
open Go.RowKit Go.Proofs.YtppmamcoehhopaaDoor.Base Go.Proofs.YtppmamcoehhopaaDoor.LexA Go.Proofs.YtppmamcoehhopaaDoor.LexB Go.Proofs.YtppmamcoehhopaaDoor.LexM Go.Proofs.YtppmamcoehhopaaDoor.LexE Go.Proofs.YtppmamcoehhopaaDoor.LexR Go.Proofs.YtppmamcoehhopaaDoor.LexT
open Go.Proofs.YtppmamcoehhopaaDoor.LexP (all_bytes)
set_option linter.unusedVariables false

/-- A byte that may stand in a word. -/
def okW (b : UInt8) : Bool := 33 ≤ b && b ≤ 126 && !(b == 59) && !(65 ≤ b && b ≤ 90)
def goodWord (x : List UInt8) : Prop := x ≠ [] ∧ (∀ b ∈ x, okW b = true) ∧ x.length ≤ 65536
/-- A line's words. -/
def goodLine (ws : W) : Prop := (∃ c t r, ws = (c :: t) :: r ∧ ¬ c = 42 ∧ ¬ c = 43) ∧ (∀ x ∈ ws, goodWord x) ∧ ws.length ≤ 64
def goodAll (n : Nat) (L : LL) : Prop := (∀ p ∈ L, goodLine p.2 ∧ 1 ≤ p.1 ∧ p.1 < n) ∧ L.Pairwise fun p q => p.1 < q.1

theorem okW_of (b : UInt8) (h1 : okB b = true) (h2 : ¬ b = 59) (h3 : blankB (Lib.lowerB b) = false) : okW (Lib.lowerB b) = true := by
  have := all_bytes (fun b => !(okB b) || b == 59 || blankB (Lib.lowerB b) || okW (Lib.lowerB b)) (by decide +kernel) b
  simp only [h1, h3, Bool.not_true, Bool.false_or, Bool.or_false, Bool.or_eq_true, beq_iff_eq] at this
  rcases this with this | this
  · exact absurd this h2
  · exact this
theorem okW_facts (b : UInt8) (h : okW b = true) : okB b = true ∧ ¬ b = 59 ∧ blankB b = false ∧ Lib.lowerB b = b ∧ ¬ b = 10 := by
  have := all_bytes (fun b => !(okW b) || (okB b && !(b == 59) && !(blankB b) && Lib.lowerB b == b && !(b == 10))) (by decide +kernel) b
  simp only [h, Bool.not_true, Bool.false_or, Bool.and_eq_true, Bool.not_eq_true', beq_iff_eq, beq_eq_false_iff_ne, ne_eq] at this
  exact ⟨this.1.1.1.1, this.1.1.1.2, this.1.1.2, this.1.2, this.2⟩

theorem fieldsGo_mem : ∀ (l cur : List UInt8), ∀ x ∈ fieldsGo cur l, ∀ b ∈ x, (b ∈ cur ∨ (b ∈ l ∧ blankB b = false))
  | [], cur, x, hx, b, hb => by
    rw [fieldsGo] at hx
    split at hx
    · simp at hx
    · rw [List.mem_singleton] at hx
      subst hx
      exact .inl hb
  | a :: l, cur, x, hx, b, hb => by
    rw [fieldsGo] at hx
    split at hx
    · split at hx
      · rcases fieldsGo_mem l [] x hx b hb with h | ⟨h, h2⟩
        · simp at h
        · exact .inr ⟨List.mem_cons_of_mem _ h, h2⟩
      · rcases List.mem_cons.1 hx with rfl | hx
        · exact .inl hb
        · rcases fieldsGo_mem l [] x hx b hb with h | ⟨h, h2⟩
          · simp at h
          · exact .inr ⟨List.mem_cons_of_mem _ h, h2⟩
    · rename_i hbl
      rcases fieldsGo_mem l (cur ++ [a]) x hx b hb with h | ⟨h, h2⟩
      · rcases List.mem_append.1 h with h | h
        · exact .inl h
        · rw [List.mem_singleton] at h
          subst h
          exact .inr ⟨List.mem_cons_self, by simpa using hbl⟩
      · exact .inr ⟨List.mem_cons_of_mem _ h, h2⟩
theorem fieldsGo_len : ∀ (l cur : List UInt8), ∀ x ∈ fieldsGo cur l, x.length ≤ cur.length + l.length
  | [], cur, x, hx => by
    rw [fieldsGo] at hx
    split at hx
    · simp at hx
    · rw [List.mem_singleton] at hx
      subst hx
      simp
  | a :: l, cur, x, hx => by
    rw [fieldsGo] at hx
    split at hx
    · split at hx
      · have := fieldsGo_len l [] x hx
        simp at this ⊢
        omega
      · rcases List.mem_cons.1 hx with rfl | hx
        · simp
        · have := fieldsGo_len l [] x hx
          simp at this ⊢
          omega
    · have := fieldsGo_len l (cur ++ [a]) x hx
      simp at this ⊢
      omega
theorem linesGo_len : ∀ (l cur : List UInt8), ∀ x ∈ linesGo cur l, x.length ≤ cur.length + l.length
  | [], cur, x, hx => by
    rw [linesGo] at hx
    split at hx
    · simp at hx
    · rw [List.mem_singleton] at hx
      subst hx
      simp
  | a :: l, cur, x, hx => by
    rw [linesGo] at hx
    split at hx
    · rcases List.mem_cons.1 hx with rfl | hx
      · simp
      · have := linesGo_len l [] x hx
        simp at this ⊢
        omega
    · have := linesGo_len l (cur ++ [a]) x hx
      simp at this ⊢
      omega
theorem pre_mem : ∀ (l : List UInt8), ∀ b ∈ pre l 59, b ∈ l ∧ ¬ b = 59
  | [], b, hb => by simp [pre] at hb
  | a :: l, b, hb => by
    unfold pre at hb
    rw [List.takeWhile_cons] at hb
    split at hb
    · rename_i h
      rcases List.mem_cons.1 hb with rfl | hb
      · exact ⟨List.mem_cons_self, by simpa using h⟩
      · have := pre_mem l b hb
        exact ⟨List.mem_cons_of_mem _ this.1, this.2⟩
    · simp at hb
/-- Every word of a clean line is good; the first one begins with no star. -/
theorem lexWords_good (l : List UInt8) (hc : cleanL l = true) (hl : l.length ≤ 65536) : ∀ x ∈ lexWords l, goodWord x := by
  intro x hx
  have hx2 : x ∈ fieldsB ((pre l 59).map Lib.lowerB) := by
    unfold lexWords at hx
    split at hx
    · simp at hx
    · exact hx
  refine ⟨lexWords_ne l x hx, ?_, ?_⟩
  case refine_2 =>
    have h1 := fieldsGo_len _ [] x hx2
    rw [List.length_map] at h1
    have h2 := pre_length l 59
    simp only [List.length_nil] at h1
    omega
  intro b hb
  rcases fieldsGo_mem _ [] x hx2 b hb with h | ⟨h, h2⟩
  · simp at h
  · obtain ⟨a, ha, rfl⟩ := List.mem_map.1 h
    obtain ⟨h3, h4⟩ := pre_mem l a ha
    exact okW_of a (List.all_eq_true.1 hc a h3) h4 h2
theorem lexWords_star (l : List UInt8) (c : UInt8) (t : List UInt8) (r : W) (h : lexWords l = (c :: t) :: r) : ¬ c = 42 := by
  rintro rfl
  unfold lexWords at h
  split at h
  · cases h
  · rename_i h2
    exact h2 t r h

theorem goodLine_add (x y : W) (hx : goodLine x) (hy : ∀ w ∈ y, goodWord w) (hl : (x ++ y).length ≤ 64) : goodLine (x ++ y) := by
  obtain ⟨⟨c, t, r, rfl, h1, h2⟩, h3, _⟩ := hx
  refine ⟨⟨c, t, r ++ y, rfl, h1, h2⟩, ?_, hl⟩
  intro w hw
  rcases List.mem_append.1 hw with hw | hw
  · exact h3 w hw
  · exact hy w hw
theorem plusWords_good (w : W) (hw : ∀ x ∈ w, goodWord x) : ∀ x ∈ plusWords w, goodWord x := by
  intro x hx
  unfold plusWords at hx
  split at hx
  · rename_i b t ws
    split at hx
    · exact hw x (List.mem_cons_of_mem _ hx)
    · rename_i ht
      rcases List.mem_cons.1 hx with rfl | hx
      · refine ⟨by simpa using ht, fun c hc => ?_, by have := (hw (b :: x) List.mem_cons_self).2.2; rw [List.length_cons] at this; omega⟩
        exact (hw (b :: x) List.mem_cons_self).2.1 c (List.mem_cons_of_mem _ hc)
      · exact hw x (List.mem_cons_of_mem _ hx)
  · exact hw x hx
theorem goodAll_succ (n : Nat) (L : LL) (h : goodAll n L) : goodAll (n + 1) L := ⟨fun p hp => ⟨(h.1 p hp).1, (h.1 p hp).2.1, by have := (h.1 p hp).2.2; omega⟩, h.2⟩
theorem lexStep_good (n : Nat) (L : LL) (x : List UInt8) (hxl : x.length ≤ 65536) (hn : 1 ≤ n) (h : goodAll n L) (h0 : (lexStep n L x).1 = 0) : goodAll (n + 1) (lexStep n L x).2 := by
  unfold lexStep at h0 ⊢
  by_cases hc : cleanL x = true
  · rw [if_pos hc] at h0 ⊢
    have hw := lexWords_good x hc hxl
    have hs := lexWords_star x
    generalize lexWords x = w at *
    cases w with
    | nil => exact goodAll_succ n L h
    | cons x0 xs =>
      obtain ⟨c0, t0, rfl⟩ := List.exists_cons_of_ne_nil (hw x0 List.mem_cons_self).1
      by_cases h43 : c0 = 43
      · subst h43
        rw [stepWords_plus] at h0 ⊢
        rcases List.eq_nil_or_concat L with rfl | ⟨Q, ⟨a, y⟩, rfl⟩
        · simp at h0
        · rw [List.concat_eq_append] at *
          have e : (Q ++ [(a, y)]).isEmpty = false := by simp
          rw [e, addLast_snoc, lastLen_snoc] at h0 ⊢
          simp only [Bool.false_eq_true, if_false] at h0 ⊢
          by_cases h64 : 64 < (y ++ plusWords ((43 :: t0) :: xs)).length
          · rw [if_pos h64] at h0
            simp at h0
          · rw [if_neg h64]
            refine ⟨?_, ?_⟩
            · intro p hp
              rcases List.mem_append.1 hp with hp | hp
              · have := h.1 p (List.mem_append_left _ hp)
                exact ⟨this.1, this.2.1, by omega⟩
              · rw [List.mem_singleton] at hp
                subst hp
                have := h.1 (a, y) (by simp)
                exact ⟨goodLine_add y _ this.1 (plusWords_good _ hw) (by omega), this.2.1, by have := this.2.2; simp only [] at *; omega⟩
            · have hp := List.pairwise_append.1 h.2
              rw [List.pairwise_append]
              refine ⟨hp.1, List.pairwise_singleton _ _, fun p hp1 q hq => ?_⟩
              rw [List.mem_singleton] at hq
              subst hq
              exact hp.2.2 p hp1 (a, y) (by simp)
      · rw [stepWords_new _ _ _ _ _ h43] at h0 ⊢
        by_cases h64 : 64 < ((c0 :: t0) :: xs).length
        · rw [if_pos h64] at h0
          simp at h0
        · rw [if_neg h64]
          refine ⟨?_, ?_⟩
          · intro p hp
            rcases List.mem_append.1 hp with hp | hp
            · have := h.1 p hp
              exact ⟨this.1, this.2.1, by omega⟩
            · rw [List.mem_singleton] at hp
              subst hp
              exact ⟨⟨⟨c0, t0, xs, rfl, hs c0 t0 xs rfl, h43⟩, hw, Nat.le_of_not_lt h64⟩, hn, by simp⟩
          · rw [List.pairwise_append]
            refine ⟨h.2, List.pairwise_singleton _ _, fun p hp1 q hq => ?_⟩
            rw [List.mem_singleton] at hq
            subst hq
            exact (h.1 p hp1).2.2
  · rw [if_neg hc] at h0
    simp at h0
theorem lexFold_good : ∀ (xs : List (List UInt8)) (n : Nat) (L : LL), (∀ x ∈ xs, x.length ≤ 65536) → 1 ≤ n → goodAll n L → (lexFold n L xs).2.2 = 0 → goodAll (n + xs.length) (lexFold n L xs).1
  | [], n, L, _, _, h, _ => h
  | x :: xs, n, L, hl, hn, h, h0 => by
    rw [lexFold_cons] at h0 ⊢
    by_cases h1 : (lexStep n L x).1 = 0
    · rw [if_pos h1] at h0 ⊢
      have := lexFold_good xs (n + 1) _ (fun y hy => hl y (List.mem_cons_of_mem _ hy)) (by omega) (lexStep_good n L x (hl x List.mem_cons_self) hn h h1) h0
      rw [List.length_cons, show n + (xs.length + 1) = n + 1 + xs.length by omega]
      exact this
    · rw [if_neg h1] at h0
      exact absurd h0 h1
theorem lexAll_good (t : List UInt8) (h : (lexAll t).2.2 = 0) : goodAll 65539 (lexAll t).1 := by
  unfold lexAll at h ⊢
  split
  · rename_i hl
    rw [if_pos hl] at h
    simp at h
  · rename_i hl
    rw [if_neg hl] at h
    have h1 := lexFold_good (linesOf t) 1 [] (fun x hx => by have := linesGo_len t [] x hx; simp at this; omega) (Nat.le_refl _) ⟨by simp, List.Pairwise.nil⟩ h
    have h2 := linesGo_length t []
    unfold linesOf at *
    exact ⟨fun p hp => ⟨(h1.1 p hp).1, (h1.1 p hp).2.1, by have := (h1.1 p hp).2.2; omega⟩, h1.2⟩

/-! Written out again. -/
def joinW : W → List UInt8
  | [] => []
  | [x] => x
  | x :: y :: ws => x ++ 32 :: joinW (y :: ws)
def outW (L : LL) : List UInt8 := L.flatMap fun p => joinW p.2 ++ [10]
theorem joinW_bytes : ∀ (ws : W), (∀ x ∈ ws, goodWord x) → ∀ b ∈ joinW ws, okW b = true ∨ b = 32
  | [], _, b, hb => by simp [joinW] at hb
  | [x], h, b, hb => .inl ((h x (by simp)).2.1 b hb)
  | x :: y :: ws, h, b, hb => by
    rw [joinW] at hb
    rcases List.mem_append.1 hb with hb | hb
    · exact .inl ((h x (by simp)).2.1 b hb)
    · rcases List.mem_cons.1 hb with hb | hb
      · exact .inr hb
      · exact joinW_bytes (y :: ws) (fun x hx => h x (List.mem_cons_of_mem _ hx)) b hb
theorem fieldsGo_run : ∀ (x cur r : List UInt8), (∀ b ∈ x, blankB b = false) → fieldsGo cur (x ++ r) = fieldsGo (cur ++ x) r
  | [], cur, r, _ => by simp
  | b :: x, cur, r, h => by
    rw [List.cons_append, fieldsGo_more (by rw [h b (by simp)]; decide), fieldsGo_run x _ r (fun b hb => h b (by simp [hb]))]
    simp
theorem fields_join : ∀ (ws : W), (∀ x ∈ ws, goodWord x) → fieldsGo [] (joinW ws) = ws
  | [], _ => rfl
  | [x], h => by
    have hx := h x (by simp)
    have := fieldsGo_run x [] [] (fun b hb => (okW_facts b (hx.2.1 b hb)).2.2.1)
    rw [List.append_nil, List.nil_append] at this
    rw [joinW, this, fieldsGo]
    have : x.isEmpty = false := by simpa using hx.1
    rw [this]
    rfl
  | x :: y :: ws, h => by
    have hx := h x (by simp)
    rw [joinW, fieldsGo_run x [] _ (fun b hb => (okW_facts b (hx.2.1 b hb)).2.2.1), List.nil_append, fieldsGo_blank (by decide) hx.1]
    rw [fields_join (y :: ws) (fun x hx => h x (List.mem_cons_of_mem _ hx))]
theorem lexWords_join (ws : W) (h : goodLine ws) : lexWords (joinW ws) = ws := by
  have hb := joinW_bytes ws h.2.1
  have hp : pre (joinW ws) 59 = joinW ws := pre_none _ (fun hm => by
    rcases hb 59 hm with h | h
    · exact (okW_facts 59 h).2.1 rfl
    · exact absurd h (by decide))
  have hl : (joinW ws).map Lib.lowerB = joinW ws := by
    have : (joinW ws).map Lib.lowerB = (joinW ws).map id := List.map_congr_left (fun b hm => by
      rcases hb b hm with h | h
      · exact (okW_facts b h).2.2.2.1
      · subst h; decide)
    rw [this, List.map_id]
  unfold lexWords fieldsB
  rw [hp, hl, fields_join ws h.2.1]
  obtain ⟨⟨c, t, r, rfl, h1, h2⟩, _, _⟩ := h
  split
  · rename_i e
    injection e with e1 e2
    injection e1 with e1 e3
    exact absurd e1 h1
  · rfl
theorem cleanL_join (ws : W) (h : ∀ x ∈ ws, goodWord x) : cleanL (joinW ws) = true := by
  unfold cleanL
  rw [List.all_eq_true]
  intro b hb
  rcases joinW_bytes ws h b hb with h | h
  · exact (okW_facts b h).1
  · subst h; decide
theorem lexStep_join (n : Nat) (L : LL) (ws : W) (h : goodLine ws) : lexStep n L (joinW ws) = (0, L ++ [(n, ws)]) := by
  unfold lexStep
  rw [if_pos (cleanL_join ws h.2.1), lexWords_join ws h]
  have h2 := h
  obtain ⟨⟨c, t, r, rfl, h1, h3⟩, _, hl⟩ := h
  rw [stepWords_new _ _ _ _ _ h3, if_neg (by omega)]
def numbered : Nat → LL → LL
  | _, [] => []
  | n, p :: L => (n, p.2) :: numbered (n + 1) L
theorem lexFold_join : ∀ (L : LL) (n : Nat) (M : LL), (∀ p ∈ L, goodLine p.2) → lexFold n M (L.map fun p => joinW p.2) = (M ++ numbered n L, 0, 0)
  | [], n, M, _ => by simp [lexFold, numbered]
  | p :: L, n, M, h => by
    rw [List.map_cons, lexFold_cons, lexStep_join n M p.2 (h p (by simp)), if_pos rfl, lexFold_join L (n + 1) _ (fun q hq => h q (List.mem_cons_of_mem _ hq))]
    simp [numbered]
theorem lines_out : ∀ (L : LL), (∀ p ∈ L, goodLine p.2) → linesGo [] (outW L) = L.map fun p => joinW p.2
  | [], _ => rfl
  | p :: L, h => by
    have e : outW (p :: L) = joinW p.2 ++ 10 :: outW L := by simp [outW]
    have hb := joinW_bytes p.2 (h p (by simp)).2.1
    rw [e, linesGo_run _ _ _ (fun b hm => by
      rcases hb b hm with h | h
      · simpa using (okW_facts b h).2.2.2.2
      · subst h; decide), linesGo_ten, lines_out L (fun q hq => h q (List.mem_cons_of_mem _ hq))]
    rfl
theorem lexAll_out (L : LL) (n : Nat) (h : goodAll n L) (hl : (outW L).length ≤ 65536) : lexAll (outW L) = (numbered 1 L, 0, 0) := by
  rw [lexAll_short _ hl, lines_out L (fun p hp => (h.1 p hp).1), lexFold_join L 1 [] (fun p hp => (h.1 p hp).1)]
  rfl
theorem numbered_length : ∀ (L : LL) (n : Nat), (numbered n L).length = L.length
  | [], _ => rfl
  | p :: L, n => by rw [numbered, List.length_cons, numbered_length L, List.length_cons]
theorem numbered_at : ∀ (L : LL) (n k : Nat), k < L.length → (numbered n L).getD k (0, []) = (n + k, (L.getD k (0, [])).2)
  | [], _, _, h => by simp at h
  | p :: L, n, 0, _ => rfl
  | p :: L, n, k + 1, h => by
    have := numbered_at L (n + 1) k (by simpa using h)
    rw [numbered]
    simp only [List.getD_cons_succ]
    rw [this]
    congr 1
    omega
theorem outW_snoc (L : LL) (k : Nat) (h : k < L.length) : outW (L.take (k + 1)) = outW (L.take k) ++ (joinW (L.getD k (0, [])).2 ++ [10]) := by
  have e1 : L.take (k + 1) = L.take k ++ [L[k]] := List.take_succ_eq_append_getElem h
  have e2 : L.getD k (0, []) = L[k] := by simp [List.getD, List.getElem?_eq_getElem h]
  rw [e1, e2]
  unfold outW
  rw [List.flatMap_append]
  congr 1
  rw [List.flatMap_cons, List.flatMap_nil, List.append_nil]
theorem joinW_snoc : ∀ (ws : W) (k : Nat), k < ws.length → joinW (ws.take (k + 1)) = joinW (ws.take k) ++ ((if 0 < k then [32] else []) ++ ws.getD k [])
  | [], k, h => by simp at h
  | [x], 0, _ => by simp [joinW]
  | [x], k + 1, h => by simp at h
  | x :: y :: ws, 0, _ => by simp [joinW]
  | x :: y :: ws, 1, _ => by simp [joinW]
  | x :: y :: ws, k + 2, h => by
    have ih := joinW_snoc (y :: ws) (k + 1) (by simpa using h)
    have e1 : (x :: y :: ws).take (k + 2 + 1) = x :: y :: (ws.take (k + 1)) := by simp
    have e2 : (x :: y :: ws).take (k + 2) = x :: y :: (ws.take k) := by simp
    have e3 : (y :: ws).take (k + 1 + 1) = y :: ws.take (k + 1) := by simp
    have e4 : (y :: ws).take (k + 1) = y :: ws.take k := by simp
    rw [e3, e4] at ih
    rw [e1, e2, joinW, joinW, ih]
    simp
theorem joinW_length : ∀ (ws : W), (∀ x ∈ ws, goodWord x) → (joinW ws).length ≤ ws.length * 65537
  | [], _ => by simp [joinW]
  | [x], h => by
    have := (h x (by simp)).2.2
    simp [joinW]
    omega
  | x :: y :: ws, h => by
    have h1 := (h x (by simp)).2.2
    have h2 := joinW_length (y :: ws) (fun z hz => h z (List.mem_cons_of_mem _ hz))
    rw [joinW, List.length_append, List.length_cons, List.length_cons]
    omega
theorem outW_length : ∀ (L : LL), (∀ p ∈ L, goodLine p.2) → (outW L).length ≤ L.length * 4194369
  | [], _ => by simp [outW]
  | p :: L, h => by
    have e : outW (p :: L) = (joinW p.2 ++ [10]) ++ outW L := by simp [outW]
    have h1 := joinW_length p.2 (h p (by simp)).2.1
    have h2 := (h p (by simp)).2.2
    have h3 := outW_length L (fun q hq => h q (List.mem_cons_of_mem _ hq))
    rw [e, List.length_append, List.length_append, List.length_cons, List.length_cons, List.length_nil]
    omega
/-- The number of the line ahead of the k-th. -/
def atOf (L : LL) (k : Nat) : Nat := if k = 0 then 0 else (L.getD (k - 1) (0, [])).1
theorem atOf_lt (L : LL) (n k : Nat) (h : goodAll n L) (hk : k < L.length) : atOf L k < (L.getD k (0, [])).1 := by
  have e : L.getD k (0, []) = L[k] := by simp [List.getD, List.getElem?_eq_getElem hk]
  rw [e]
  unfold atOf
  split
  · have := (h.1 L[k] (List.getElem_mem hk)).2.1
    omega
  · have hk1 : k - 1 < L.length := by omega
    have e2 : L.getD (k - 1) (0, []) = L[k - 1] := by simp [List.getD, List.getElem?_eq_getElem hk1]
    rw [e2]
    exact List.pairwise_iff_getElem.1 h.2 (k - 1) k hk1 hk (by omega)
end Go.Proofs.YtppmamcoehhopaaDoor.LexX
