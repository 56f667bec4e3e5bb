/- The law LexReads, walked. -/
import Derived.Test.YtppmamcoehhopaaDoorAxS
import Derived.Test.YtppmamcoehhopaaDoorLexO
import Derived.Test.YtppmamcoehhopaaDoorAxQ
namespace Go.Proofs.YtppmamcoehhopaaDoor.LexL
open Go Go.RowKit Go.Proofs.YtppmamcoehhopaaDoor.Ax Go.Proofs.YtppmamcoehhopaaDoor.Ti Go.Proofs.YtppmamcoehhopaaDoor.Base Go.Proofs.YtppmamcoehhopaaDoor.LexA Go.Proofs.YtppmamcoehhopaaDoor.LexB Go.Proofs.YtppmamcoehhopaaDoor.LexM Go.Proofs.YtppmamcoehhopaaDoor.LexC Go.Proofs.YtppmamcoehhopaaDoor.LexD Go.Proofs.YtppmamcoehhopaaDoor.LexF Go.Proofs.YtppmamcoehhopaaDoor.LexG Go.Proofs.YtppmamcoehhopaaDoor.LexH Go.Proofs.YtppmamcoehhopaaDoor.LexN Go.Proofs.YtppmamcoehhopaaDoor.LexO
open Go.Proofs.YtppmamcoehhopaaDoor.LexE hiding W
set_option linter.unusedSimpArgs false
set_option linter.unusedVariables false
set_option maxRecDepth 4000
set_option maxHeartbeats 2000000
-- rows TI
theorem rTI : type_of% (cj @ti3 (cj @ti4 (cj @ti9 (cj @ti5 (cj @ti30 (cj @ti23 (cj @ti32 @ti24))))))) := cj @ti3 (cj @ti4 (cj @ti9 (cj @ti5 (cj @ti30 (cj @ti23 (cj @ti32 @ti24))))))

/-- No line has more than 64 words. -/
theorem step_few (n : Nat) (L : LL) (w : W) (h : ∀ p ∈ L, p.2.length ≤ 64) : ∀ p ∈ (stepWords n L w).2, p.2.length ≤ 64 := by
  unfold stepWords
  split
  · exact h
  · split
    · intro p hp; cases hp
    · split
      · intro p hp; cases hp
      · rename_i t ws h1 h2
        intro p hp
        rcases List.eq_nil_or_concat L with rfl | ⟨L0, ⟨a, x⟩, rfl⟩
        · simp at h1
        · rw [List.concat_eq_append] at *
          rw [addLast_snoc] at hp h2
          rw [lastLen_snoc] at h2
          rcases List.mem_append.1 hp with hp | hp
          · exact h p (by simp [hp])
          · rw [List.mem_singleton] at hp
            subst hp
            show (x ++ plusWords ((43 :: t) :: ws)).length ≤ 64
            omega
  · split
    · intro p hp; cases hp
    · rename_i h2
      intro p hp
      rcases List.mem_append.1 hp with hp | hp
      · exact h p hp
      · rw [List.mem_singleton] at hp
        subst hp
        show w.length ≤ 64
        omega
theorem fold_few : ∀ (xs : List (List UInt8)) (n : Nat) (L : LL), (∀ p ∈ L, p.2.length ≤ 64) → ∀ p ∈ (lexFold n L xs).1, p.2.length ≤ 64
  | [], n, L, h => h
  | x :: xs, n, L, h => by
    rw [lexFold]
    split
    · refine fold_few xs (n + 1) _ ?_
      unfold lexStep
      split
      · exact step_few n L _ h
      · intro p hp; cases hp
    · intro p hp; cases hp
theorem all_few (t : List UInt8) : ∀ p ∈ (lexAll t).1, p.2.length ≤ 64 := by
  unfold lexAll
  split
  · intro p hp; cases hp
  · exact fold_few _ _ _ (by intro p hp; cases hp)

theorem hd_sc (a : W) (k : Nat) (h : k < a.length) : ((SC a).drop k).head? = some (.v (.string (bs (a.getD k [])))) := by
  rw [List.head?_drop]
  simp [SC, List.getElem?_eq_getElem h, List.getD]
theorem hd_lc0 (L : LL) (k : Nat) (h : k < L.length) : ((LC L).drop (k * 2)).head? = some (.v (.int .i64 (L.getD k (0, [])).1)) := by
  induction L generalizing k with
  | nil => cases h
  | cons p L ih =>
    cases k with
    | zero => rfl
    | succ k =>
      have e : LC (p :: L) = [.v (.int .i64 p.1), WV p.2] ++ LC L := by simp [LC]
      rw [e, show (k + 1) * 2 = 2 + k * 2 by omega, ← List.drop_drop]
      exact ih k (by simpa using h)
theorem hd_lc1 (L : LL) (k : Nat) (h : k < L.length) : (((LC L).drop (k * 2)).drop 1).head? = some (WV (L.getD k (0, [])).2) := by
  induction L generalizing k with
  | nil => cases h
  | cons p L ih =>
    cases k with
    | zero => rfl
    | succ k =>
      have e : LC (p :: L) = [.v (.int .i64 p.1), WV p.2] ++ LC L := by simp [LC]
      rw [e, show (k + 1) * 2 = 2 + k * 2 by omega, ← List.drop_drop]
      exact ih k (by simpa using h)
theorem bs_eq (x y : List UInt8) : ((bs x).toList == (bs y).toList) = decide (x = y) := by
  rw [bs_toList, bs_toList, Bool.eq_iff_iff]
  simp
theorem int_eq (x y : Nat) : ((x : Int) != (y : Int)) = !decide (x = y) := by
  rw [Bool.eq_iff_iff]
  simp
  omega
theorem texts_pc (a b : W) (ha : a.length ≤ 65537) : PCall Tryd.prog 12 [WV a, WV b] (.v (.bool (decide (a = b)))) := by
  refine pcall_of fun s => ?_
  unfold WV
  by_cases hl : a.length = b.length
  · rw [← hl]
    refine acall_of Tryd.func12 rfl rfl (by simp [Tryd.ntmps12]) ?_; rw [Tryd.ntmps12, Tryd.results12]
    (first | refine go (cj rTI (cj @bsz (cj @Nat.zero_add (cj @tz0 rbn)))) ?_ | exact go0 (cj rTI (cj @bsz (cj @Nat.zero_add (cj @tz0 rbn)))))
    (try rw [then_normal]); (try refine aw_seq ?_); refine aw_cond rfl ?_ ?_ <;> intro hb <;> (try (cases hb; done)) <;> (try simp only [bq] at hb) <;> (try (exfalso; omega))
    (first | refine go (cj rTI (cj @bsz (cj @Nat.zero_add @tz0))) ?_ | exact go0 (cj rTI (cj @bsz (cj @Nat.zero_add @tz0))))
    refine aw_loop (fun m e s' => ∃ k, m = a.length - k ∧ k ≤ a.length ∧ e.n = 26 ∧ e.m 0 = .sl a.length (SC a) ∧ e.m 1 = .sl a.length (SC b) ∧ e.m 5 = .v (.int .i64 (k : Nat)) ∧ a.take k = b.take k ∧ s' = s) a.length ?_ ?_
    · refine ⟨0, by omega, by omega, ?_⟩
      (repeat' refine And.intro ?_ ?_) <;> (first | done | exact rfl | (intro i hi; exact rn0 trivial; done) | (exact rn0 trivial; done) | skip)
    · rintro m e s' ⟨k, rfl, hk, h1, k0, k1, k5, ht, rfl⟩
      by_cases hk2 : k < a.length
      · have hd1 := hd_sc a k hk2
        have hd2 := hd_sc b k (by omega)
        have hq := take_getD [] a b k hk2 (by omega) ht
        have hbe := bs_eq (a.getD k []) (b.getD k [])
        by_cases he : a.getD k [] = b.getD k []
        · rw [decide_eq_true he] at hbe
          (first | refine go (cj rTI (cj @bsz (cj @Nat.zero_add (cj @tz0 (cj @h1 (cj @k0 @k5)))))) ?_ | exact go0 (cj rTI (cj @bsz (cj @Nat.zero_add (cj @tz0 (cj @h1 (cj @k0 @k5)))))))
          (try rw [then_normal]); (try refine aw_seq ?_); refine aw_cond rfl ?_ ?_ <;> intro hb <;> (try (cases hb; done)) <;> (try simp only [bq] at hb) <;> (try (exfalso; omega))
          (first | refine go trivial ?_ | exact go0 trivial)
          refine aw_drw (.take 0 (.take 1 (.take 2 (.take 3 (.take 4 (.take 5 (.take 6 (.take 7 (.take 8 (.done)))))))))) [] (by kernel_rfl) (by kernel_rfl) fun K hK => ?_; refine dr (cj rTI (cj @bsz (cj @Nat.zero_add (cj @tz0 (cj @h1 (cj @k0 (cj @k1 (cj @k5 (cj @hd1 (cj @hd2 (cj @hbe (cj @Int.toNat_natCast @Nat.mul_one)))))))))))) ?_; refine hK _ _ ?_; clear hK K
          rw [then_normal]
          (try rw [then_normal]); (try refine aw_seq ?_); refine aw_cond rfl ?_ ?_ <;> intro hb <;> (try (cases hb; done)) <;> (try simp only [bq] at hb) <;> (try (exfalso; omega))
          (first | refine go (cj rTI (cj @bsz (cj @Nat.zero_add (cj @tz0 (cj @h1 @k5))))) ?_ | exact go0 (cj rTI (cj @bsz (cj @Nat.zero_add (cj @tz0 (cj @h1 @k5))))))
          simp only [block_normal, loop_normal]
          refine ⟨a.length - (k + 1), by omega, k + 1, rfl, by omega, ?_, ?_, ?_, ?_, hq.2 he, trivial⟩
          all_goals ((first | refine rn (cj @h1 (cj @k0 (cj @k1 @k5))) ?_ | exact rn0 (cj @h1 (cj @k0 (cj @k1 @k5)))))
          all_goals rfl
        · rw [decide_eq_false he] at hbe
          have hne : decide (a = b) = false := by
            rw [decide_eq_false_iff_not]
            intro h
            exact he (by rw [h])
          (first | refine go (cj rTI (cj @bsz (cj @Nat.zero_add (cj @tz0 (cj @h1 (cj @k0 @k5)))))) ?_ | exact go0 (cj rTI (cj @bsz (cj @Nat.zero_add (cj @tz0 (cj @h1 (cj @k0 @k5)))))))
          (try rw [then_normal]); (try refine aw_seq ?_); refine aw_cond rfl ?_ ?_ <;> intro hb <;> (try (cases hb; done)) <;> (try simp only [bq] at hb) <;> (try (exfalso; omega))
          (first | refine go trivial ?_ | exact go0 trivial)
          refine aw_drw (.take 0 (.take 1 (.take 2 (.take 3 (.take 4 (.take 5 (.take 6 (.take 7 (.take 8 (.done)))))))))) [] (by kernel_rfl) (by kernel_rfl) fun K hK => ?_; refine dr (cj rTI (cj @bsz (cj @Nat.zero_add (cj @tz0 (cj @h1 (cj @k0 (cj @k1 (cj @k5 (cj @hd1 (cj @hd2 (cj @hbe (cj @Int.toNat_natCast @Nat.mul_one)))))))))))) ?_; refine hK _ _ ?_; clear hK K
          rw [then_normal]
          (try rw [then_normal]); (try refine aw_seq ?_); refine aw_cond rfl ?_ ?_ <;> intro hb <;> (try (cases hb; done)) <;> (try simp only [bq] at hb) <;> (try (exfalso; omega))
          (first | refine go (cj rTI (cj @bsz (cj @Nat.zero_add (cj @tz0 @h1)))) ?_ | exact go0 (cj rTI (cj @bsz (cj @Nat.zero_add (cj @tz0 @h1)))))
          rw [hne]
      · obtain rfl : k = a.length := by omega
        have hab : decide (a = b) = true := by
          rw [decide_eq_true_iff]
          rw [List.take_length, hl, List.take_length] at ht
          exact ht
        rw [hab]
        (first | refine go (cj rTI (cj @bsz (cj @Nat.zero_add (cj @tz0 (cj @h1 (cj @k0 @k5)))))) ?_ | exact go0 (cj rTI (cj @bsz (cj @Nat.zero_add (cj @tz0 (cj @h1 (cj @k0 @k5)))))))
        (try rw [then_normal]); (try refine aw_seq ?_); refine aw_cond rfl ?_ ?_ <;> intro hb <;> (try (cases hb; done)) <;> (try simp only [bq] at hb) <;> (try (exfalso; omega))
        (first | refine go (cj rTI (cj @bsz (cj @Nat.zero_add (cj @tz0 @h1)))) ?_ | exact go0 (cj rTI (cj @bsz (cj @Nat.zero_add (cj @tz0 @h1)))))
  · have hne : decide (a = b) = false := by
      rw [decide_eq_false_iff_not]
      intro h
      exact hl (by rw [h])
    rw [hne]
    have hie := int_eq a.length b.length
    rw [decide_eq_false hl] at hie
    refine acall_of Tryd.func12 rfl rfl (by simp [Tryd.ntmps12]) ?_; rw [Tryd.ntmps12, Tryd.results12]
    (first | refine go (cj rTI (cj @bsz (cj @Nat.zero_add (cj @tz0 @hie)))) ?_ | exact go0 (cj rTI (cj @bsz (cj @Nat.zero_add (cj @tz0 @hie)))))
    (try rw [then_normal]); (try refine aw_seq ?_); refine aw_cond rfl ?_ ?_ <;> intro hb <;> (try (cases hb; done)) <;> (try simp only [bq] at hb) <;> (try (exfalso; omega))
    (first | refine go (cj rTI (cj @bsz (cj @Nat.zero_add @tz0))) ?_ | exact go0 (cj rTI (cj @bsz (cj @Nat.zero_add @tz0))))
theorem same_pc (a b : LL) (ha : a.length ≤ 65537) (hw : ∀ p ∈ a, p.2.length ≤ 65537) : PCall Tryd.prog 11 [LV a, LV b] (.v (.bool (decide (a = b)))) := by
  refine pcall_of fun s => ?_
  unfold LV
  by_cases hl : a.length = b.length
  · rw [← hl]
    refine acall_of Tryd.func11 rfl rfl (by simp [Tryd.ntmps11]) ?_; rw [Tryd.ntmps11, Tryd.results11]
    (first | refine go (cj rTI (cj @bsz (cj @Nat.zero_add (cj @tz0 rbn)))) ?_ | exact go0 (cj rTI (cj @bsz (cj @Nat.zero_add (cj @tz0 rbn)))))
    (try rw [then_normal]); (try refine aw_seq ?_); refine aw_cond rfl ?_ ?_ <;> intro hb <;> (try (cases hb; done)) <;> (try simp only [bq] at hb) <;> (try (exfalso; omega))
    (first | refine go (cj rTI (cj @bsz (cj @Nat.zero_add @tz0))) ?_ | exact go0 (cj rTI (cj @bsz (cj @Nat.zero_add @tz0))))
    refine aw_loop (fun m e s' => ∃ k, m = a.length - k ∧ k ≤ a.length ∧ e.n = 42 ∧ e.m 0 = .sl a.length (LC a) ∧ e.m 1 = .sl a.length (LC b) ∧ e.m 5 = .v (.int .i64 (k : Nat)) ∧ a.take k = b.take k ∧ s' = s) a.length ?_ ?_
    · refine ⟨0, by omega, by omega, ?_⟩
      (repeat' refine And.intro ?_ ?_) <;> (first | done | exact rfl | (intro i hi; exact rn0 trivial; done) | (exact rn0 trivial; done) | skip)
    · rintro m e s' ⟨k, rfl, hk, h1, k0, k1, k5, ht, rfl⟩
      by_cases hk2 : k < a.length
      · have hd1 := hd_lc0 a k hk2
        have hd2 := hd_lc0 b k (by omega)
        have hd3 := hd_lc1 a k hk2
        have hd4 := hd_lc1 b k (by omega)
        have hq := take_getD (0, []) a b k hk2 (by omega) ht
        have hie := int_eq (a.getD k (0, [])).1 (b.getD k (0, [])).1
        have htx := texts_pc (a.getD k (0, [])).2 (b.getD k (0, [])).2 (hw _ (by rw [List.getD_eq_getElem?_getD, List.getElem?_eq_getElem hk2]; exact List.getElem_mem hk2))
        have hpe : a.getD k (0, []) = b.getD k (0, []) ↔ (a.getD k (0, [])).1 = (b.getD k (0, [])).1 ∧ (a.getD k (0, [])).2 = (b.getD k (0, [])).2 := Prod.ext_iff
        have hne : a.getD k (0, []) ≠ b.getD k (0, []) → decide (a = b) = false := fun he => by
          rw [decide_eq_false_iff_not]
          intro h
          exact he (by rw [h])
        generalize (a.getD k (0, [])).1 = x1 at *
        generalize (b.getD k (0, [])).1 = y1 at *
        generalize (a.getD k (0, [])).2 = x2 at *
        generalize (b.getD k (0, [])).2 = y2 at *
        by_cases q1 : x1 = y1
        · rw [decide_eq_true q1] at hie
          by_cases q2 : x2 = y2
          · rw [decide_eq_true q2] at htx
            (first | refine go (cj rTI (cj @bsz (cj @Nat.zero_add (cj @tz0 (cj @h1 (cj @k0 @k5)))))) ?_ | exact go0 (cj rTI (cj @bsz (cj @Nat.zero_add (cj @tz0 (cj @h1 (cj @k0 @k5)))))))
            (try rw [then_normal]); (try refine aw_seq ?_); refine aw_cond rfl ?_ ?_ <;> intro hb <;> (try (cases hb; done)) <;> (try simp only [bq] at hb) <;> (try (exfalso; omega))
            (first | refine go trivial ?_ | exact go0 trivial)
            refine aw_drw (.take 0 (.take 1 (.take 2 (.take 3 (.take 4 (.take 5 (.take 6 (.take 7 (.take 8 (.take 9 (.take 10 (.take 11 (.take 12 (.take 13 (.take 14 (.take 15 (.take 16 (.take 17 (.take 18 (.take 19 (.take 20 (.take 21 (.one 22 (.take 23 (.take 24 (.done)))))))))))))))))))))))))) [] (by kernel_rfl) (by kernel_rfl) fun K hK => ?_; refine dr (cj rTI (cj @bsz (cj @Nat.zero_add (cj @tz0 (cj @h1 (cj @k0 (cj @k1 (cj @k5 (cj @hd1 (cj @hd2 (cj @hd3 (cj @hd4 (cj @hie @Int.toNat_natCast))))))))))))) ?_; refine cont_pure htx ?_; refine dr (cj rTI (cj @bsz (cj @Nat.zero_add (cj @tz0 (cj @h1 (cj @k0 (cj @k1 (cj @k5 (cj @hd1 (cj @hd2 (cj @hd3 (cj @hd4 (cj @hie @Int.toNat_natCast))))))))))))) ?_; refine hK _ _ ?_; clear hK K
            rw [then_normal]
            (try rw [then_normal]); (try refine aw_seq ?_); refine aw_cond rfl ?_ ?_ <;> intro hb <;> (try (cases hb; done)) <;> (try simp only [bq] at hb) <;> (try (exfalso; omega))
            (first | refine go (cj rTI (cj @bsz (cj @Nat.zero_add (cj @tz0 (cj @h1 @k5))))) ?_ | exact go0 (cj rTI (cj @bsz (cj @Nat.zero_add (cj @tz0 (cj @h1 @k5))))))
            simp only [block_normal, loop_normal]
            refine ⟨a.length - (k + 1), by omega, k + 1, rfl, by omega, ?_, ?_, ?_, ?_, hq.2 (hpe.2 ⟨q1, q2⟩), trivial⟩
            all_goals ((first | refine rn (cj @h1 (cj @k0 (cj @k1 @k5))) ?_ | exact rn0 (cj @h1 (cj @k0 (cj @k1 @k5)))))
            all_goals rfl
          · rw [decide_eq_false q2] at htx
            (first | refine go (cj rTI (cj @bsz (cj @Nat.zero_add (cj @tz0 (cj @h1 (cj @k0 @k5)))))) ?_ | exact go0 (cj rTI (cj @bsz (cj @Nat.zero_add (cj @tz0 (cj @h1 (cj @k0 @k5)))))))
            (try rw [then_normal]); (try refine aw_seq ?_); refine aw_cond rfl ?_ ?_ <;> intro hb <;> (try (cases hb; done)) <;> (try simp only [bq] at hb) <;> (try (exfalso; omega))
            (first | refine go trivial ?_ | exact go0 trivial)
            refine aw_drw (.take 0 (.take 1 (.take 2 (.take 3 (.take 4 (.take 5 (.take 6 (.take 7 (.take 8 (.take 9 (.take 10 (.take 11 (.take 12 (.take 13 (.take 14 (.take 15 (.take 16 (.take 17 (.take 18 (.take 19 (.take 20 (.take 21 (.one 22 (.take 23 (.take 24 (.done)))))))))))))))))))))))))) [] (by kernel_rfl) (by kernel_rfl) fun K hK => ?_; refine dr (cj rTI (cj @bsz (cj @Nat.zero_add (cj @tz0 (cj @h1 (cj @k0 (cj @k1 (cj @k5 (cj @hd1 (cj @hd2 (cj @hd3 (cj @hd4 (cj @hie @Int.toNat_natCast))))))))))))) ?_; refine cont_pure htx ?_; refine dr (cj rTI (cj @bsz (cj @Nat.zero_add (cj @tz0 (cj @h1 (cj @k0 (cj @k1 (cj @k5 (cj @hd1 (cj @hd2 (cj @hd3 (cj @hd4 (cj @hie @Int.toNat_natCast))))))))))))) ?_; refine hK _ _ ?_; clear hK K
            rw [then_normal]
            (try rw [then_normal]); (try refine aw_seq ?_); refine aw_cond rfl ?_ ?_ <;> intro hb <;> (try (cases hb; done)) <;> (try simp only [bq] at hb) <;> (try (exfalso; omega))
            (first | refine go (cj rTI (cj @bsz (cj @Nat.zero_add (cj @tz0 @h1)))) ?_ | exact go0 (cj rTI (cj @bsz (cj @Nat.zero_add (cj @tz0 @h1)))))
            rw [hne fun h => q2 (hpe.1 h).2]
        · rw [decide_eq_false q1] at hie
          (first | refine go (cj rTI (cj @bsz (cj @Nat.zero_add (cj @tz0 (cj @h1 (cj @k0 @k5)))))) ?_ | exact go0 (cj rTI (cj @bsz (cj @Nat.zero_add (cj @tz0 (cj @h1 (cj @k0 @k5)))))))
          (try rw [then_normal]); (try refine aw_seq ?_); refine aw_cond rfl ?_ ?_ <;> intro hb <;> (try (cases hb; done)) <;> (try simp only [bq] at hb) <;> (try (exfalso; omega))
          (first | refine go trivial ?_ | exact go0 trivial)
          refine aw_drw (.take 0 (.take 1 (.take 2 (.take 3 (.take 4 (.take 5 (.take 6 (.take 7 (.take 8 (.take 9 (.take 10 (.take 11 (.take 12 (.take 13 (.take 14 (.take 15 (.take 16 (.take 17 (.take 18 (.take 19 (.take 20 (.take 21 (.one 22 (.take 23 (.take 24 (.done)))))))))))))))))))))))))) [] (by kernel_rfl) (by kernel_rfl) fun K hK => ?_; refine dr (cj rTI (cj @bsz (cj @Nat.zero_add (cj @tz0 (cj @h1 (cj @k0 (cj @k1 (cj @k5 (cj @hd1 (cj @hd2 (cj @hd3 (cj @hd4 (cj @hie @Int.toNat_natCast))))))))))))) ?_; refine hK _ _ ?_; clear hK K
          rw [then_normal]
          (try rw [then_normal]); (try refine aw_seq ?_); refine aw_cond rfl ?_ ?_ <;> intro hb <;> (try (cases hb; done)) <;> (try simp only [bq] at hb) <;> (try (exfalso; omega))
          (first | refine go (cj rTI (cj @bsz (cj @Nat.zero_add (cj @tz0 @h1)))) ?_ | exact go0 (cj rTI (cj @bsz (cj @Nat.zero_add (cj @tz0 @h1)))))
          rw [hne fun h => q1 (hpe.1 h).1]
      · obtain rfl : k = a.length := by omega
        have hab : decide (a = b) = true := by
          rw [decide_eq_true_iff]
          rw [List.take_length, hl, List.take_length] at ht
          exact ht
        rw [hab]
        (first | refine go (cj rTI (cj @bsz (cj @Nat.zero_add (cj @tz0 (cj @h1 (cj @k0 @k5)))))) ?_ | exact go0 (cj rTI (cj @bsz (cj @Nat.zero_add (cj @tz0 (cj @h1 (cj @k0 @k5)))))))
        (try rw [then_normal]); (try refine aw_seq ?_); refine aw_cond rfl ?_ ?_ <;> intro hb <;> (try (cases hb; done)) <;> (try simp only [bq] at hb) <;> (try (exfalso; omega))
        (first | refine go (cj rTI (cj @bsz (cj @Nat.zero_add (cj @tz0 @h1)))) ?_ | exact go0 (cj rTI (cj @bsz (cj @Nat.zero_add (cj @tz0 @h1)))))
  · have hne : decide (a = b) = false := by
      rw [decide_eq_false_iff_not]
      intro h
      exact hl (by rw [h])
    rw [hne]
    have hie := int_eq a.length b.length
    rw [decide_eq_false hl] at hie
    refine acall_of Tryd.func11 rfl rfl (by simp [Tryd.ntmps11]) ?_; rw [Tryd.ntmps11, Tryd.results11]
    (first | refine go (cj rTI (cj @bsz (cj @Nat.zero_add (cj @tz0 @hie)))) ?_ | exact go0 (cj rTI (cj @bsz (cj @Nat.zero_add (cj @tz0 @hie)))))
    (try rw [then_normal]); (try refine aw_seq ?_); refine aw_cond rfl ?_ ?_ <;> intro hb <;> (try (cases hb; done)) <;> (try simp only [bq] at hb) <;> (try (exfalso; omega))
    (first | refine go (cj rTI (cj @bsz (cj @Nat.zero_add @tz0))) ?_ | exact go0 (cj rTI (cj @bsz (cj @Nat.zero_add @tz0))))
theorem awake_pc : PCall Tryd.prog 8 [] (.v (.bool true)) :=
  pcall_lift (us := []) (enters_of Tryd.func8 (by kernel_rfl) rfl) (fun k => .v _) fun w => awake_any w
theorem oc_lies {s : St} : ∀ (L : LL) (i : Nat), (∀ (j : Nat) (p : Nat × W), L[j]? = some p → s.get (i + j) = some (SC p.2)) → LiesL s (OC i L) (LC L)
  | [], i, h => LiesL.nil s
  | p :: L, i, h => by
    have e : LC (p :: L) = .v (.int .i64 p.1) :: WV p.2 :: LC L := by simp [LC]
    rw [e]
    refine .cons (.same _ rfl) (.cons ?_ (oc_lies L (i + 1) fun j q hq => ?_))
    · exact Lies.whole (h 0 p rfl) (by rw [SC_length, Nat.mul_one]) (LiesL.same _ _ (idfL_strs _))
    · have := h (j + 1) q (by simpa using hq)
      rw [show i + 1 + j = i + (j + 1) by omega]
      exact this
theorem OC_length : ∀ (L : LL) (i : Nat), (OC i L).length = L.length * 2
  | [], i => rfl
  | p :: L, i => by show (OC (i + 1) L).length + 2 = (L.length + 1) * 2; rw [OC_length L (i + 1)]; omega
theorem oc_at : ∀ (L : LL) (i j : Nat) (p : Nat × W), L[j]? = some p → (OC i L)[j * 2 + 1]? = some (.own (i + j) 0 p.2.length 1)
  | [], i, j, p, h => by cases h
  | q :: L, i, 0, p, h => by simp at h; subst h; rfl
  | q :: L, i, j + 1, p, h => by
    have := oc_at L (i + 1) j p (by simpa using h)
    rw [show (j + 1) * 2 + 1 = (j * 2 + 1) + 1 + 1 by omega, show i + (j + 1) = i + 1 + j by omega]
    exact this
/-- What the law's last loop keeps: the rows that are still to be written over. -/
structure SP (s : St) (L : LL) (q : Nat) (s' : St) : Prop where
  bx : ∃ c, s'.get (s.nx + L.length) = some c ∧ c.length = L.length * 2 ∧ ∀ (j : Nat) (p : Nat × W), q ≤ j → L[j]? = some p → c[j * 2 + 1]? = some (.own (s.nx + j) 0 p.2.length 1)
  row : ∀ (j : Nat) (p : Nat × W), q ≤ j → L[j]? = some p → ∃ c, s'.get (s.nx + j) = some c ∧ c.length = p.2.length
  nx : s.nx + L.length < s'.nx
  fr : ∀ i, i < s.nx → s'.get i = s.get i
theorem reads_ax (t : List UInt8) : PCall Tryd.prog 3 [.v (.string (bs t))] (.v (.bool true)) := by
  refine pcall_of fun s => ?_
  have hl1 := lines_own t s
  have hl2 := lines_pc t
  have hl3 := rlines_pc t
  have hcnt := lexAll_count t
  have hfew := all_few t
  unfold RV at hl2 hl3
  generalize (lexAll t).1 = L at *
  generalize (lexAll t).2.1 = x at *
  generalize (lexAll t).2.2 = y at *
  have hsm := same_pc L L hcnt fun p hp => Nat.le_trans (hfew p hp) (by decide)
  rw [decide_eq_true rfl] at hsm
  refine acall_of Tryd.func3 rfl rfl (by simp [Tryd.ntmps3]) ?_; rw [Tryd.ntmps3, Tryd.results3]
  (first | refine go (cj rTI (cj @bsz (cj @Nat.zero_add @tz0))) ?_ | exact go0 (cj rTI (cj @bsz (cj @Nat.zero_add @tz0))))
  refine aw_reg fun K hK => ?_; refine rn (cj rTI (cj @bsz (cj @Nat.zero_add @tz0))) ?_; refine cont_pure awake_pc ?_; refine rn (cj rTI (cj @bsz (cj @Nat.zero_add @tz0))) ?_; refine hK _ _ ?_; clear hK K
  rw [then_normal]
  (try rw [then_normal]); (try refine aw_seq ?_); refine aw_cond rfl ?_ ?_ <;> intro hb <;> (try (cases hb; done)) <;> (try simp only [bq] at hb) <;> (try (exfalso; omega))
  (first | refine go trivial ?_ | exact go0 trivial)
  refine aw_reg fun K hK => ?_; refine rn (cj rTI (cj @bsz (cj @Nat.zero_add @tz0))) ?_; refine cont_go hl1 ?_; rintro _ s1 ⟨rfl, n1, gb, gd, fr⟩; refine rn (cj rTI (cj @bsz (cj @Nat.zero_add @tz0))) ?_; refine hK _ _ ?_; clear hK K
  rw [then_normal]
  (first | refine go trivial ?_ | exact go0 trivial)
  refine aw_reg fun K hK => ?_; refine rn (cj rTI (cj @bsz (cj @Nat.zero_add @tz0))) ?_; refine cont_pure hl2 ?_; refine rn (cj rTI (cj @bsz (cj @Nat.zero_add @tz0))) ?_; refine hK _ _ ?_; clear hK K
  rw [then_normal]
  (first | refine go trivial ?_ | exact go0 trivial)
  refine aw_reg fun K hK => ?_; refine rn (cj rTI (cj @bsz (cj @Nat.zero_add @tz0))) ?_; refine cont_pure hl3 ?_; refine rn (cj rTI (cj @bsz (cj @Nat.zero_add @tz0))) ?_; refine hK _ _ ?_; clear hK K
  rw [then_normal]
  have hlend := acall_lend hsm rfl (LiesL.cons (Lies.whole gb (OC_length L s.nx) (oc_lies L s.nx gd)) (LiesL.cons (.same _ (lv_idf L)) (LiesL.nil s1)))
  (first | refine go trivial ?_ | exact go0 trivial)
  refine aw_reg fun K hK => ?_; refine rn (cj rTI (cj @bsz (cj @Nat.zero_add (cj @tz0 rbn)))) ?_; refine cont_go hlend ?_; rintro _ s2 ⟨rfl, rfl⟩; refine rn (cj rTI (cj @bsz (cj @Nat.zero_add (cj @tz0 rbn)))) ?_; refine hK _ _ ?_; clear hK K
  rw [then_normal]
  (try rw [then_normal]); (try refine aw_seq ?_); refine aw_cond rfl ?_ ?_ <;> intro hb <;> (try (cases hb; done)) <;> (try simp only [bq] at hb) <;> (try (exfalso; omega))
  refine aw_skip ?_
  refine aw_seq ?_
  refine aw_only (fun e s' => e.n = 89 ∧ e.m 6 = LV L ∧ e.m 9 = LV L ∧ ∀ i, i < s.nx → s'.get i = s.get i) ?_ ?_
  · (first | refine go (cj rTI (cj @bsz (cj @Nat.zero_add @tz0))) ?_ | exact go0 (cj rTI (cj @bsz (cj @Nat.zero_add @tz0))))
    refine aw_loop (fun m e s' => ∃ q, m = L.length - q ∧ q ≤ L.length ∧ e.n = 89 ∧ e.m 3 = .own (s.nx + L.length) 0 L.length 2 ∧ e.m 6 = LV L ∧ e.m 9 = LV L ∧ e.m 49 = .v (.int .i64 L.length) ∧ e.m 50 = .v (.int .i64 (q : Nat)) ∧ SP s L q s') L.length ?_ ?_
    · refine ⟨0, by omega, by omega, ?_, ?_, ?_, ?_, ?_, ?_, ⟨⟨_, gb, OC_length L s.nx, fun j p _ hp => oc_at L s.nx j p hp⟩, fun j p _ hp => ⟨_, gd j p hp, SC_length p.2⟩, by omega, fr⟩⟩
      all_goals ((first | refine rn trivial ?_ | exact rn0 trivial))
      all_goals rfl
    · clear hl1 hl2 hl3 hsm hlend gb gd fr n1
      rintro m e s1 ⟨q, rfl, hq, h1, k3, k6, k9, k49, k50, S⟩
      by_cases hq2 : q < L.length
      · obtain ⟨p, hp⟩ : ∃ p, L[q]? = some p := ⟨L[q], by simp [hq2]⟩
        have hpl : p.2.length ≤ 64 := hfew p (List.mem_of_getElem? hp)
        (first | refine go (cj rTI (cj @bsz (cj @Nat.zero_add (cj @tz0 (cj @h1 (cj @k49 @k50)))))) ?_ | exact go0 (cj rTI (cj @bsz (cj @Nat.zero_add (cj @tz0 (cj @h1 (cj @k49 @k50)))))))
        (try rw [then_normal]); (try refine aw_seq ?_); refine aw_cond rfl ?_ ?_ <;> intro hb <;> (try (cases hb; done)) <;> (try simp only [bq] at hb) <;> (try (exfalso; omega))
        obtain ⟨c, gb, cl, gc⟩ := S.bx
        have hc1 : (c.drop (q * 2 + 1)).head? = some (.own (s.nx + q) 0 p.2.length 1) := by
          rw [List.head?_drop]
          exact gc q p (Nat.le_refl _) hp
        obtain ⟨d0, gd0, dl0⟩ := S.row q p (Nat.le_refl _) hp
        have hnx := S.nx
        (first | refine go (cj rTI (cj @bsz (cj @Nat.zero_add (cj @tz0 (cj @h1 (cj @k3 (cj @k50 (cj @gb (cj @hc1 @Int.toNat_natCast))))))))) ?_ | exact go0 (cj rTI (cj @bsz (cj @Nat.zero_add (cj @tz0 (cj @h1 (cj @k3 (cj @k50 (cj @gb (cj @hc1 @Int.toNat_natCast))))))))))
        refine aw_at (.exit 2) (fun e s' => e.n = 89 ∧ e.m 3 = .own (s.nx + L.length) 0 L.length 2 ∧ e.m 6 = LV L ∧ e.m 9 = LV L ∧ e.m 49 = .v (.int .i64 L.length) ∧ e.m 50 = .v (.int .i64 (q : Nat)) ∧ e.m 12 = .v (.int .i64 (q : Nat)) ∧ (∃ d, s'.get (s.nx + q) = some d ∧ d.length = p.2.length) ∧ (∀ i, i ≠ s.nx + q → s'.get i = s1.get i) ∧ s'.nx = s1.nx) ?_ ?_
        · refine aw_loop (fun m e s' => ∃ r, m = p.2.length - r ∧ r ≤ p.2.length ∧ e.n = 89 ∧ e.m 3 = .own (s.nx + L.length) 0 L.length 2 ∧ e.m 6 = LV L ∧ e.m 9 = LV L ∧ e.m 49 = .v (.int .i64 L.length) ∧ e.m 50 = .v (.int .i64 (q : Nat)) ∧ e.m 12 = .v (.int .i64 (q : Nat)) ∧ e.m 58 = .v (.int .i64 p.2.length) ∧ e.m 59 = .v (.int .i64 (r : Nat)) ∧ (∃ d, s'.get (s.nx + q) = some d ∧ d.length = p.2.length) ∧ (∀ i, i ≠ s.nx + q → s'.get i = s1.get i) ∧ s'.nx = s1.nx) p.2.length ?_ ?_
          · refine ⟨0, by omega, by omega, ?_, ?_, ?_, ?_, ?_, ?_, ?_, ?_, ?_, ⟨d0, gd0, dl0⟩, fun i _ => rfl, rfl⟩
            all_goals ((first | refine rn (cj @h1 (cj @k3 (cj @k6 (cj @k9 (cj @k49 @k50))))) ?_ | exact rn0 (cj @h1 (cj @k3 (cj @k6 (cj @k9 (cj @k49 @k50)))))))
            all_goals rfl
          · clear h1 k3 k6 k9 k49 k50 e gd0 dl0 d0
            rintro m e s2 ⟨r, rfl, hr, h1, k3, k6, k9, k49, k50, k12, k58, k59, ⟨d, gd, dl⟩, ho, hn⟩
            by_cases hr2 : r < p.2.length
            · have gb2 : s2.get (s.nx + L.length) = some c := by rw [ho _ (by omega)]; exact gb
              (first | refine go (cj rTI (cj @bsz (cj @Nat.zero_add (cj @tz0 (cj @h1 (cj @k58 @k59)))))) ?_ | exact go0 (cj rTI (cj @bsz (cj @Nat.zero_add (cj @tz0 (cj @h1 (cj @k58 @k59)))))))
              (try rw [then_normal]); (try refine aw_seq ?_); refine aw_cond rfl ?_ ?_ <;> intro hb <;> (try (cases hb; done)) <;> (try simp only [bq] at hb) <;> (try (exfalso; omega))
              (first | refine go (cj rTI (cj @bsz (cj @Nat.zero_add (cj @tz0 (cj @h1 (cj @k3 (cj @k12 (cj @k59 (cj @gb2 (cj @hc1 (cj @gd (cj @dl (cj @Int.toNat_natCast @Nat.mul_one))))))))))))) ?_ | exact go0 (cj rTI (cj @bsz (cj @Nat.zero_add (cj @tz0 (cj @h1 (cj @k3 (cj @k12 (cj @k59 (cj @gb2 (cj @hc1 (cj @gd (cj @dl (cj @Int.toNat_natCast @Nat.mul_one))))))))))))))
              simp only [block_normal, loop_normal]
              refine ⟨p.2.length - (r + 1), by omega, r + 1, rfl, by omega, ?_, ?_, ?_, ?_, ?_, ?_, ?_, ?_, ?_, ⟨_, St.set_same _ _ _, by rw [List.length_set]; exact dl⟩, fun i hi => by rw [St.set_ne _ _ _ _ hi]; exact ho i hi, hn⟩
              all_goals ((first | refine rn (cj @h1 (cj @k3 (cj @k6 (cj @k9 (cj @k49 (cj @k50 (cj @k12 (cj @k58 @k59)))))))) ?_ | exact rn0 (cj @h1 (cj @k3 (cj @k6 (cj @k9 (cj @k49 (cj @k50 (cj @k12 (cj @k58 @k59))))))))))
              all_goals rfl
            · (first | refine go (cj rTI (cj @bsz (cj @Nat.zero_add (cj @tz0 (cj @h1 (cj @k58 @k59)))))) ?_ | exact go0 (cj rTI (cj @bsz (cj @Nat.zero_add (cj @tz0 (cj @h1 (cj @k58 @k59)))))))
              (try rw [then_normal]); (try refine aw_seq ?_); refine aw_cond rfl ?_ ?_ <;> intro hb <;> (try (cases hb; done)) <;> (try simp only [bq] at hb) <;> (try (exfalso; omega))
              (first | refine go trivial ?_ | exact go0 trivial)
              refine ⟨?_, ?_, ?_, ?_, ?_, ?_, ?_, ⟨d, gd, dl⟩, ho, hn⟩
              all_goals ((first | refine rn (cj @h1 (cj @k3 (cj @k6 (cj @k9 (cj @k49 (cj @k50 @k12)))))) ?_ | exact rn0 (cj @h1 (cj @k3 (cj @k6 (cj @k9 (cj @k49 (cj @k50 @k12))))))))
        · clear h1 k3 k6 k9 k49 k50 e gd0 dl0 d0
          rintro e s2 ⟨h1, k3, k6, k9, k49, k50, k12, ⟨d, gd, dl⟩, ho, hn⟩
          simp only [block_exit, if_true, then_normal]
          have gb2 : s2.get (s.nx + L.length) = some c := by rw [ho _ (by omega)]; exact gb
          have n1 : ¬ s.nx + L.length = s.nx + q := by omega
          have n2 : ¬ s.nx + L.length = s2.nx := by omega
          (first | refine go (cj rTI (cj @bsz (cj @Nat.zero_add (cj @tz0 (cj @h1 (cj @k3 (cj @k12 (cj @gb2 (cj @hc1 (cj @gd (cj @dl (cj @cl (cj rls (cj @Int.toNat_natCast @Nat.mul_one)))))))))))))) ?_ | exact go0 (cj rTI (cj @bsz (cj @Nat.zero_add (cj @tz0 (cj @h1 (cj @k3 (cj @k12 (cj @gb2 (cj @hc1 (cj @gd (cj @dl (cj @cl (cj rls (cj @Int.toNat_natCast @Nat.mul_one)))))))))))))))
          rw [block_normal, then_normal]
          (first | refine go (cj rTI (cj @bsz (cj @Nat.zero_add (cj @tz0 (cj @h1 @k50))))) ?_ | exact go0 (cj rTI (cj @bsz (cj @Nat.zero_add (cj @tz0 (cj @h1 @k50))))))
          simp only [block_normal, loop_normal]
          refine ⟨L.length - (q + 1), by omega, q + 1, rfl, by omega, ?_, ?_, ?_, ?_, ?_, ?_, ?_⟩
          · (first | refine rn @h1 ?_ | exact rn0 @h1)
          · (first | refine rn @k3 ?_ | exact rn0 @k3)
          · (first | refine rn @k6 ?_ | exact rn0 @k6)
          · (first | refine rn @k9 ?_ | exact rn0 @k9)
          · (first | refine rn @k49 ?_ | exact rn0 @k49)
          · (first | refine rn trivial ?_ | exact rn0 trivial)
            rfl
          · have hold : ∀ i, i ≠ s.nx + L.length → i ≠ s.nx + q → i < s2.nx → (((((s2.push [AV.v (Value.string { data := #[63] })]).kill (s.nx + q)).push (d ++ [AV.v (Value.string { data := #[63] })])).set (s.nx + L.length) (c.set (q * 2 + 1) (AV.own (s2.nx + 1) 0 (p.2.length + 1) 1))).set
                (s.nx + L.length) ((c.set (q * 2 + 1) (AV.own (s2.nx + 1) 0 (p.2.length + 1) 1)).set (q * 2 + 0) (AV.v (Value.int IntKind.i64 (-1))))).get i = s1.get i := fun i a1 a2 a3 => by
              rw [St.set_ne _ _ _ _ a1, St.set_ne _ _ _ _ a1, St.push_ne _ _ _ (by show i ≠ s2.nx + 1; omega), St.kill_ne _ _ _ a2, St.push_ne _ _ _ (by omega)]
              exact ho i a2
            refine ⟨⟨_, St.set_same _ _ _, by rw [List.length_set, List.length_set]; exact cl, fun j p' hj hp' => ?_⟩, fun j p' hj hp' => ?_, ?_, fun i hi => ?_⟩
            · rw [List.getElem?_set_ne (by omega), List.getElem?_set_ne (by omega)]
              exact gc j p' (by omega) hp'
            · have hjl := (List.getElem?_eq_some_iff.1 hp').1
              rw [hold _ (by omega) (by omega) (by omega)]
              exact S.row j p' (by omega) hp'
            · show s.nx + L.length < s2.nx + 2
              omega
            · rw [hold _ (by omega) (by omega) (by omega)]
              exact S.fr i hi
      · obtain rfl : q = L.length := by omega
        (first | refine go (cj rTI (cj @bsz (cj @Nat.zero_add (cj @tz0 (cj @h1 (cj @k49 @k50)))))) ?_ | exact go0 (cj rTI (cj @bsz (cj @Nat.zero_add (cj @tz0 (cj @h1 (cj @k49 @k50)))))))
        (try rw [then_normal]); (try refine aw_seq ?_); refine aw_cond rfl ?_ ?_ <;> intro hb <;> (try (cases hb; done)) <;> (try simp only [bq] at hb) <;> (try (exfalso; omega))
        (first | refine go trivial ?_ | exact go0 trivial)
        refine ⟨?_, ?_, ?_, S.fr⟩
        all_goals ((first | refine rn (cj @h1 (cj @k6 @k9)) ?_ | exact rn0 (cj @h1 (cj @k6 @k9))))
  · rintro e s2 ⟨h1, k6, k9, fr⟩
    (first | refine go trivial ?_ | exact go0 trivial)
    refine aw_reg fun K hK => ?_; refine rn (cj rTI (cj @bsz (cj @Nat.zero_add (cj @tz0 (cj @h1 (cj @k6 @k9)))))) ?_; refine cont_pure hsm ?_; refine rn (cj rTI (cj @bsz (cj @Nat.zero_add (cj @tz0 (cj @h1 (cj @k6 @k9)))))) ?_; refine hK _ _ ?_; clear hK K
    rw [then_normal]
    (first | refine go (cj rTI (cj @bsz (cj @Nat.zero_add (cj @tz0 @h1)))) ?_ | exact go0 (cj rTI (cj @bsz (cj @Nat.zero_add (cj @tz0 @h1)))))
    exact fr
theorem reads_any (a : ByteArray) (w : World) : Calls Tryd.prog 3 #[.string a] w fun e w' => e = .returned (.bool true) ∧ Below w.heap.size w w' := by
  refine (calls_of_pcall (reads_ax a.data.toList) w trivial trivial [.string a] ⟨rfl, fun j z u hz hu => ?_⟩).mono ?_
  · match j with
    | 0 => simp at hz hu; subst hz hu; exact .v _
    | j + 1 => simp at hz
  · rintro en w' ⟨v, k', rfl, hb, hr⟩
    rw [hr.v_eq]
    exact ⟨rfl, hb⟩
end Go.Proofs.YtppmamcoehhopaaDoor.LexL
