/- A part of the proof. -/
import Derived.Test.YtfjelkjlfcafgaaGreatDoorPNumE
section
/- Texts of numbers: FormatInt in general; the document's Text. -/
namespace Go.Proofs.YtfjelkjlfcafgaaGreatDoor.NumG
open Go Go.RowKit Go.Proofs.YtfjelkjlfcafgaaGreatDoor.Ax Go.Proofs.YtfjelkjlfcafgaaGreatDoor.Ti Go.Proofs.YtfjelkjlfcafgaaGreatDoor.BigM Go.Proofs.YtfjelkjlfcafgaaGreatDoor.RefA Go.Proofs.YtfjelkjlfcafgaaGreatDoor.RefC Go.Proofs.YtfjelkjlfcafgaaGreatDoor.RefD Go.Proofs.YtfjelkjlfcafgaaGreatDoor.RefH Go.Proofs.YtfjelkjlfcafgaaGreatDoor.RefK Go.Proofs.YtfjelkjlfcafgaaGreatDoor.NumS Go.Proofs.YtfjelkjlfcafgaaGreatDoor.NumA Go.Proofs.YtfjelkjlfcafgaaGreatDoor.NumT Go.Proofs.YtfjelkjlfcafgaaGreatDoor.NumU Go.Proofs.YtfjelkjlfcafgaaGreatDoor.NumX
set_option linter.unusedSimpArgs false
set_option linter.unusedVariables false
set_option maxRecDepth 4000
set_option maxHeartbeats 2000000
theorem rTI : type_of% (cj @ti3 (cj @ti2 (cj @ti4 (cj @ti9 (cj @ti5 (cj @ti36 @ti24)))))) := cj @ti3 (cj @ti2 (cj @ti4 (cj @ti9 (cj @ti5 (cj @ti36 @ti24)))))

theorem dec_eq (n : Nat) : Lib.decDigits n = (decP n).map UInt8.ofNat := by
  induction n using Nat.strongRecOn with
  | ind n ih =>
    rw [Lib.decDigits]
    split
    · rename_i h
      unfold decP
      split
      · rename_i e; subst e; rfl
      · rw [decN, digs_pos 10 n (by decide) (by omega), Nat.div_eq_of_lt h, digs_zero, Nat.mod_eq_of_lt h]
        rfl
    · rename_i h
      rw [ih (n / 10) (by omega)]
      have e1 : decP n = decN n := by unfold decP; rw [if_neg (by omega)]
      have e2 : decP (n / 10) = decN (n / 10) := by unfold decP; rw [if_neg (by omega)]
      rw [e1, e2]
      have e3 : decN n = decN (n / 10) ++ [48 + n % 10] := by
        unfold decN
        rw [digs_pos 10 n (by decide) (by omega), List.reverse_cons, List.map_append]
        rfl
      rw [e3, List.map_append]
      rfl
theorem itoa_eq (z : Int) : Lib.itoa z = (decS z).map UInt8.ofNat := by
  unfold Lib.itoa decS
  split
  · rename_i h
    rw [if_neg (by omega), dec_eq, decP, if_neg (by omega)]
    rfl
  · rename_i h
    by_cases e : z = 0
    · subst e; rw [if_pos rfl, dec_eq]; rfl
    · rw [if_neg e, dec_eq, decP, if_neg (by omega), show z.toNat = z.natAbs by omega]
      rfl
theorem format_ax (z : Int) (h0 : -9223372036854775808 ≤ z) (h1 : z ≤ 9223372036854775807) : PCall Tryz.prog 63 [.v (.int .i64 z), .v (.int .i64 10)] (.v (.string (bs (decS z)))) := by
  refine pcall_lift_tab (us := [.int .i64 z, .int .i64 10]) (enters_of Tryz.func63 rfl rfl) (fun k => .v _) fun w ht hz => ?_
  refine (Tryz.strconv_FormatInt_10 z h0 h1 w (NumLaid.tabIs ht hz)).mono ?_
  rintro en w' ⟨rfl, k, os, rfl⟩
  rw [itoa_eq]
  exact ⟨rfl, ⟨rfl, rfl, rfl, by simp [Sort.grow, World.drewN], fun i hi => by simp [Sort.grow, World.drewN, Array.getElem?_append, hi]⟩⟩
theorem text_all (m x : Int) : PCall Tryz.prog 17 [NM m x] (textV m x) :=
  text_ax m x fun h => by
    obtain ⟨h1, h2, _⟩ := RefM.validN_m m x h
    exact format_ax m (by omega) (by omega)
theorem digits_dec (x : Int) (l : lz x ≤ 1099511627776) : PCall Tryz.prog 65 [NI x] (.v (.string (bs (decS x)))) := RefJ.digits_ax x l
theorem app0 (l : List Nat) : l ++ [] = l := List.append_nil l
theorem zeros (n : Nat) : List.replicate n 48 ++ [48] = List.replicate (n + 1) 48 := by rw [List.replicate_succ']
theorem hd_names (kk : Nat) (h : kk < 9) : (([AV.v (.string (ByteArray.mk #[102])), .v (.string (ByteArray.mk #[112])), .v (.string (ByteArray.mk #[110])), .v (.string (ByteArray.mk #[117])), .v (.string (ByteArray.mk #[109])), .v (.string (ByteArray.mk #[])), .v (.string (ByteArray.mk #[107])), .v (.string (ByteArray.mk #[109, 101, 103])), .v (.string (ByteArray.mk #[103]))]).drop kk).head? = some (.v (.string (bs (letterS kk)))) := by
  have : kk = 0 ∨ kk = 1 ∨ kk = 2 ∨ kk = 3 ∨ kk = 4 ∨ kk = 5 ∨ kk = 6 ∨ kk = 7 ∨ kk = 8 := by omega
  rcases this with rfl | rfl | rfl | rfl | rfl | rfl | rfl | rfl | rfl <;> rfl
theorem textD_ax (m x : Int) : PCall Tryz.prog 20 [NM m x] (textV m x) := by
  refine pcall_of fun s => ?_
  have hv := RefM.valid_ax m x
  unfold RefM.NM at hv
  unfold NM textV
  by_cases q : validN m x = true
  · rw [if_pos q]
    rw [show RefM.validN m x = true from q] at hv
    obtain ⟨m1, m2, k1, k2⟩ := RefM.validN_m m x q
    by_cases hm : m = 0
    · have hx : x = 0 := by
        have : RefM.validN m x = decide (x = 0) := by
          unfold RefM.validN
          rw [if_pos (by rw [hm]; rfl), hm]
          simp
        have q2 : RefM.validN m x = true := q
        rw [this] at q2
        simpa using q2
      subst hm hx
      have e1 : textS 0 0 = [48] := rfl
      rw [e1]
      refine acall_of Tryz.func20 rfl rfl (by simp [Tryz.ntmps20]) ?_; rw [Tryz.ntmps20, Tryz.results20]
      (first | refine go rTI ?_ | exact go0 rTI)
      refine aw_reg fun K hK => ?_; refine rn rTI ?_; refine cont_pure hv ?_; refine rn rTI ?_; refine hK _ _ ?_; clear hK K
      rw [then_normal]
      (try rw [then_normal]); (try refine aw_seq ?_); refine aw_cond rfl ?_ ?_ <;> intro hb <;> (try (cases hb; done)) <;> (try simp only [bq] at hb) <;> (try (exfalso; omega))
      (first | refine go rTI ?_ | exact go0 rTI)
      (try rw [then_normal]); (try refine aw_seq ?_); refine aw_cond rfl ?_ ?_ <;> intro hb <;> (try (cases hb; done)) <;> (try simp only [bq] at hb) <;> (try (exfalso; omega))
      (first | refine go rTI ?_ | exact go0 rTI)
      exact ⟨rfl, fun i hi => if_neg (by omega)⟩
    · have hw := wide_ax m (by omega) (by omega)
      have hl : lz m ≤ 4 := lz_small m (by omega) (by omega)
      have hd := digits_dec m (by omega)
      have hm0 : (m == 0) = false := by simp [hm]
      have hld := decS_len m m1 m2
      have lD := bs_size (decS m)
      by_cases qx : x < -15
      · have hs := small_ax (-x) (by omega) (by omega)
        have hl2 : lz (-x) ≤ 4 := lz_small _ (by omega) (by omega)
        have hd2 := digits_dec (-x) (by omega)
        have e3 : decS (-x) = decN x.natAbs := by
          unfold decS
          rw [if_neg (by omega), if_neg (by omega), Int.natAbs_neg]
          rfl
        rw [e3] at hd2
        have e1 : textS m x = decS m ++ [101, 45] ++ decN x.natAbs := by unfold textS; rw [if_pos qx]
        rw [e1]
        have c1 : bs (decS m) ++ (ByteArray.mk #[101, 45]) = bs (decS m ++ [101, 45]) := by
          show bs (decS m) ++ bs [101, 45] = _
          exact bs_append _ _
        have c2 := bs_append (decS m ++ [101, 45]) (decN x.natAbs)
        have lE := bs_size (decS m ++ [101, 45])
        have lN := bs_size (decN x.natAbs)
        have lN2 := decN_len x.natAbs 2 (by omega)
        have l2 : (ByteArray.mk #[101, 45]).size = 2 := rfl
        rw [List.length_append] at lE
        rw [show ([101, 45] : List Nat).length = 2 from rfl] at lE
        clear e1 e3
        refine acall_of Tryz.func20 rfl rfl (by simp [Tryz.ntmps20]) ?_; rw [Tryz.ntmps20, Tryz.results20]
        (first | refine go rTI ?_ | exact go0 rTI)
        refine aw_reg fun K hK => ?_; refine rn rTI ?_; refine cont_pure hv ?_; refine rn rTI ?_; refine hK _ _ ?_; clear hK K
        rw [then_normal]
        (try rw [then_normal]); (try refine aw_seq ?_); refine aw_cond rfl ?_ ?_ <;> intro hb <;> (try (cases hb; done)) <;> (try simp only [bq] at hb) <;> (try (exfalso; omega))
        (first | refine go (cj rTI @hm0) ?_ | exact go0 (cj rTI @hm0))
        (try rw [then_normal]); (try refine aw_seq ?_); refine aw_cond rfl ?_ ?_ <;> intro hb <;> (try (cases hb; done)) <;> (try simp only [bq] at hb) <;> (try (exfalso; omega))
        (first | refine go trivial ?_ | exact go0 trivial)
        refine aw_reg fun K hK => ?_; refine rn rTI ?_; refine cont_pure hw ?_; (first | refine rn rTI ?_ | exact rn0 rTI); refine cont_pure hd ?_; refine rn rTI ?_; refine hK _ _ ?_; clear hK K
        rw [then_normal]
        (first | refine go rTI ?_ | exact go0 rTI)
        (try rw [then_normal]); (try refine aw_seq ?_); refine aw_cond rfl ?_ ?_ <;> intro hb <;> (try (cases hb; done)) <;> (try simp only [bq] at hb) <;> (try (exfalso; omega))
        generalize x.natAbs = i at *
        refine aw_seq ?_
        refine aw_reg fun K hK => ?_; refine rn (cj rTI (cj @c1 (cj @c2 (cj @lD (cj @lE (cj @lN (cj @l2 @Int.zero_sub))))))) ?_; refine cont_pure hs ?_; (first | refine rn rTI ?_ | exact rn0 rTI); refine cont_pure hd2 ?_; refine rn (cj rTI (cj @c1 (cj @c2 (cj @lD (cj @lE (cj @lN (cj @l2 @Int.zero_sub))))))) ?_; refine hK _ _ ?_; clear hK K
        (first | refine go rTI ?_ | exact go0 rTI)
        exact fun i hi => if_neg (by omega)
      · obtain ⟨kk, hkk⟩ : ∃ kk : Nat, kk = ((x + 15) / 3).toNat := ⟨_, rfl⟩
        obtain ⟨z, hz⟩ : ∃ z : Nat, z = ((x + 15) % 3).toNat := ⟨_, rfl⟩
        have e1 : textS m x = decS m ++ List.replicate z 48 ++ letterS kk := by unfold textS; rw [if_neg qx, hkk, hz]
        rw [e1]
        have hx : x = 3 * (kk : Int) - 15 + z := by omega
        have hz3 : z < 3 := by omega
        have hk9 : kk < 9 := by omega
        have hdn := hd_names kk hk9
        have lK := bs_size (letterS kk)
        have lK3 := (letter_reads kk (by omega)).2.2
        clear e1 hkk hz
        refine acall_of Tryz.func20 rfl rfl (by simp [Tryz.ntmps20]) ?_; rw [Tryz.ntmps20, Tryz.results20]
        (first | refine go rTI ?_ | exact go0 rTI)
        refine aw_reg fun K hK => ?_; refine rn rTI ?_; refine cont_pure hv ?_; refine rn rTI ?_; refine hK _ _ ?_; clear hK K
        rw [then_normal]
        (try rw [then_normal]); (try refine aw_seq ?_); refine aw_cond rfl ?_ ?_ <;> intro hb <;> (try (cases hb; done)) <;> (try simp only [bq] at hb) <;> (try (exfalso; omega))
        (first | refine go (cj rTI @hm0) ?_ | exact go0 (cj rTI @hm0))
        (try rw [then_normal]); (try refine aw_seq ?_); refine aw_cond rfl ?_ ?_ <;> intro hb <;> (try (cases hb; done)) <;> (try simp only [bq] at hb) <;> (try (exfalso; omega))
        (first | refine go trivial ?_ | exact go0 trivial)
        refine aw_reg fun K hK => ?_; refine rn rTI ?_; refine cont_pure hw ?_; (first | refine rn rTI ?_ | exact rn0 rTI); refine cont_pure hd ?_; refine rn rTI ?_; refine hK _ _ ?_; clear hK K
        rw [then_normal]
        (first | refine go rTI ?_ | exact go0 rTI)
        (try rw [then_normal]); (try refine aw_seq ?_); refine aw_cond rfl ?_ ?_ <;> intro hb <;> (try (cases hb; done)) <;> (try simp only [bq] at hb) <;> (try (exfalso; omega))
        (first | refine go rTI ?_ | exact go0 rTI)
        refine aw_loop (fun n e s' => ∃ i : Nat, n = i ∧ kk ≤ i ∧ i < 9 ∧ e.n = 61 ∧ e.m 1 = .ptr s.nx 0 ∧ e.m 4 = .v (.string (bs (decS m))) ∧ e.m 5 = .own (s.nx + 1) 0 9 1 ∧ e.m 6 = .v (.int .i64 (i : Nat)) ∧ s'.get s.nx = some [.v (.int .i64 m), .v (.int .i64 x)] ∧
          s'.get (s.nx + 1) = some [AV.v (.string (ByteArray.mk #[102])), AV.v (.string (ByteArray.mk #[112])), AV.v (.string (ByteArray.mk #[110])), AV.v (.string (ByteArray.mk #[117])), AV.v (.string (ByteArray.mk #[109])), AV.v (.string (ByteArray.mk #[])), AV.v (.string (ByteArray.mk #[107])), AV.v (.string (ByteArray.mk #[109, 101, 103])), AV.v (.string (ByteArray.mk #[103]))] ∧ ∀ i, i < s.nx → s'.get i = s.get i) 8 ?_ ?_
        · refine ⟨8, rfl, by omega, by omega, ?_⟩
          (repeat' refine And.intro ?_ ?_) <;> (first | done | exact rfl | (intro i hi; exact rn0 rTI; done) | (exact rn0 rTI; done) | skip)
        · rintro i e s' ⟨_, rfl, hi1, hi2, h1, k1, k4, k5, k6, g0, g1, fr⟩
          by_cases hi : kk < i
          · (first | refine go (cj rTI (cj @h1 @k6)) ?_ | exact go0 (cj rTI (cj @h1 @k6)))
            (try rw [then_normal]); (try refine aw_seq ?_); refine aw_cond rfl ?_ ?_ <;> intro hb <;> (try (cases hb; done)) <;> (try simp only [bq] at hb) <;> (try (exfalso; omega))
            (first | refine go (cj rTI (cj @h1 (cj @k1 (cj @k6 @g0)))) ?_ | exact go0 (cj rTI (cj @h1 (cj @k1 (cj @k6 @g0)))))
            (try rw [then_normal]); (try refine aw_seq ?_); refine aw_cond rfl ?_ ?_ <;> intro hb <;> (try (cases hb; done)) <;> (try simp only [bq] at hb) <;> (try (exfalso; omega))
            (first | refine go (cj rTI (cj @h1 @k6)) ?_ | exact go0 (cj rTI (cj @h1 @k6)))
            simp only [block_normal, loop_normal]
            refine ⟨i - 1, by omega, i - 1, rfl, by omega, by omega, ?_, ?_, ?_, ?_, ?_, g0, g1, fr⟩
            all_goals ((first | refine rn (cj @h1 (cj @k1 (cj @k4 (cj @k5 @k6)))) ?_ | exact rn0 (cj @h1 (cj @k1 (cj @k4 (cj @k5 @k6))))))
            refine congrArg (fun z : Int => AV.v (.int .i64 z)) ?_
            omega
          · obtain rfl : i = kk := by omega
            (first | refine go (cj rTI (cj @h1 @k6)) ?_ | exact go0 (cj rTI (cj @h1 @k6)))
            (try rw [then_normal]); (try refine aw_seq ?_); refine aw_cond rfl ?_ ?_ <;> intro hb <;> (try (cases hb; done)) <;> (try simp only [bq] at hb) <;> (try (exfalso; omega))
            (first | refine go (cj rTI (cj @h1 (cj @k1 (cj @k6 @g0)))) ?_ | exact go0 (cj rTI (cj @h1 (cj @k1 (cj @k6 @g0)))))
            (try rw [then_normal]); (try refine aw_seq ?_); refine aw_cond rfl ?_ ?_ <;> intro hb <;> (try (cases hb; done)) <;> (try simp only [bq] at hb) <;> (try (exfalso; omega))
            (first | refine go (cj rTI (cj @h1 @k6)) ?_ | exact go0 (cj rTI (cj @h1 @k6)))
            refine aw_at (.exit 2) (fun e s'' => s'' = s' ∧ e.n = 61 ∧ e.m 4 = .v (.string (bs (decS m ++ List.replicate z 48))) ∧ e.m 5 = .own (s.nx + 1) 0 9 1 ∧ e.m 6 = .v (.int .i64 (i : Nat))) ?_ ?_
            · refine aw_loop (fun n e s'' => ∃ p : Nat, n = z - p ∧ p ≤ z ∧ s'' = s' ∧ e.n = 61 ∧ e.m 1 = .ptr s.nx 0 ∧ e.m 4 = .v (.string (bs (decS m ++ List.replicate p 48))) ∧ e.m 5 = .own (s.nx + 1) 0 9 1 ∧ e.m 6 = .v (.int .i64 (i : Nat)) ∧ e.m 7 = .v (.int .i64 (3 * (i : Int) - 15 + (p : Nat)))) z ?_ ?_
              · refine ⟨0, by omega, by omega, rfl, ?_⟩
                (repeat' refine And.intro ?_ ?_) <;> (first | done | exact rfl | (intro i hi; exact rn0 (cj rTI (cj @h1 (cj @k1 (cj @k4 (cj @k5 (cj @k6 @app0)))))); done) | (exact rn0 (cj rTI (cj @h1 (cj @k1 (cj @k4 (cj @k5 (cj @k6 @app0)))))); done) | skip)
                (first | refine rn trivial ?_ | exact rn0 trivial)
                refine congrArg (fun z : Int => AV.v (.int .i64 z)) ?_
                omega
              · clear h1 k1 k4 k5 k6 e
                rintro n e s'' ⟨p, rfl, hp, rfl, h1, k1, k4, k5, k6, k7⟩
                by_cases hp2 : p < z
                · have c1 := bs_append (decS m ++ List.replicate p 48) [48]
                  have lE := bs_size (decS m ++ List.replicate p 48)
                  rw [List.length_append, List.length_replicate] at lE
                  rw [show bs [48] = ByteArray.mk #[48] from rfl, List.append_assoc, zeros] at c1
                  (first | refine go (cj rTI (cj @h1 (cj @k1 (cj @k7 @g0)))) ?_ | exact go0 (cj rTI (cj @h1 (cj @k1 (cj @k7 @g0)))))
                  (try rw [then_normal]); (try refine aw_seq ?_); refine aw_cond rfl ?_ ?_ <;> intro hb <;> (try (cases hb; done)) <;> (try simp only [bq] at hb) <;> (try (exfalso; omega))
                  have l2 : (ByteArray.mk #[48]).size = 1 := rfl
                  (first | refine go (cj rTI (cj @h1 (cj @k4 (cj @k7 (cj @c1 (cj @lE @l2)))))) ?_ | exact go0 (cj rTI (cj @h1 (cj @k4 (cj @k7 (cj @c1 (cj @lE @l2)))))))
                  simp only [block_normal, loop_normal]
                  refine ⟨z - (p + 1), by omega, p + 1, rfl, by omega, by first | rfl | trivial, ?_, ?_, ?_, ?_, ?_, ?_⟩
                  all_goals ((first | refine rn (cj @h1 (cj @k1 (cj @k4 (cj @k5 (cj @k6 @k7))))) ?_ | exact rn0 (cj @h1 (cj @k1 (cj @k4 (cj @k5 (cj @k6 @k7)))))))
                  refine congrArg (fun z : Int => AV.v (.int .i64 z)) ?_
                  omega
                · obtain rfl : p = z := by omega
                  (first | refine go (cj rTI (cj @h1 (cj @k1 (cj @k7 @g0)))) ?_ | exact go0 (cj rTI (cj @h1 (cj @k1 (cj @k7 @g0)))))
                  (try rw [then_normal]); (try refine aw_seq ?_); refine aw_cond rfl ?_ ?_ <;> intro hb <;> (try (cases hb; done)) <;> (try simp only [bq] at hb) <;> (try (exfalso; omega))
                  (first | refine go trivial ?_ | exact go0 trivial)
                  refine ⟨?_, ?_, ?_, ?_⟩
                  all_goals ((first | refine rn (cj @h1 (cj @k4 (cj @k5 @k6))) ?_ | exact rn0 (cj @h1 (cj @k4 (cj @k5 @k6)))))
            · clear h1 k1 k4 k5 k6 e
              rintro e s'' ⟨rfl, h1, k4, k5, k6⟩
              have c2 := bs_append (decS m ++ List.replicate z 48) (letterS i)
              have lE := bs_size (decS m ++ List.replicate z 48)
              rw [List.length_append, List.length_replicate] at lE
              simp only [block_exit, if_true, then_normal]
              generalize letterS i = lk at *
              (first | refine go (cj rTI (cj @h1 (cj @k4 (cj @k5 (cj @k6 (cj @g1 (cj @hdn (cj @c2 (cj @lE (cj @lK (cj @Nat.zero_add (cj @Nat.mul_one @Int.toNat_natCast)))))))))))) ?_ | exact go0 (cj rTI (cj @h1 (cj @k4 (cj @k5 (cj @k6 (cj @g1 (cj @hdn (cj @c2 (cj @lE (cj @lK (cj @Nat.zero_add (cj @Nat.mul_one @Int.toNat_natCast)))))))))))))
              exact fr
  · have q' : validN m x = false := by simpa using q
    rw [if_neg q]
    rw [show RefM.validN m x = false from q'] at hv
    refine acall_of Tryz.func20 rfl rfl (by simp [Tryz.ntmps20]) ?_; rw [Tryz.ntmps20, Tryz.results20]
    (first | refine go rTI ?_ | exact go0 rTI)
    refine aw_reg fun K hK => ?_; refine rn rTI ?_; refine cont_pure hv ?_; refine rn rTI ?_; refine hK _ _ ?_; clear hK K
    rw [then_normal]
    (try rw [then_normal]); (try refine aw_seq ?_); refine aw_cond rfl ?_ ?_ <;> intro hb <;> (try (cases hb; done)) <;> (try simp only [bq] at hb) <;> (try (exfalso; omega))
    (first | refine go trivial ?_ | exact go0 trivial)
    exact ⟨rfl, fun i hi => if_neg (by omega)⟩
end Go.Proofs.YtfjelkjlfcafgaaGreatDoor.NumG
end
section
/- The law NumBack, walked. -/
namespace Go.Proofs.YtfjelkjlfcafgaaGreatDoor.NumH
open Go Go.RowKit Go.Proofs.YtfjelkjlfcafgaaGreatDoor.Ax Go.Proofs.YtfjelkjlfcafgaaGreatDoor.Ti Go.Proofs.YtfjelkjlfcafgaaGreatDoor.BigM Go.Proofs.YtfjelkjlfcafgaaGreatDoor.NumS Go.Proofs.YtfjelkjlfcafgaaGreatDoor.NumA Go.Proofs.YtfjelkjlfcafgaaGreatDoor.NumB Go.Proofs.YtfjelkjlfcafgaaGreatDoor.NumT Go.Proofs.YtfjelkjlfcafgaaGreatDoor.NumU Go.Proofs.YtfjelkjlfcafgaaGreatDoor.NumL Go.Proofs.YtfjelkjlfcafgaaGreatDoor.NumW Go.Proofs.YtfjelkjlfcafgaaGreatDoor.NumX Go.Proofs.YtfjelkjlfcafgaaGreatDoor.NumY Go.Proofs.YtfjelkjlfcafgaaGreatDoor.NumE Go.Proofs.YtfjelkjlfcafgaaGreatDoor.NumG
set_option linter.unusedSimpArgs false
set_option linter.unusedVariables false
set_option maxRecDepth 4000
set_option maxHeartbeats 2000000
theorem rTI : type_of% (cj @ti3 (cj @ti2 (cj @ti4 (cj @ti9 (cj @ti5 (cj @ti24 @ti25)))))) := cj @ti3 (cj @ti2 (cj @ti4 (cj @ti9 (cj @ti5 (cj @ti24 @ti25)))))

theorem ok_valid (m x : Int) : RefM.validN m x = true ↔ okN m x := by
  unfold RefM.validN okN
  split
  · simp
  · simp
    omega
theorem by_app3 {a b : List Nat} (ha : By a) (hb : By b) : By (a ++ b) := fun c hc => by
  rcases List.mem_append.1 hc with hc | hc
  · exact ha c hc
  · exact hb c hc
theorem textS_by (m x : Int) : By (textS m x) := by
  have hD : By (decS m) := by
    intro c hc
    unfold decS at hc
    split at hc
    · simp at hc; omega
    · rcases List.mem_append.1 hc with hc | hc
      · split at hc
        · simp at hc; omega
        · cases hc
      · have := (isD_iff c).1 (decN_isD _ c hc)
        omega
  unfold textS
  split
  · refine by_app3 (by_app3 hD ?_) ?_
    · intro c hc; simp at hc; omega
    · intro c hc
      have := (isD_iff c).1 (decN_isD _ c hc)
      omega
  · refine by_app3 (by_app3 hD ?_) ?_
    · intro c hc
      have := List.eq_of_mem_replicate hc
      omega
    · exact letter_by _
theorem eqN (x : Int) : (x == x) = true := beq_self_eq_true x
theorem neN (x : Int) : (x != x) = false := bne_self_eq_false x
theorem back_ax (m x : Int) (l : List Nat) (h : By l) : PCall Tryz.prog 4 [NM m x, .v (.string (bs l))] (.v (.bool true)) := by
  refine pcall_of fun s => ?_
  have hv := RefM.valid_ax m x
  have hok := ok_valid m x
  have ht := text_all m x
  have hp := parse_any (textS m x) (textS_by m x)
  have hpt := parse_text m x
  have htl := text_len m x
  have lT := bs_size (textS m x)
  have hq := parse_any l h
  have hr := parse_right l
  unfold NM at ht ⊢
  unfold RefM.NM at hv
  unfold textV at ht
  refine acall_of Tryz.func4 rfl rfl (by simp [Tryz.ntmps4]) ?_; rw [Tryz.ntmps4, Tryz.results4]
  (first | refine go rTI ?_ | exact go0 rTI)
  refine aw_reg fun K hK => ?_; refine rn rTI ?_; refine cont_pure awake_ax ?_; refine rn rTI ?_; refine hK _ _ ?_; clear hK K
  rw [then_normal]
  (try rw [then_normal]); (try refine aw_seq ?_); refine aw_cond rfl ?_ ?_ <;> intro hb <;> (try (cases hb; done)) <;> (try simp only [bq] at hb) <;> (try (exfalso; omega))
  refine aw_skip ?_
  refine aw_mid (fun e s' => e.n = 88 ∧ e.m 1 = .v (.string (bs l)) ∧ s.nx ≤ s'.nx ∧ ∀ i, i < s.nx → s'.get i = s.get i) ?_ ?_
  · by_cases q : RefM.validN m x = true
    · have q2 := hok.1 q
      rw [show NumA.validN m x = true from q, if_pos rfl] at ht
      rw [hpt q2] at hp
      have htl := htl q2
      unfold parseV NM at hp
      rw [q] at hv
      generalize textS m x = tx at *
      (first | refine go rTI ?_ | exact go0 rTI)
      refine aw_reg fun K hK => ?_; refine rn rTI ?_; refine cont_pure hv ?_; refine rn rTI ?_; refine hK _ _ ?_; clear hK K
      rw [then_normal]
      (try rw [then_normal]); (try refine aw_seq ?_); refine aw_cond rfl ?_ ?_ <;> intro hb <;> (try (cases hb; done)) <;> (try simp only [bq] at hb) <;> (try (exfalso; omega))
      (first | refine go rTI ?_ | exact go0 rTI)
      refine aw_reg fun K hK => ?_; refine rn rTI ?_; refine cont_pure ht ?_; refine rn rTI ?_; refine hK _ _ ?_; clear hK K
      rw [then_normal]
      (first | refine go rTI ?_ | exact go0 rTI)
      refine aw_reg fun K hK => ?_; refine rn rTI ?_; refine cont_pure hp ?_; refine rn rTI ?_; refine hK _ _ ?_; clear hK K
      rw [then_normal]
      (first | refine go (cj rTI (cj @eq_num (cj @eqN (cj @neN @lT)))) ?_ | exact go0 (cj rTI (cj @eq_num (cj @eqN (cj @neN @lT)))))
      (try rw [then_normal]); (try refine aw_seq ?_); refine aw_cond rfl ?_ ?_ <;> intro hb <;> (try (cases hb; done)) <;> (try simp only [bq] at hb) <;> (try (exfalso; omega))
      (first | refine go rTI ?_ | exact go0 rTI)
      (repeat' refine And.intro ?_ ?_) <;> (first | done | exact rfl | (intro i hi; exact rn0 rTI; done) | (exact rn0 rTI; done) | skip)
      (first | omega | (show s.nx ≤ s.nx + 1 + 1; omega))
    · have q' : RefM.validN m x = false := by simpa using q
      rw [q'] at hv
      (first | refine go rTI ?_ | exact go0 rTI)
      refine aw_reg fun K hK => ?_; refine rn rTI ?_; refine cont_pure hv ?_; refine rn rTI ?_; refine hK _ _ ?_; clear hK K
      rw [then_normal]
      (try rw [then_normal]); (try refine aw_seq ?_); refine aw_cond rfl ?_ ?_ <;> intro hb <;> (try (cases hb; done)) <;> (try simp only [bq] at hb) <;> (try (exfalso; omega))
      (first | refine go rTI ?_ | exact go0 rTI)
      (repeat' refine And.intro ?_ ?_) <;> (first | done | exact rfl | (intro i hi; exact rn0 rTI; done) | (exact rn0 rTI; done) | skip)
      all_goals omega
  · clear hv hok ht hp hpt htl lT
    rintro e s' ⟨h1, k1, hn, fr⟩
    rcases hr with ⟨e1, e2⟩ | e1 | e1
    · obtain ⟨a, b, c, hs⟩ : ∃ a b c, parseS l = (a, b, c) := ⟨_, _, _, rfl⟩
      rw [hs] at e1 e2 hq
      have e1' : c = 0 := e1
      subst e1'
      have hok := ok_valid a b
      have q2 : okN a b := e2
      have q := hok.2 q2
      have hv := valid_ax a b
      have ht := text_all a b
      have hp := parse_any (textS a b) (textS_by a b)
      rw [parse_text a b q2] at hp
      unfold parseV NM at hp hq
      unfold NM at hv ht
      unfold textV at ht
      rw [show NumA.validN a b = true from q] at hv ht
      rw [if_pos rfl] at ht
      generalize textS a b = tx at *
      (first | refine go (cj rTI (cj @h1 @k1)) ?_ | exact go0 (cj rTI (cj @h1 @k1)))
      refine aw_reg fun K hK => ?_; refine rn (cj rTI (cj @h1 @k1)) ?_; refine cont_pure hq ?_; refine rn (cj rTI (cj @h1 @k1)) ?_; refine hK _ _ ?_; clear hK K
      rw [then_normal]
      (first | refine go (cj rTI (cj @h1 @neN)) ?_ | exact go0 (cj rTI (cj @h1 @neN)))
      (try rw [then_normal]); (try refine aw_seq ?_); refine aw_cond rfl ?_ ?_ <;> intro hb <;> (try (cases hb; done)) <;> (try simp only [bq] at hb) <;> (try (exfalso; omega))
      (first | refine go (cj rTI @h1) ?_ | exact go0 (cj rTI @h1))
      refine aw_reg fun K hK => ?_; refine rn (cj rTI @h1) ?_; refine cont_pure ht ?_; refine rn (cj rTI @h1) ?_; refine hK _ _ ?_; clear hK K
      rw [then_normal]
      (first | refine go (cj rTI @h1) ?_ | exact go0 (cj rTI @h1))
      refine aw_reg fun K hK => ?_; refine rn (cj rTI @h1) ?_; refine cont_pure hp ?_; refine rn (cj rTI @h1) ?_; refine hK _ _ ?_; clear hK K
      rw [then_normal]
      (first | refine go (cj rTI @h1) ?_ | exact go0 (cj rTI @h1))
      refine aw_reg fun K hK => ?_; refine rn (cj rTI (cj @h1 (cj @eq_num @eqN))) ?_; refine cont_pure hv ?_; refine rn (cj rTI (cj @h1 (cj @eq_num @eqN))) ?_; refine hK _ _ ?_; clear hK K
      rw [then_normal]
      (first | refine go (cj rTI @h1) ?_ | exact go0 (cj rTI @h1))
      exact fun i hi => by rw [if_neg (by omega), if_neg (by omega)]; exact fr i hi
    · rw [e1] at hq
      unfold parseV NM at hq
      (first | refine go (cj rTI (cj @h1 @k1)) ?_ | exact go0 (cj rTI (cj @h1 @k1)))
      refine aw_reg fun K hK => ?_; refine rn (cj rTI (cj @h1 @k1)) ?_; refine cont_pure hq ?_; refine rn (cj rTI (cj @h1 @k1)) ?_; refine hK _ _ ?_; clear hK K
      rw [then_normal]
      (first | refine go (cj rTI @h1) ?_ | exact go0 (cj rTI @h1))
      (try rw [then_normal]); (try refine aw_seq ?_); refine aw_cond rfl ?_ ?_ <;> intro hb <;> (try (cases hb; done)) <;> (try simp only [bq] at hb) <;> (try (exfalso; omega))
      (first | refine go (cj rTI (cj @h1 @eq_num)) ?_ | exact go0 (cj rTI (cj @h1 @eq_num)))
      exact fun i hi => by rw [if_neg (by omega)]; exact fr i hi
    · rw [e1] at hq
      unfold parseV NM at hq
      (first | refine go (cj rTI (cj @h1 @k1)) ?_ | exact go0 (cj rTI (cj @h1 @k1)))
      refine aw_reg fun K hK => ?_; refine rn (cj rTI (cj @h1 @k1)) ?_; refine cont_pure hq ?_; refine rn (cj rTI (cj @h1 @k1)) ?_; refine hK _ _ ?_; clear hK K
      rw [then_normal]
      (first | refine go (cj rTI @h1) ?_ | exact go0 (cj rTI @h1))
      (try rw [then_normal]); (try refine aw_seq ?_); refine aw_cond rfl ?_ ?_ <;> intro hb <;> (try (cases hb; done)) <;> (try simp only [bq] at hb) <;> (try (exfalso; omega))
      (first | refine go (cj rTI (cj @h1 @eq_num)) ?_ | exact go0 (cj rTI (cj @h1 @eq_num)))
      exact fun i hi => by rw [if_neg (by omega)]; exact fr i hi
theorem back_str (m x : Int) (b : ByteArray) : PCall Tryz.prog 4 [NM m x, .v (.string b)] (.v (.bool true)) := by
  rw [bs_all b]
  exact back_ax m x _ (by_all b)
end Go.Proofs.YtfjelkjlfcafgaaGreatDoor.NumH
end
section
/- The law NumCalls, walked. -/
namespace Go.Proofs.YtfjelkjlfcafgaaGreatDoor.NumI
open Go Go.RowKit Go.Proofs.YtfjelkjlfcafgaaGreatDoor.Ax Go.Proofs.YtfjelkjlfcafgaaGreatDoor.Ti Go.Proofs.YtfjelkjlfcafgaaGreatDoor.BigM Go.Proofs.YtfjelkjlfcafgaaGreatDoor.NumS Go.Proofs.YtfjelkjlfcafgaaGreatDoor.NumA Go.Proofs.YtfjelkjlfcafgaaGreatDoor.NumB Go.Proofs.YtfjelkjlfcafgaaGreatDoor.NumT Go.Proofs.YtfjelkjlfcafgaaGreatDoor.NumU Go.Proofs.YtfjelkjlfcafgaaGreatDoor.NumL Go.Proofs.YtfjelkjlfcafgaaGreatDoor.NumW Go.Proofs.YtfjelkjlfcafgaaGreatDoor.NumX Go.Proofs.YtfjelkjlfcafgaaGreatDoor.NumY Go.Proofs.YtfjelkjlfcafgaaGreatDoor.NumE Go.Proofs.YtfjelkjlfcafgaaGreatDoor.NumG
set_option linter.unusedSimpArgs false
set_option linter.unusedVariables false
set_option maxRecDepth 4000
set_option maxHeartbeats 2000000
theorem rTI : type_of% (cj @ti3 (cj @ti2 (cj @ti4 (cj @ti9 (cj @ti5 (cj @ti24 (cj @ti25 (cj @ti45 (cj @ti43 @ti41))))))))) := cj @ti3 (cj @ti2 (cj @ti4 (cj @ti9 (cj @ti5 (cj @ti24 (cj @ti25 (cj @ti45 (cj @ti43 @ti41))))))))

theorem eqN (x : Int) : (x == x) = true := beq_self_eq_true x
theorem eqS (x : ByteArray) : (x.toList == x.toList) = true := beq_self_eq_true _
theorem textV_form (m x : Int) : ∃ b c, textV m x = .tp [.v (.string b), .v (.int .i64 c)] := by
  unfold textV
  split
  · exact ⟨_, _, rfl⟩
  · exact ⟨_, _, rfl⟩
theorem cmpNN_form (m k m' k' : Int) : ∃ a b : Int, RefM.cmpNN m k m' k' = .tp [.v (.int .i64 a), .v (.int .i64 b)] := by
  rw [cmpNN_eq]
  split
  · exact ⟨_, _, rfl⟩
  · exact ⟨_, _, rfl⟩
theorem grid_form (m k : Int) : ∃ a b : Int, RefM.gridN m k = .tp [.v (.int .i64 a), .v (.int .i64 b)] := by
  rw [gridN_eq]
  split
  · exact gridN_cases _
  · exact ⟨_, _, rfl⟩
/-- What reads as these arguments reads as those, too. -/
theorem acall_args {P : Program} {f : FuncId} {zs zs' : List AV} {s : St} {R : AV → St → Prop} (hl : zs'.length = zs.length) (hz : ∀ (j : Nat) (x y : AV), zs[j]? = some x → zs'[j]? = some y → Le x y) (h : ACall P f zs' s R) : ACall P f zs s R :=
  ⟨h.1, fun w0 k w vs hs hv => h.2 w0 k w vs hs ⟨hv.1.trans hl.symm, fun j z u hz' hu => by
    have hj : j < zs.length := by rw [← hl]; exact (List.getElem?_eq_some_iff.1 hz').1
    exact hz j _ z (List.getElem?_eq_getElem hj) hz' k u (hv.2 j _ u (List.getElem?_eq_getElem hj) hu)⟩⟩
def RN : AV := .ag [.v (.bool false), .v (.slice none 0 0), .v (.bool false), .v (.slice none 0 0)]
theorem rn_le : Le RN (RefK.WA 0 0) := Le.ag rfl fun j x y hx hy => by
  have hd : digs RefH.B32 0 = [] := digs_zero _
  match j with
  | 0 => simp at hx hy; subst hx hy; exact Le.refl _
  | 1 => simp [hd] at hx hy; subst hx hy; exact Le.nil 0 0 rfl
  | 2 => simp at hx hy; subst hx hy; exact Le.refl _
  | 3 => simp [hd] at hx hy; subst hx hy; exact Le.nil 0 0 rfl
  | j + 4 => simp at hx
theorem same_nil : PCall Tryz.prog 27 [RN, RN] (.v (.bool true)) := fun s => by
  have hd : (digs RefH.B32 (0 : Int).natAbs).length ≤ 1099511627776 := by rw [show (0 : Int).natAbs = 0 from rfl, digs_zero]; decide
  have h := RefK.sameF_ax 0 0 0 0 hd hd hd hd s
  rw [decide_eq_true (show (0 : Int) = 0 ∧ (0 : Int) = 0 from ⟨rfl, rfl⟩)] at h
  refine acall_args (zs' := [RefK.WA 0 0, RefK.WA 0 0]) rfl (fun j x y hx hy => ?_) h
  match j with
  | 0 => simp at hx hy; subst hx hy; exact rn_le
  | 1 => simp at hx hy; subst hx hy; exact rn_le
  | j + 2 => simp at hx
theorem calls_ax (m x m' x' : Int) : PCall Tryz.prog 6 [NM m x, NM m' x'] (.v (.bool true)) := by
  refine pcall_of fun s => ?_
  have t1 := text_all m x
  have t2 := textD_ax m x
  have v1 := value_ax m x
  have v2 := RefM.valueN_ax m x
  have g1 := grid_ax m x
  have g2 := RefM.gridN_ax m x
  have c1 := cmp_ax m x m' x'
  have c2 := RefM.cmpNN_ax m x m' x'
  have a1 := valid_ax m x
  have a2 := RefM.valid_ax m x
  obtain ⟨tb, tc, ht⟩ := textV_form m x
  obtain ⟨ca, cb, hc⟩ := cmpNN_form m x m' x'
  obtain ⟨ga, gb, hg⟩ := grid_form m x
  rw [ht] at t1 t2
  rw [hc] at c1 c2
  rw [hg] at g1 g2
  rw [valueN_eq] at v1 v2
  rw [show NumA.validN m x = RefM.validN m x from rfl] at a1 v1 v2
  unfold NM at t1 t2 v1 g1 c1 a1 ⊢
  unfold RefM.NM at v2 g2 c2 a2
  clear ht hc hg
  refine acall_of Tryz.func6 rfl rfl (by simp [Tryz.ntmps6]) ?_; rw [Tryz.ntmps6, Tryz.results6]
  (first | refine go (cj rTI (cj @BigA.wl_idf @BigA.wl_one)) ?_ | exact go0 (cj rTI (cj @BigA.wl_idf @BigA.wl_one)))
  refine aw_reg fun K hK => ?_; refine rn (cj rTI (cj @BigA.wl_idf @BigA.wl_one)) ?_; refine cont_pure awake_ax ?_; refine rn (cj rTI (cj @BigA.wl_idf @BigA.wl_one)) ?_; refine hK _ _ ?_; clear hK K
  rw [then_normal]
  (try rw [then_normal]); (try refine aw_seq ?_); refine aw_cond rfl ?_ ?_ <;> intro hb <;> (try (cases hb; done)) <;> (try simp only [bq] at hb) <;> (try (exfalso; omega))
  (first | refine go (cj rTI (cj @BigA.wl_idf @BigA.wl_one)) ?_ | exact go0 (cj rTI (cj @BigA.wl_idf @BigA.wl_one)))
  refine aw_reg fun K hK => ?_; refine rn (cj rTI (cj @BigA.wl_idf @BigA.wl_one)) ?_; refine cont_pure t1 ?_; refine rn (cj rTI (cj @BigA.wl_idf @BigA.wl_one)) ?_; refine hK _ _ ?_; clear hK K
  rw [then_normal]
  (first | refine go (cj rTI (cj @BigA.wl_idf @BigA.wl_one)) ?_ | exact go0 (cj rTI (cj @BigA.wl_idf @BigA.wl_one)))
  refine aw_reg fun K hK => ?_; refine rn (cj rTI (cj @BigA.wl_idf @BigA.wl_one)) ?_; refine cont_pure t2 ?_; refine rn (cj rTI (cj @BigA.wl_idf @BigA.wl_one)) ?_; refine hK _ _ ?_; clear hK K
  rw [then_normal]
  cases hv : RefM.validN m x
  · rw [hv, if_neg (by decide)] at v1 v2
    rw [hv] at a1 a2
    have sn := same_nil
    unfold RN at sn
    (first | refine go (cj rTI (cj @BigA.wl_idf @BigA.wl_one)) ?_ | exact go0 (cj rTI (cj @BigA.wl_idf @BigA.wl_one)))
    refine aw_reg fun K hK => ?_; refine rn (cj rTI (cj @BigA.wl_idf @BigA.wl_one)) ?_; refine cont_pure v1 ?_; refine rn (cj rTI (cj @BigA.wl_idf @BigA.wl_one)) ?_; refine hK _ _ ?_; clear hK K
    rw [then_normal]
    (first | refine go (cj rTI (cj @BigA.wl_idf @BigA.wl_one)) ?_ | exact go0 (cj rTI (cj @BigA.wl_idf @BigA.wl_one)))
    refine aw_reg fun K hK => ?_; refine rn (cj rTI (cj @BigA.wl_idf @BigA.wl_one)) ?_; refine cont_pure v2 ?_; refine rn (cj rTI (cj @BigA.wl_idf @BigA.wl_one)) ?_; refine hK _ _ ?_; clear hK K
    rw [then_normal]
    (first | refine go (cj rTI (cj @BigA.wl_idf @BigA.wl_one)) ?_ | exact go0 (cj rTI (cj @BigA.wl_idf @BigA.wl_one)))
    refine aw_reg fun K hK => ?_; refine rn (cj rTI (cj @BigA.wl_idf @BigA.wl_one)) ?_; refine cont_pure g1 ?_; refine rn (cj rTI (cj @BigA.wl_idf @BigA.wl_one)) ?_; refine hK _ _ ?_; clear hK K
    rw [then_normal]
    (first | refine go (cj rTI (cj @BigA.wl_idf @BigA.wl_one)) ?_ | exact go0 (cj rTI (cj @BigA.wl_idf @BigA.wl_one)))
    refine aw_reg fun K hK => ?_; refine rn (cj rTI (cj @BigA.wl_idf @BigA.wl_one)) ?_; refine cont_pure g2 ?_; refine rn (cj rTI (cj @BigA.wl_idf @BigA.wl_one)) ?_; refine hK _ _ ?_; clear hK K
    rw [then_normal]
    (first | refine go (cj rTI (cj @BigA.wl_idf @BigA.wl_one)) ?_ | exact go0 (cj rTI (cj @BigA.wl_idf @BigA.wl_one)))
    refine aw_reg fun K hK => ?_; refine rn (cj rTI (cj @BigA.wl_idf @BigA.wl_one)) ?_; refine cont_pure c1 ?_; refine rn (cj rTI (cj @BigA.wl_idf @BigA.wl_one)) ?_; refine hK _ _ ?_; clear hK K
    rw [then_normal]
    (first | refine go (cj rTI (cj @BigA.wl_idf @BigA.wl_one)) ?_ | exact go0 (cj rTI (cj @BigA.wl_idf @BigA.wl_one)))
    refine aw_reg fun K hK => ?_; refine rn (cj rTI (cj @BigA.wl_idf @BigA.wl_one)) ?_; refine cont_pure c2 ?_; refine rn (cj rTI (cj @BigA.wl_idf @BigA.wl_one)) ?_; refine hK _ _ ?_; clear hK K
    rw [then_normal]
    refine aw_seq ?_
    refine aw_drw (.take 0 (.take 1 (.take 2 (.take 3 (.take 4 (.take 5 (.take 6 (.take 7 (.take 8 (.take 9 (.take 10 (.one 11 (.take 12 (.take 13 (.take 14 (.take 15 (.take 16 (.take 17 (.take 18 (.take 19 (.take 20 (.take 21 (.take 22 (.take 23 (.take 24 (.take 25 (.take 26 (.take 27 (.take 28 (.take 29 (.take 30 (.take 31 (.take 32 (.take 33 (.take 34 (.take 35 (.take 36 (.take 37 (.take 38 (.take 39 (.take 41 (.one 40 (.one 42 (.take 43 (.take 44 (.take 45 (.done))))))))))))))))))))))))))))))))))))))))))))))) [s.nx, s.nx + 2, s.nx + 3] (by kernel_rfl) (by kernel_rfl) fun K hK => ?_; refine dr (cj rTI (cj @BigA.wl_idf (cj @BigA.wl_one (cj @eqN @eqS)))) ?_; refine cont_pure sn ?_; refine dr (cj rTI (cj @BigA.wl_idf (cj @BigA.wl_one (cj @eqN @eqS)))) ?_; refine cont_pure a1 ?_; refine dr (cj rTI (cj @BigA.wl_idf (cj @BigA.wl_one (cj @eqN @eqS)))) ?_; refine cont_pure a2 ?_; refine dr (cj rTI (cj @BigA.wl_idf (cj @BigA.wl_one (cj @eqN @eqS)))) ?_; refine hK _ _ ?_; clear hK K
    (first | refine go (cj rTI (cj @BigA.wl_idf @BigA.wl_one)) ?_ | exact go0 (cj rTI (cj @BigA.wl_idf @BigA.wl_one)))

    exact fun i hi => by rw [if_neg (by omega), if_neg (by omega), if_neg (by omega), if_neg (by omega)]
  · rw [hv, if_pos rfl] at v1 v2
    rw [hv] at a1 a2
    obtain ⟨m1, m2, k1, k2⟩ := RefM.validN_m m x hv
    obtain ⟨l1, l2⟩ := ofN_lw2 m x m1 m2 k1 k2
    have sm := RefK.sameF_ax (RefM.ofN m x).1 (RefM.ofN m x).2 (RefM.ofN m x).1 (RefM.ofN m x).2 (Nat.le_trans l1 (by decide)) (Nat.le_trans l2 (by decide)) (Nat.le_trans l1 (by decide)) (Nat.le_trans l2 (by decide))
    rw [decide_eq_true (show (RefM.ofN m x).1 = (RefM.ofN m x).1 ∧ (RefM.ofN m x).2 = (RefM.ofN m x).2 from ⟨rfl, rfl⟩), wa_eq] at sm
    rw [BigS.rc_eq] at v1 v2 sm
    (first | refine go (cj rTI (cj @BigA.wl_idf @BigA.wl_one)) ?_ | exact go0 (cj rTI (cj @BigA.wl_idf @BigA.wl_one)))
    refine aw_reg fun K hK => ?_; refine rn (cj rTI (cj @BigA.wl_idf @BigA.wl_one)) ?_; refine cont_pure v1 ?_; refine rn (cj rTI (cj @BigA.wl_idf @BigA.wl_one)) ?_; refine hK _ _ ?_; clear hK K
    rw [then_normal]
    (first | refine go (cj rTI (cj @BigA.wl_idf @BigA.wl_one)) ?_ | exact go0 (cj rTI (cj @BigA.wl_idf @BigA.wl_one)))
    refine aw_reg fun K hK => ?_; refine rn (cj rTI (cj @BigA.wl_idf @BigA.wl_one)) ?_; refine cont_pure v2 ?_; refine rn (cj rTI (cj @BigA.wl_idf @BigA.wl_one)) ?_; refine hK _ _ ?_; clear hK K
    rw [then_normal]
    (first | refine go (cj rTI (cj @BigA.wl_idf @BigA.wl_one)) ?_ | exact go0 (cj rTI (cj @BigA.wl_idf @BigA.wl_one)))
    refine aw_reg fun K hK => ?_; refine rn (cj rTI (cj @BigA.wl_idf @BigA.wl_one)) ?_; refine cont_pure g1 ?_; refine rn (cj rTI (cj @BigA.wl_idf @BigA.wl_one)) ?_; refine hK _ _ ?_; clear hK K
    rw [then_normal]
    (first | refine go (cj rTI (cj @BigA.wl_idf @BigA.wl_one)) ?_ | exact go0 (cj rTI (cj @BigA.wl_idf @BigA.wl_one)))
    refine aw_reg fun K hK => ?_; refine rn (cj rTI (cj @BigA.wl_idf @BigA.wl_one)) ?_; refine cont_pure g2 ?_; refine rn (cj rTI (cj @BigA.wl_idf @BigA.wl_one)) ?_; refine hK _ _ ?_; clear hK K
    rw [then_normal]
    (first | refine go (cj rTI (cj @BigA.wl_idf @BigA.wl_one)) ?_ | exact go0 (cj rTI (cj @BigA.wl_idf @BigA.wl_one)))
    refine aw_reg fun K hK => ?_; refine rn (cj rTI (cj @BigA.wl_idf @BigA.wl_one)) ?_; refine cont_pure c1 ?_; refine rn (cj rTI (cj @BigA.wl_idf @BigA.wl_one)) ?_; refine hK _ _ ?_; clear hK K
    rw [then_normal]
    (first | refine go (cj rTI (cj @BigA.wl_idf @BigA.wl_one)) ?_ | exact go0 (cj rTI (cj @BigA.wl_idf @BigA.wl_one)))
    refine aw_reg fun K hK => ?_; refine rn (cj rTI (cj @BigA.wl_idf @BigA.wl_one)) ?_; refine cont_pure c2 ?_; refine rn (cj rTI (cj @BigA.wl_idf @BigA.wl_one)) ?_; refine hK _ _ ?_; clear hK K
    rw [then_normal]
    refine aw_seq ?_
    refine aw_drw (.take 0 (.take 1 (.take 2 (.take 3 (.take 4 (.take 5 (.take 6 (.take 7 (.take 8 (.take 9 (.take 10 (.one 11 (.take 12 (.take 13 (.take 14 (.take 15 (.take 16 (.take 17 (.take 18 (.take 19 (.take 20 (.take 21 (.take 22 (.take 23 (.take 24 (.take 25 (.take 26 (.take 27 (.take 28 (.take 29 (.take 30 (.take 31 (.take 32 (.take 33 (.take 34 (.take 35 (.take 36 (.take 37 (.take 38 (.take 39 (.take 41 (.one 40 (.one 42 (.take 43 (.take 44 (.take 45 (.done))))))))))))))))))))))))))))))))))))))))))))))) [s.nx, s.nx + 2, s.nx + 3] (by kernel_rfl) (by kernel_rfl) fun K hK => ?_; refine dr (cj rTI (cj @BigA.wl_idf (cj @BigA.wl_one (cj @eqN @eqS)))) ?_; refine cont_pure sm ?_; refine dr (cj rTI (cj @BigA.wl_idf (cj @BigA.wl_one (cj @eqN @eqS)))) ?_; refine cont_pure a1 ?_; refine dr (cj rTI (cj @BigA.wl_idf (cj @BigA.wl_one (cj @eqN @eqS)))) ?_; refine cont_pure a2 ?_; refine dr (cj rTI (cj @BigA.wl_idf (cj @BigA.wl_one (cj @eqN @eqS)))) ?_; refine hK _ _ ?_; clear hK K
    (first | refine go (cj rTI (cj @BigA.wl_idf @BigA.wl_one)) ?_ | exact go0 (cj rTI (cj @BigA.wl_idf @BigA.wl_one)))

    exact fun i hi => by rw [if_neg (by omega), if_neg (by omega), if_neg (by omega), if_neg (by omega)]
end Go.Proofs.YtfjelkjlfcafgaaGreatDoor.NumI
end
