/- The walk of LexWords. -/
import Derived.Test.YtppmamcoehhopaaDoorLexU
import Derived.Test.YtppmamcoehhopaaDoorLexX
namespace Go.Proofs.YtppmamcoehhopaaDoor.LexY
open Go.RowKit Go.Proofs.YtppmamcoehhopaaDoor.Base Go.Proofs.YtppmamcoehhopaaDoor.LexB Go.Proofs.YtppmamcoehhopaaDoor.LexM Go.Proofs.YtppmamcoehhopaaDoor.LexD Go.Proofs.YtppmamcoehhopaaDoor.LexF Go.Proofs.YtppmamcoehhopaaDoor.LexG Go.Proofs.YtppmamcoehhopaaDoor.LexH Go.Proofs.YtppmamcoehhopaaDoor.LexT Go.Proofs.YtppmamcoehhopaaDoor.LexU Go.Proofs.YtppmamcoehhopaaDoor.LexX
open Go.Proofs.YtppmamcoehhopaaDoor.LexE hiding W
set_option linter.unusedVariables false
set_option linter.unusedSimpArgs false

theorem okW_int (b : UInt8) (h : okW b = true) : 33 ≤ (b.toNat : Int) ∧ (b.toNat : Int) ≤ 126 ∧ ¬ (b.toNat : Int) = 59 ∧ ¬ (65 ≤ (b.toNat : Int) ∧ (b.toNat : Int) ≤ 90) := by
  unfold okW at h
  simp [UInt8.le_iff_toNat_le, ← UInt8.toNat_inj] at h
  omega

set_option maxHeartbeats 8000000 in
set_option maxRecDepth 100000 in
theorem words_law (s : ByteArray) (w : World) (hs : s.size ≤ 140737488351232) :
    Calls Tryd.prog 4 #[.string s] w fun e w' => e = .returned (.bool true) ∧ Below w.heap.size w w' := by
  obtain ⟨l, rfl⟩ : ∃ l, s = bs l := ⟨s.data.toList, rfl⟩
  have HN := aside (fun w : World => lines_any l w)
  have hgood := aside (lexAll_good l)
  have herr := aside (lexAll_err l)
  have hcnt := lexAll_count l
  generalize lexAll l = R at *
  obtain ⟨R1, R2, R3⟩ := R
  go_enter Tryd.func4, Tryd.ntmps4
  go_wp2_with fail
  refine (awake_any _).mono ?_
  rintro e w1 ⟨rfl, hb1⟩
  have HB1 := aside hb1
  clear hb1
  go_wp2_with fail
  refine (HN.out w1).mono ?_
  rintro e w2 ⟨v, P, rfl, ho, hs2, hb2⟩
  have HOW := aside ho
  have HS := aside hs2
  have HB2 := aside (below_then HB1.out hb2)
  clear ho hs2 hb2
  by_cases he : R3 = 0
  · subst he
    have HG := aside (hgood.out rfl)
    have HX := aside (fun hl w => (lexAll_out R1 65539 HG.out hl) ▸ lines_any (outW R1) w)
    obtain ⟨A, ca, hv, hla, hca⟩ := lown_reads HOW.out
    rw [HS.out] at hv hla hca
    simp only [maxLen] at hla
    subst hv
    have HA := aside hca
    have hcnt' : R1.length ≤ 65537 := hcnt
    clear hca hcnt
    generalize hn : R1.length = n at *
    have HL := aside hn
    clear hn
    go_wp2_with fail
    go_loopw [6, 7, 32] (fun o m i wr => ∃ k : Nat, k ≤ n ∧ i = .int .i64 k ∧ m = .int .i64 (atOf R1 k : Nat) ∧ o = .string (bs (outW (R1.take k))) ∧ As (Below w2.heap.size w2 wr)) (fun _ _ i _ => n - (intOf i).toNat)
    case atStart => exact ⟨0, Nat.zero_le _, rfl, rfl, rfl, ⟨Below.refl _ _⟩⟩
    case round =>
      obtain ⟨k, hk, rfl, rfl, rfl, HW⟩ := hrel
      by_cases hlt : k < n
      · obtain ⟨ba, oa, rfl, hA⟩ := HA.out (by omega)
        obtain ⟨h1, u1, g1, r1⟩ := hA k hlt
        clear hA
        have hkR : k < R1.length := by have := HL.out; omega
        have hat := atOf_lt R1 65539 k HG.out hkR
        have hgl : goodLine (R1.getD k (0, [])).2 := by
          have e : R1.getD k (0, []) = R1[k] := by simp [List.getD, List.getElem?_eq_getElem hkR]
          rw [e]
          exact (HG.out.1 _ (List.getElem_mem hkR)).1
        have hsn := outW_snoc R1 k hkR
        have hnext : atOf R1 (k + 1) = (R1.getD k (0, [])).1 := by simp [atOf]
        generalize (R1.getD k (0, [])).1 = at1 at *
        generalize (R1.getD k (0, [])).2 = ws at *
        have hol := outW_length (R1.take k) (fun p hp => (HG.out.1 p (List.mem_of_mem_take hp)).1)
        have hl2 : (R1.take k).length ≤ R1.length := List.length_take_le' _ _
        obtain ⟨Aw, cw, rfl, hlw, hcw⟩ := r1
        obtain ⟨⟨c, t0, r0, rfl, hc1, hc2⟩, hgw, hl64⟩ := hgl
        obtain ⟨bw, ow, rfl, hW⟩ := hcw (by simp)
        have HSN := aside hsn
        have HNX := aside hnext
        have HGW := aside hgw
        have hc0 := cell_below HW.out _ _ h1
        have hg0 := cell_below HW.out _ _ g1
        generalize hwsn : (c :: t0) :: r0 = ws at *
        have h0s : ws.getD 0 [] = c :: t0 := by rw [← hwsn]; rfl
        have hN1 : 1 ≤ ws.length := by rw [← hwsn]; simp
        clear hwsn hsn hnext hgw
        generalize hNN : ws.length = N at *
        have HNN := aside hNN
        clear hNN
        have hcl : ∀ j, j < N → (wr.alloc (.cells #[.int .i64 at1, .slice (some ⟨bw, ow, none⟩) N cw] 32)).cell? ⟨bw, ow + j, none⟩ = some (.string (bs (ws.getD j []))) := fun j hj =>
          cell_below ((Below.refl _ wr).alloc (Nat.le_refl _) _) _ _ (cell_below HW.out _ _ (hW j hj))
        have HCL := aside hcl
        have hw0 := hcl 0 (by omega)
        rw [h0s, Nat.add_zero] at hw0
        have hs0 : 0 < (bs (c :: t0)).size := Nat.succ_pos _
        have hx1 : ((((bs (c :: t0))[0]'hs0).toNat : Int) == 42) = false := by
          rw [beq_eq_false_iff_ne]
          intro h
          apply hc1
          rw [← UInt8.toNat_inj]
          have h2 : (c.toNat : Int) = 42 := h
          show c.toNat = 42
          omega
        have hx2 : ((((bs (c :: t0))[0]'hs0).toNat : Int) == 43) = false := by
          rw [beq_eq_false_iff_ne]
          intro h
          apply hc2
          rw [← UInt8.toNat_inj]
          have h2 : (c.toNat : Int) = 43 := h
          show c.toNat = 43
          omega
        have hN0 : ((N : Int) == 0) = false := by rw [beq_eq_false_iff_ne]; omega
        have hatI : decide ((at1 : Int) ≤ ((atOf R1 k : Nat) : Int)) = false := by simp; omega
        have hatN : decide (at1 ≤ atOf R1 k) = false := by simp; omega
        have hatN2 : ¬ at1 ≤ atOf R1 k := by omega
        have HOL := aside (show (outW (R1.take k)).length ≤ 300000000000 by have := HL.out; omega)
        have hkI : (k : Int) < (n : Int) := by omega
        clear hW hcl h1 g1 hol hl2 hat hcw h0s
        go_wp2_with fail
        go_loop [6, 67] (fun o j => ∃ q : Nat, q ≤ N ∧ j = .int .i64 q ∧ o = .string (bs (outW (R1.take k) ++ joinW (ws.take q)))) (fun _ j => N - (intOf j).toNat)
        case atStart => exact ⟨0, Nat.zero_le _, rfl, by simp [joinW]⟩
        case round =>
          obtain ⟨q, hq, rfl, rfl⟩ := hrel
          by_cases hlq : q < N
          · have hwq := HCL.out q hlq
            have hqw : q < ws.length := by have := HNN.out; omega
            have hjs := joinW_snoc ws q hqw
            have hgx : goodWord (ws.getD q []) := by
              rw [show ws.getD q [] = ws[q] by simp [List.getD, List.getElem?_eq_getElem hqw]]
              exact HGW.out _ (List.getElem_mem hqw)
            have hjl : (joinW (ws.take q)).length ≤ 64 * 65537 := by
              have h1 := joinW_length (ws.take q) (fun x hx => HGW.out x (List.mem_of_mem_take hx))
              have h2 : (ws.take q).length ≤ ws.length := List.length_take_le' _ _
              have h3 := HNN.out
              exact Nat.le_trans h1 (Nat.mul_le_mul_right _ (by omega))
            generalize ws.getD q [] = x at *
            have hxe : (bs x).toList.isEmpty = false := by
              rw [bs_toList]
              exact List.isEmpty_eq_false_iff.2 hgx.1
            have HJS := aside hjs
            have HGX := aside hgx
            have hxl : (bs x).size = x.length := rfl
            have hxl2 : x.length ≤ 65536 := hgx.2.2
            have hso : (bs (outW (R1.take k) ++ joinW (ws.take q))).size ≤ 300004194368 := by
              rw [bs_size, List.length_append]
              have h5 := HOL.out
              exact Nat.le_trans (Nat.add_le_add h5 hjl) (by decide)
            have hqI : (q : Int) < (N : Int) := by omega
            clear hjs hgx hjl
            go_wp2_with fail
            go_loop [12] (fun i => ∃ p : Nat, p ≤ x.length ∧ i = .int .i64 p) (fun i => x.length - (intOf i).toNat)
            case atStart => exact ⟨0, Nat.zero_le _, rfl⟩
            case round =>
              obtain ⟨p, hp, rfl⟩ := hrel
              by_cases hlp : p < x.length
              · have hpb : p < (bs x).size := hlp
                have hby := okW_int ((bs x)[p]'hpb) (HGX.out.2.1 _ (by
                  show (bs x).data[p] ∈ x
                  exact List.getElem_mem hlp))
                obtain ⟨b1, b2, b3, b4⟩ := hby
                have d1 : decide ((((bs x)[p]'hpb).toNat : Int) < 33) = false := by simp; omega
                have d2 : decide (126 < (((bs x)[p]'hpb).toNat : Int)) = false := by simp; omega
                have d3 : ((((bs x)[p]'hpb).toNat : Int) == 59) = false := by simpa using b3
                have hpI : (p : Int) < (x.length : Int) := by omega
                by_cases b5 : 65 ≤ (((bs x)[p]'hpb).toNat : Int)
                · have d4 : decide ((((bs x)[p]'hpb).toNat : Int) ≤ 90) = false := by simp; omega
                  clear b3 b4
                  go_wp2
                  go_round
                  case rel => exact ⟨p + 1, by omega, by go_num⟩
                  case measure => simp [intOf]; omega
                · have d4 : decide (65 ≤ (((bs x)[p]'hpb).toNat : Int)) = false := by simp; omega
                  clear b3 b4 b5
                  go_wp2
                  go_round
                  case rel => exact ⟨p + 1, by omega, by go_num⟩
                  case measure => simp [intOf]; omega
              · obtain rfl : p = x.length := by omega
                by_cases hq0 : q = 0
                · subst hq0
                  have HE := aside (show bs (outW (R1.take k) ++ joinW []) ++ bs x = bs (outW (R1.take k) ++ joinW (ws.take (0 + 1))) by
                    rw [HJS.out, ← bs_append]
                    simp [joinW])
                  have hz : ¬ 9223372036854775807 < (bs (outW (R1.take k) ++ joinW [])).size + (bs x).size := by have := hso; rw [List.take_zero] at this; omega
                  have hz2 : ¬ 9223372036854775807 < (bs (outW (R1.take k) ++ joinW [])).size + x.length := by have := hso; rw [List.take_zero] at this; omega
                  go_wp2
                  go_round
                  case rel => exact ⟨0 + 1, by omega, by go_num, by rw [HE.out]⟩
                  case measure => simp [intOf]; omega
                · have HE := aside (show bs (outW (R1.take k) ++ joinW (ws.take q)) ++ ⟨#[32]⟩ ++ bs x = bs (outW (R1.take k) ++ joinW (ws.take (q + 1))) by
                    rw [HJS.out, if_pos (by omega)]
                    have e : (⟨#[32]⟩ : ByteArray) = bs [32] := rfl
                    rw [e, ← bs_append, ← bs_append]
                    simp)
                  have hz : ¬ 9223372036854775807 < (bs (outW (R1.take k) ++ joinW (ws.take q))).size + 1 := by omega
                  have hz2 : ¬ 9223372036854775807 < (bs (outW (R1.take k) ++ joinW (ws.take q))).size + 1 + x.length := by omega
                  have hq0I : (0 : Int) < (q : Int) := by omega
                  go_wp2
                  go_round
                  case rel => exact ⟨q + 1, by omega, by go_num, by rw [HE.out]⟩
                  case measure => simp [intOf]; omega
          · obtain rfl : q = N := by omega
            have hT : ws.take q = ws := List.take_of_length_le (by have := HNN.out; omega)
            have HE := aside (show bs (outW (R1.take k) ++ joinW (ws.take q)) ++ ⟨#[10]⟩ = bs (outW (R1.take (k + 1))) by
              have e : (⟨#[10]⟩ : ByteArray) = bs [10] := rfl
              rw [hT, HSN.out, e, ← bs_append]
              simp)
            have hz : ¬ 9223372036854775807 < (bs (outW (R1.take k) ++ joinW (ws.take q))).size + 1 := by
              have h1 : (joinW (ws.take q)).length ≤ 64 * 65537 := by
                rw [hT]
                have h7 := joinW_length ws HGW.out
                have h8 := HNN.out
                exact Nat.le_trans h7 (Nat.mul_le_mul_right _ (by omega))
              rw [bs_size, List.length_append]
              have h5 := HOL.out
              have h6 := Nat.add_le_add h5 h1
              exact Nat.not_lt.2 (Nat.le_trans (Nat.add_le_add_right h6 1) (by decide))
            clear hT
            go_wp2
            go_roundw
            case rel => exact ⟨k + 1, by omega, by go_num, by rw [HNX.out], by rw [HE.out], ⟨HW.out.alloc HW.out.size _⟩⟩
            case measure => simp [intOf]; omega
      · obtain rfl : k = n := by omega
        have HT := aside (show R1.take k = R1 from List.take_of_length_le (by have := HL.out; omega))
        rw [HT.out]
        by_cases hbig : 65536 < (outW R1).length
        · have hbigI : (65536 : Int) < ((bs (outW R1)).size : Int) := by rw [bs_size]; omega
          have hbigN : (65536 : Int) < ((outW R1).length : Int) := by omega
          clear hbig
          go_wp2
          go_ret
          exact ⟨rfl, HB2.out.trans (HW.out.mono HB2.out.size)⟩
        · have hbigI : ¬ (65536 : Int) < ((bs (outW R1)).size : Int) := by rw [bs_size]; omega
          have hbigN : ¬ (65536 : Int) < ((outW R1).length : Int) := by omega
          have HX' := aside (fun w => HX.out (Nat.le_of_not_lt hbig) w)
          clear hbig
          go_wp2_with fail
          refine (HX'.out wr).mono ?_
          rintro e w3 ⟨v', P', rfl, ho, hs2, hb2⟩
          have HOW' := aside ho
          have HS' := aside hs2
          have HBW := aside (HW.out.trans (hb2.mono HW.out.size))
          have HBB := aside (HB2.out.trans ((HW.out.trans (hb2.mono HW.out.size)).mono HB2.out.size))
          clear ho hs2 hb2
          obtain ⟨B, cb, hv', hlb, hcb⟩ := lown_reads HOW'.out
          have hsn1 : said P' = numbered 1 R1 := HS'.out
          rw [hsn1, numbered_length, HL.out] at hv' hlb hcb
          simp only [maxLen] at hlb
          subst hv'
          have HB := aside hcb
          clear hcb hsn1
          go_wp2_with fail
          go_loopw [139] (fun i wr => ∃ k' q : Nat, k' ≤ k ∧ i = .int .i64 k' ∧ wr = w3.drewN q) (fun i _ => k - (intOf i).toNat)
          case atStart => exact ⟨0, 0, Nat.zero_le _, rfl, rfl⟩
          case round =>
            obtain ⟨j, q, hj, rfl, rfl⟩ := hrel
            by_cases hltj : j < k
            · obtain ⟨ba, oa, rfl, hA⟩ := HA.out (by omega)
              obtain ⟨bb, ob, rfl, hB⟩ := HB.out (by omega)
              obtain ⟨h1, u1, g1, r1⟩ := hA j hltj
              obtain ⟨h2, u2, g2, r2⟩ := hB j hltj
              clear hA hB
              have hjR : j < R1.length := by have := HL.out; omega
              rw [numbered_at R1 1 j hjR] at h2 r2
              have r1' : RdStrs w3 u1 (R1.getD j (0, [])).2 := by
                obtain ⟨A, c, e1, e2, e3⟩ := r1
                refine ⟨A, c, e1, e2, fun h => ?_⟩
                obtain ⟨b, o, e4, e5⟩ := e3 h
                exact ⟨b, o, e4, fun i hi => cell_below HBW.out _ _ (e5 i hi)⟩
              have g1' := cell_below HBW.out _ _ g1
              have HX := fun m : Nat => texts_any (R1.getD j (0, [])).2 (R1.getD j (0, [])).2 u2 u1 ((w3.drewN q).drewN m) (show RdStrs w3 u2 _ from r2) (show RdStrs w3 u1 _ from r1')
              rw [decide_eq_true (rfl : (R1.getD j (0, [])).2 = (R1.getD j (0, [])).2)] at HX
              change (w3.drewN q).cell? _ = some (.int .i64 ((1 + j : Nat) : Int)) at h2
              change (w3.drewN q).cell? _ = some u1 at g1'
              change (w3.drewN q).cell? _ = some u2 at g2
              have HX' := aside HX
              clear HX r1 r2 r1' h1 g1
              generalize hwq : w3.drewN q = wq at *
              have HQ := aside hwq
              clear hwq
              have ha3 : ((1 + j : Nat) : Int) = (j : Int) + 1 := by omega
              rw [ha3] at h2
              clear ha3
              have ha4 : ((j : Int) + 1 != (j : Int) + 1) = false := by simp
              have hjI : (j : Int) < (k : Int) := by omega
              go_wp2
              go_quiet ((go_at_call 12; exact Calls.quiet_of (HX'.out _)))
              go_wp2
              go_roundw
              case rel => exact ⟨j + 1, _, by omega, by go_num, by rw [← HQ.out, World.drewN_drewN]⟩
              case measure => simp [intOf]; omega
            · obtain rfl : j = k := by omega
              go_wp2
              go_ret
              exact ⟨rfl, below_drewN HBB.out _⟩
  · have he1 : (R3 != 0) = true := by simpa using he
    have he2 : (R3 == 0) = false := by simpa using he
    have hP : P.length = 0 := by
      have h1 : R1 = [] := herr.out he
      have h2 := HS.out
      have h3 : (said P).length = P.length := said_length P
      rw [h2] at h3
      rw [← h3]
      show R1.length = 0
      rw [h1]
      rfl
    obtain ⟨A, c, hv⟩ := own_slice HOW.out.row
    rw [hP] at hv
    subst hv
    go_wp2
    go_ret
    exact ⟨by simp, HB2.out⟩
end Go.Proofs.YtppmamcoehhopaaDoor.LexY
