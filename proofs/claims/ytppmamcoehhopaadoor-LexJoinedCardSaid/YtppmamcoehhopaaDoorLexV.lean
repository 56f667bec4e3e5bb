/- The walk of LexJoined, to its end. -/
import Derived.Test.YtppmamcoehhopaaDoorLexU
namespace Go.Proofs.YtppmamcoehhopaaDoor.LexV
open Go.RowKit Go.Proofs.YtppmamcoehhopaaDoor.Base Go.Proofs.YtppmamcoehhopaaDoor.LexB Go.Proofs.YtppmamcoehhopaaDoor.LexM Go.Proofs.YtppmamcoehhopaaDoor.LexD Go.Proofs.YtppmamcoehhopaaDoor.LexF Go.Proofs.YtppmamcoehhopaaDoor.LexG Go.Proofs.YtppmamcoehhopaaDoor.LexH Go.Proofs.YtppmamcoehhopaaDoor.LexT Go.Proofs.YtppmamcoehhopaaDoor.LexU
open Go.Proofs.YtppmamcoehhopaaDoor.LexE hiding W
set_option linter.unusedVariables false
set_option linter.unusedSimpArgs false

set_option maxHeartbeats 4000000 in
set_option maxRecDepth 100000 in
theorem joined_any (s t : ByteArray) (w : World) (hs : s.size ≤ 140737488351232) (ht : t.size ≤ 140737488351232) :
    Calls Tryd.prog 7 #[.string s, .string t] w fun e w' => e = .returned (.bool true) ∧ Below w.heap.size w w' := by
  obtain ⟨a, rfl⟩ : ∃ l, s = bs l := ⟨s.data.toList, rfl⟩
  obtain ⟨b, rfl⟩ : ∃ l, t = bs l := ⟨t.data.toList, rfl⟩
  have hsa : (bs a).size = a.length := rfl
  have hsb : (bs b).size = b.length := rfl
  by_cases hlen : 60000 < a.length + b.length
  · have h1 : (60000 : Int) < ((bs a).size : Int) + ((bs b).size : Int) := by omega
    have h2 : (60000 : Int) < (a.length : Int) + (b.length : Int) := by omega
    clear hlen
    go_enter Tryd.func7, Tryd.ntmps7
    go_wp2_with fail
    refine (awake_any _).mono ?_
    rintro e w1 ⟨rfl, hb1⟩
    go_wp2
    go_ret
    exact ⟨rfl, hb1⟩
  · have h1 : ¬ (60000 : Int) < (a.length : Int) + (b.length : Int) := by omega
    have hab : a.length + b.length ≤ 60000 := by omega
    have HA := aside (fun w : World => lines_any a w)
    have HB := aside (fun w : World => lines_any b w)
    have HJ := aside (fun w : World => lines_any (a ++ 10 :: b) w)
    have hcat : (bs a ++ ⟨#[10]⟩) ++ bs b = bs (a ++ 10 :: b) := by
      rw [show a ++ 10 :: b = (a ++ [10]) ++ b by simp, bs_append, bs_append]
      rfl
    have hbad := aside (joined_bad a b hab)
    have hgood := aside (joined_good a b hab)
    have herr := aside (lexAll_err b)
    have hpa := lexAll_place a
    have hpb := lexAll_place b
    have hca := aside (lexAll_count a)
    have hcb := aside (lexAll_count b)
    have HAT := aside (lexAll_at b)
    have htl := tens_le a
    generalize lexAll a = A at *
    generalize lexAll b = B at *
    generalize lexAll (a ++ 10 :: b) = J at *
    obtain ⟨A1, A2, A3⟩ := A
    obtain ⟨B1, B2, B3⟩ := B
    obtain ⟨J1, J2, J3⟩ := J
    have hpb0 : 0 ≤ B2 := hpb.1
    have hpb1 : B2 ≤ 65538 := hpb.2
    clear hlen hpa hpb
    go_enter Tryd.func7, Tryd.ntmps7
    go_wp2_with fail
    refine (awake_any _).mono ?_
    rintro e w1 ⟨rfl, hb1⟩
    have HB1 := aside hb1
    clear hb1
    go_wp2_with fail
    go_loop [5, 6] (fun n i => ∃ k : Nat, k ≤ a.length ∧ i = .int .i64 k ∧ n = .int .i64 (((1 + tens (a.take k) : Nat)) : Int)) (fun _ i => a.length - (intOf i).toNat)
    case atStart => exact ⟨0, Nat.zero_le _, rfl, rfl⟩
    case round =>
      obtain ⟨k, hk, rfl, rfl⟩ := hrel
      have htk := tens_le (a.take k)
      have htk2 : (a.take k).length ≤ a.length := List.length_take_le' _ _
      by_cases hlt : k < a.length
      · have hsn := tens_snoc a k hlt
        have hk2 : k < (bs a).size := hlt
        have hby : ((bs a)[k]'hk2) = a.getD k 0 := by
          rw [getD_at a k hlt]
          rfl
        generalize hT : tens (a.take k) = T at *
        by_cases hc : a.getD k 0 = 10
        · have hx : ((((bs a)[k]'hk2).toNat : Int) == 10) = true := by rw [hby, hc]; rfl
          have HX := aside (show tens (a.take (k + 1)) = T + 1 by rw [hsn, hc]; rfl)
          clear hsn hby hc hT
          have hTl : (T : Int) ≤ 60000 := by omega
          go_wp2
          go_round
          case rel => exact ⟨k + 1, by omega, by go_num, by rw [HX.out]; go_num⟩
          case measure => simp [intOf]; omega
        · have hx : ((((bs a)[k]'hk2).toNat : Int) == 10) = false := by
            rw [hby, beq_eq_false_iff_ne]
            intro h
            apply hc
            rw [← UInt8.toNat_inj]
            show (a.getD k 0).toNat = 10
            omega
          have HX := aside (show tens (a.take (k + 1)) = T by
            rw [hsn]
            have : (a.getD k 0 == 10) = false := by simpa using hc
            rw [this]
            rfl)
          clear hsn hby hc hT
          go_wp2
          go_round
          case rel => exact ⟨k + 1, by omega, by go_num, by rw [HX.out]⟩
          case measure => simp [intOf]; omega
      · obtain rfl : k = a.length := by omega
        have hT : tens (a.take a.length) = tens a := by rw [List.take_of_length_le (Nat.le_refl _)]
        rw [hT] at *
        have hNl0 : 1 + tens a ≤ 60001 := by omega
        generalize 1 + tens a = N at *
        have hNl : (N : Int) ≤ 60001 := by omega
        clear hT htk htk2
        have hz1 : ¬ 9223372036854775807 < (bs a).size + 1 := by omega
        have hz2 : ¬ 9223372036854775807 < (bs a).size + 1 + (bs b).size := by omega
        go_wp2_with fail
        refine (HJ.out w1).mono ?_
        rintro e w2 ⟨v1, P1, rfl, ho1, hs1, hb2⟩
        have HO1 := aside ho1
        have HS1 := aside hs1
        have HB2 := aside hb2
        clear ho1 hs1 hb2 hcat
        go_wp2_with fail
        refine (HA.out w2).mono ?_
        rintro e w3 ⟨v2, P2, rfl, ho2, hs2, hb3⟩
        have HO2 := aside ho2
        have HS2 := aside hs2
        have HB3 := aside hb3
        clear ho2 hs2 hb3
        go_wp2_with fail
        refine (HB.out w3).mono ?_
        rintro e w4 ⟨v3, P3, rfl, ho3, hs3, hb4⟩
        have HO3 := aside ho3
        have HS3 := aside hs3
        have HB4 := aside hb4
        have HBB := aside (below_then (below_then (below_then HB1.out HB2.out) HB3.out) hb4)
        clear ho3 hs3 hb4
        by_cases hA3 : A3 = 0
        · subst hA3
          have hg := hgood.out rfl
          by_cases hB61 : B3 = 61
          · subst hB61
            go_wp2
            go_ret
            exact ⟨rfl, HBB.out⟩
          · have hj := hg hB61
            have hx61 : (B3 == 61) = false := by simpa using hB61
            clear hg
            obtain ⟨q1, c1, hv1⟩ := own_slice HO1.out.row
            obtain ⟨q2, c2, hv2⟩ := own_slice HO2.out.row
            obtain ⟨q3, c3, hv3⟩ := own_slice HO3.out.row
            have hl1 : P1.length = J1.length := by rw [← said_length, HS1.out]
            have hl2 : P2.length = A1.length := by rw [← said_length, HS2.out]
            have hl3 : P3.length = B1.length := by rw [← said_length, HS3.out]
            have Hn2 := aside hl2
            generalize hn1 : P1.length = n1 at *
            generalize hn2 : P2.length = n2 at *
            generalize hn3 : P3.length = n3 at *
            have Hn3 := aside hn3
            have Hn2' := aside hn2
            have HV3 := aside hv3
            clear hn1 hn2 hn3
            by_cases hB0 : B3 = 0
            · subst hB0
              simp only [if_true, Prod.mk.injEq] at hj
              obtain ⟨e1, rfl, rfl⟩ := hj
              have HE1 := aside e1
              have hn123 : n1 = n2 + n3 := by
                have : J1.length = A1.length + B1.length := by rw [e1, List.length_append]; simp [shift]
                omega
              have hne : ((n1 : Int) != (n2 : Int) + (n3 : Int)) = false := by
                rw [bne_eq_false_iff_eq]
                omega
              have hn2l : n2 ≤ 65537 := by have := hca.out; have := Hn2.out; simp only [] at *; omega
              have hn3l : n3 ≤ 65537 := by have h := hcb.out; have h2 := hl3; simp only [] at *; omega
              clear e1 hl1 hl2 hl3
              by_cases hn2p : 0 < n2
              · have hn2i : (0 : Int) < (n2 : Int) := by omega
                have hv1' := aside hv1
                have hv2' := aside hv2
                clear hn123
                go_wp2_with fail
                refine (goes_any (bs b) w4 (by omega)).mono ?_
                rintro e w5 ⟨⟨cc, rfl⟩, hw5⟩
                obtain rfl : w4 = w5 := hw5.symm
                cases cc with
                | true =>
                  go_wp2
                  go_ret
                  exact ⟨rfl, HBB.out⟩
                | false =>
                  go_wp2_with fail
                  go_loopw [109] (fun i wr => ∃ k : Nat, k ≤ n3 ∧ i = .int .i64 k ∧ As (LOwn wr w3.heap.size v3 (shiftP N k P3)) ∧ As (Below w3.heap.size w4 wr)) (fun i _ => n3 - (intOf i).toNat)
                  case atStart => exact ⟨0, Nat.zero_le _, rfl, ⟨by rw [shiftP_zero]; exact HO3.out⟩, ⟨Below.refl _ _⟩⟩
                  case round =>
                    obtain ⟨k, hk, rfl, HK, HW⟩ := hrel
                    by_cases hlt : k < n3
                    · have hrow := HK.out.row
                      rw [shiftP_length, Hn3.out] at hrow
                      obtain ⟨g, cap, ev, hg1, hg2, hcap, hcapm⟩ := own_form hrow (by omega)
                      rw [ev] at hrow
                      injection HV3.out.symm.trans ev with eA e2 eC
                      have hkP : k < P3.length := by have := Hn3.out; omega
                      have hpat := shiftP_at N k P3 hkP
                      have hcell := hrow.cellAt (k * 2) (by omega)
                      rw [(cellsOf_at _ _ _ hpat).1] at hcell
                      have hfr := hrow.frozenAt (k * 2)
                      have hnew := lown_setAt (k := k) (m := N + P3[k].1) (show LOwn wr w3.heap.size (.slice (some ⟨g, 0, none⟩) n3 cap) (shiftP N k P3) from ev ▸ HK.out) (by rw [shiftP_length, Hn3.out]) hpat
                      rw [← shiftP_next N k P3 hkP, ← ev] at hnew
                      have hb1 : P3[k].1 ≤ 65538 := by
                        have hm : (P3[k].1, P3[k].2.1) ∈ said P3 := List.mem_map.2 ⟨P3[k], List.getElem_mem hkP, rfl⟩
                        rw [HS3.out] at hm
                        exact HAT.out _ hm
                      have HNW := aside hnew
                      have HWW := aside (HW.out.setCell (p := ⟨g, k * 2, none⟩) hg1 (.int .i64 ((N + P3[k].1 : Nat) : Int)))
                      generalize P3[k].1 = p1 at *
                      have hp0 : (p1 : Int) ≤ 65538 := by omega
                      have hp1 : (0 : Int) ≤ (p1 : Int) := by omega
                      have hcast : ((N + p1 : Nat) : Int) = (p1 : Int) + (N : Int) := by omega
                      rw [hcast] at HNW HWW
                      clear hrow hnew hpat hcast hb1
                      subst eA
                      have hltI : (k : Int) < (n3 : Int) := by omega
                      clear ev eC e2
                      go_wp2
                      go_roundw
                      case rel => exact ⟨k + 1, by omega, by go_num, HNW, HWW⟩
                      case measure => simp [intOf]; omega
                    · obtain rfl : k = n3 := by omega
                      have hQs : said (shiftP N k P3) = shift N B1 := by
                        rw [← Hn3.out, shiftP_all, HS3.out]
                      have hQl : (shiftP N k P3).length = k := by rw [shiftP_length, Hn3.out]
                      generalize shiftP N k P3 = Q3 at *
                      have HQS := aside hQs
                      have HQL := aside hQl
                      clear hQs hQl
                      have HR1 := aside ((HO1.out.below HB3.out).below (HB4.out.trans HW.out))
                      have HR2 := aside (HO2.out.below (HB4.out.trans HW.out))
                      have HBW := aside (HBB.out.trans (HW.out.mono (Nat.le_trans (Nat.le_trans HB1.out.size HB2.out.size) HB3.out.size)))
                      obtain ⟨iL, hiL, hL⟩ := Option.map_eq_some_iff.1 infoLine
                      simp only [Prod.mk.injEq] at hL
                      obtain ⟨hL0, hL1, hL2⟩ := hL
                      have HSR2 := aside (show Src wr (.slice q2 n2 c2) n2 2 (cellsOf P2) by
                        have h := Src.of_own HR2.out.row
                        rw [Hn2'.out] at h
                        exact hv2'.out ▸ h)
                      have HSR3 := aside (show Src wr (.slice q3 k c3) k 2 (cellsOf Q3) by
                        have h := Src.of_own HK.out.row
                        rw [HQL.out] at h
                        exact HV3.out ▸ h)
                      go_wp2_with (at_builtin; refine wpList_append_src _ rfl (.tmp 123) (.tmp 124) 23 rfl wr.heap.size 32 iL _ 2 32 Tryd.underlying23 hiL hL0 hL1 hL2 rfl (by decide) (.slice (some ⟨wr.heap.size, 0, none⟩) 0 0) 0 [] rfl ?a1 (.slice q2 n2 c2) n2 (cellsOf P2) rfl ?a2 ?a3 ?a4 ?a5 ?a6 ?_)
                      case a1 => exact World.ownsRow_lit wr #[] 0 (Nat.le_refl _) (by decide) rfl
                      case a2 => exact HSR2.out.keep (cell_below ((Below.refl _ wr).alloc (Nat.le_refl _) _))
                      case a3 => exact cellsOf_one HR2.out
                      case a4 => simp only [maxLen]; omega
                      case a5 => omega
                      case a6 => simp
                      intro v5 w5 ho5 hg5 hat5
                      have hb5 : Below wr.heap.size wr w5 := ((Below.refl _ wr).alloc (Nat.le_refl _) _).grown hg5 (by simp) (fun j hj => by
                        have : wr.heap.size = j := by simpa [Value.ownBlock] using hj
                        omega)
                      have HO5 := aside ho5
                      have HB5 := aside hb5
                      clear ho5 hg5 hat5 hb5
                      go_wp2_with (at_builtin; refine wpList_append_src _ rfl (.tmp 125) (.tmp 126) 23 rfl wr.heap.size 32 iL _ 2 32 Tryd.underlying23 hiL hL0 hL1 hL2 rfl (by decide) v5 n2 (cellsOf P2) rfl ?b1 (.slice q3 k c3) k (cellsOf Q3) rfl ?b2 ?b3 ?b4 ?b5 ?b6 ?_)
                      case b1 => simpa using HO5.out
                      case b2 => exact HSR3.out.keep (cell_below HB5.out)
                      case b3 => exact cellsOf_one HK.out
                      case b4 => simp only [maxLen]; omega
                      case b5 => omega
                      case b6 => exact HB5.out.size
                      intro v6 w6 ho6 hg6 hat6
                      have hb6 : Below wr.heap.size wr w6 := HB5.out.grown hg6 HB5.out.size (fun j hj => (own_lt HO5.out hj).1)
                      have hrd : RdLines w6 v6 (said (P2 ++ Q3)) := by
                        refine rows_read (B := wr.heap.size) ?_ ?_
                        · rw [List.length_append, Hn2'.out, HQL.out, cellsOf_append]
                          exact ho6
                        · intro p hp
                          rcases List.mem_append.1 hp with hp | hp
                          · exact strs_reads ((HR2.out.below hb6).inner p hp)
                          · exact strs_reads ((HK.out.below hb6).inner p hp)
                      have HQ := same_any (said P1) (said (P2 ++ Q3)) (.slice q1 n1 c1) v6 w6 (hv1'.out ▸ lown_reads (HR1.out.below hb6)) hrd
                      rw [decide_eq_true (show said P1 = said (P2 ++ Q3) by rw [said_append, HS1.out, HS2.out, HQS.out, HE1.out])] at HQ
                      have HQ' := aside HQ
                      have HB6 := aside hb6
                      clear ho6 hg6 hat6 hb6 hrd HQ
                      go_wp2_with fail
                      refine HQ'.out.mono ?_
                      rintro e w7 ⟨rfl, m, rfl⟩
                      go_wp2
                      go_ret
                      exact ⟨rfl, below_drewN (HBW.out.trans (HB6.out.mono HBW.out.size)) _⟩
              · have hn2i : ¬ (0 : Int) < (n2 : Int) := by omega
                have hn2d : decide ((0 : Int) < (n2 : Int)) = false := by simpa using hn2p
                have hv1' := aside hv1
                have hv2' := aside hv2
                clear hn123
                go_wp2_with fail
                go_loopw [109] (fun i wr => ∃ k : Nat, k ≤ n3 ∧ i = .int .i64 k ∧ As (LOwn wr w3.heap.size v3 (shiftP N k P3)) ∧ As (Below w3.heap.size w4 wr)) (fun i _ => n3 - (intOf i).toNat)
                case atStart => exact ⟨0, Nat.zero_le _, rfl, ⟨by rw [shiftP_zero]; exact HO3.out⟩, ⟨Below.refl _ _⟩⟩
                case round =>
                  obtain ⟨k, hk, rfl, HK, HW⟩ := hrel
                  by_cases hlt : k < n3
                  · have hrow := HK.out.row
                    rw [shiftP_length, Hn3.out] at hrow
                    obtain ⟨g, cap, ev, hg1, hg2, hcap, hcapm⟩ := own_form hrow (by omega)
                    rw [ev] at hrow
                    injection HV3.out.symm.trans ev with eA e2 eC
                    have hkP : k < P3.length := by have := Hn3.out; omega
                    have hpat := shiftP_at N k P3 hkP
                    have hcell := hrow.cellAt (k * 2) (by omega)
                    rw [(cellsOf_at _ _ _ hpat).1] at hcell
                    have hfr := hrow.frozenAt (k * 2)
                    have hnew := lown_setAt (k := k) (m := N + P3[k].1) (show LOwn wr w3.heap.size (.slice (some ⟨g, 0, none⟩) n3 cap) (shiftP N k P3) from ev ▸ HK.out) (by rw [shiftP_length, Hn3.out]) hpat
                    rw [← shiftP_next N k P3 hkP, ← ev] at hnew
                    have hb1 : P3[k].1 ≤ 65538 := by
                      have hm : (P3[k].1, P3[k].2.1) ∈ said P3 := List.mem_map.2 ⟨P3[k], List.getElem_mem hkP, rfl⟩
                      rw [HS3.out] at hm
                      exact HAT.out _ hm
                    have HNW := aside hnew
                    have HWW := aside (HW.out.setCell (p := ⟨g, k * 2, none⟩) hg1 (.int .i64 ((N + P3[k].1 : Nat) : Int)))
                    generalize P3[k].1 = p1 at *
                    have hp0 : (p1 : Int) ≤ 65538 := by omega
                    have hp1 : (0 : Int) ≤ (p1 : Int) := by omega
                    have hcast : ((N + p1 : Nat) : Int) = (p1 : Int) + (N : Int) := by omega
                    rw [hcast] at HNW HWW
                    clear hrow hnew hpat hcast hb1
                    subst eA
                    have hltI : (k : Int) < (n3 : Int) := by omega
                    clear ev eC e2
                    go_wp2
                    go_roundw
                    case rel => exact ⟨k + 1, by omega, by go_num, HNW, HWW⟩
                    case measure => simp [intOf]; omega
                  · obtain rfl : k = n3 := by omega
                    have hQs : said (shiftP N k P3) = shift N B1 := by
                      rw [← Hn3.out, shiftP_all, HS3.out]
                    have hQl : (shiftP N k P3).length = k := by rw [shiftP_length, Hn3.out]
                    generalize shiftP N k P3 = Q3 at *
                    have HQS := aside hQs
                    have HQL := aside hQl
                    clear hQs hQl
                    have HR1 := aside ((HO1.out.below HB3.out).below (HB4.out.trans HW.out))
                    have HR2 := aside (HO2.out.below (HB4.out.trans HW.out))
                    have HBW := aside (HBB.out.trans (HW.out.mono (Nat.le_trans (Nat.le_trans HB1.out.size HB2.out.size) HB3.out.size)))
                    obtain ⟨iL, hiL, hL⟩ := Option.map_eq_some_iff.1 infoLine
                    simp only [Prod.mk.injEq] at hL
                    obtain ⟨hL0, hL1, hL2⟩ := hL
                    have HSR2 := aside (show Src wr (.slice q2 n2 c2) n2 2 (cellsOf P2) by
                      have h := Src.of_own HR2.out.row
                      rw [Hn2'.out] at h
                      exact hv2'.out ▸ h)
                    have HSR3 := aside (show Src wr (.slice q3 k c3) k 2 (cellsOf Q3) by
                      have h := Src.of_own HK.out.row
                      rw [HQL.out] at h
                      exact HV3.out ▸ h)
                    go_wp2_with (at_builtin; refine wpList_append_src _ rfl (.tmp 123) (.tmp 124) 23 rfl wr.heap.size 32 iL _ 2 32 Tryd.underlying23 hiL hL0 hL1 hL2 rfl (by decide) (.slice (some ⟨wr.heap.size, 0, none⟩) 0 0) 0 [] rfl ?a1 (.slice q2 n2 c2) n2 (cellsOf P2) rfl ?a2 ?a3 ?a4 ?a5 ?a6 ?_)
                    case a1 => exact World.ownsRow_lit wr #[] 0 (Nat.le_refl _) (by decide) rfl
                    case a2 => exact HSR2.out.keep (cell_below ((Below.refl _ wr).alloc (Nat.le_refl _) _))
                    case a3 => exact cellsOf_one HR2.out
                    case a4 => simp only [maxLen]; omega
                    case a5 => omega
                    case a6 => simp
                    intro v5 w5 ho5 hg5 hat5
                    have hb5 : Below wr.heap.size wr w5 := ((Below.refl _ wr).alloc (Nat.le_refl _) _).grown hg5 (by simp) (fun j hj => by
                      have : wr.heap.size = j := by simpa [Value.ownBlock] using hj
                      omega)
                    have HO5 := aside ho5
                    have HB5 := aside hb5
                    clear ho5 hg5 hat5 hb5
                    go_wp2_with (at_builtin; refine wpList_append_src _ rfl (.tmp 125) (.tmp 126) 23 rfl wr.heap.size 32 iL _ 2 32 Tryd.underlying23 hiL hL0 hL1 hL2 rfl (by decide) v5 n2 (cellsOf P2) rfl ?b1 (.slice q3 k c3) k (cellsOf Q3) rfl ?b2 ?b3 ?b4 ?b5 ?b6 ?_)
                    case b1 => simpa using HO5.out
                    case b2 => exact HSR3.out.keep (cell_below HB5.out)
                    case b3 => exact cellsOf_one HK.out
                    case b4 => simp only [maxLen]; omega
                    case b5 => omega
                    case b6 => exact HB5.out.size
                    intro v6 w6 ho6 hg6 hat6
                    have hb6 : Below wr.heap.size wr w6 := HB5.out.grown hg6 HB5.out.size (fun j hj => (own_lt HO5.out hj).1)
                    have hrd : RdLines w6 v6 (said (P2 ++ Q3)) := by
                      refine rows_read (B := wr.heap.size) ?_ ?_
                      · rw [List.length_append, Hn2'.out, HQL.out, cellsOf_append]
                        exact ho6
                      · intro p hp
                        rcases List.mem_append.1 hp with hp | hp
                        · exact strs_reads ((HR2.out.below hb6).inner p hp)
                        · exact strs_reads ((HK.out.below hb6).inner p hp)
                    have HQ := same_any (said P1) (said (P2 ++ Q3)) (.slice q1 n1 c1) v6 w6 (hv1'.out ▸ lown_reads (HR1.out.below hb6)) hrd
                    rw [decide_eq_true (show said P1 = said (P2 ++ Q3) by rw [said_append, HS1.out, HS2.out, HQS.out, HE1.out])] at HQ
                    have HQ' := aside HQ
                    have HB6 := aside hb6
                    clear ho6 hg6 hat6 hb6 hrd HQ
                    go_wp2_with fail
                    refine HQ'.out.mono ?_
                    rintro e w7 ⟨rfl, m, rfl⟩
                    go_wp2
                    go_ret
                    exact ⟨rfl, below_drewN (HBW.out.trans (HB6.out.mono HBW.out.size)) _⟩
            · rw [if_neg hB0] at hj
              simp only [Prod.mk.injEq] at hj
              obtain ⟨e1, rfl, rfl⟩ := hj
              have he1 : (J3 != 0) = true := by simpa using hB0
              have he2 : (J3 == 0) = false := by simpa using hB0
              subst hv2
              clear hB0 e1 hl1 hl2 hl3 hB61
              by_cases hn2p : 0 < n2
              · have hn2i : (0 : Int) < (n2 : Int) := by omega
                by_cases h60 : J3 = 60
                · have h60' : (J3 != 60) = false := by simp [h60]
                  clear h60
                  go_wp2
                  go_ret
                  exact ⟨by simp, HBB.out⟩
                · have h60' : (J3 != 60) = true := by simpa using h60
                  clear h60
                  go_wp2_with fail
                  refine (goes_any (bs b) w4 (by omega)).mono ?_
                  rintro e w5 ⟨⟨cc, rfl⟩, rfl⟩
                  cases cc with
                  | true =>
                    go_wp2
                    go_ret
                    exact ⟨rfl, HBB.out⟩
                  | false =>
                    go_wp2
                    go_ret
                    exact ⟨by simp, HBB.out⟩
              · obtain rfl : n2 = 0 := by omega
                go_wp2
                go_ret
                exact ⟨by simp, HBB.out⟩
        · have hj := hbad.out hA3
          simp only [Prod.mk.injEq] at hj
          obtain ⟨e1, e2, e3⟩ := hj
          have he1 : (A3 != 0) = true := by simpa using hA3
          have he2 : (A3 == 0) = false := by simpa using hA3
          clear hA3
          subst e2 e3
          go_wp2
          go_ret
          exact ⟨by simp, HBB.out⟩
end Go.Proofs.YtppmamcoehhopaaDoor.LexV
