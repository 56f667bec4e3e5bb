/- The walk of LexRemarks. -/
import Derived.Test.YtppmamcoehhopaaDoorLexH
import Derived.Test.YtppmamcoehhopaaDoorLexR
namespace Go.Proofs.YtppmamcoehhopaaDoor.LexS
open Go.RowKit Go.Proofs.YtppmamcoehhopaaDoor.Base Go.Proofs.YtppmamcoehhopaaDoor.LexB Go.Proofs.YtppmamcoehhopaaDoor.LexM Go.Proofs.YtppmamcoehhopaaDoor.LexD Go.Proofs.YtppmamcoehhopaaDoor.LexF Go.Proofs.YtppmamcoehhopaaDoor.LexG Go.Proofs.YtppmamcoehhopaaDoor.LexH Go.Proofs.YtppmamcoehhopaaDoor.LexR
open Go.Proofs.YtppmamcoehhopaaDoor.LexE hiding W
set_option linter.unusedVariables false
set_option linter.unusedSimpArgs false

theorem outL_snoc (t : List UInt8) (k : Nat) (h : k < t.length) : outL (t.take (k + 1)) = outL (t.take k) ++ outB (t.getD k 0) := by
  rw [List.take_succ_eq_append_getElem h]
  unfold outL
  rw [List.flatMap_append, getD_at t k h]
  simp

set_option maxHeartbeats 4000000 in
set_option maxRecDepth 100000 in
theorem remarks_any (s : ByteArray) (w : World) (hs : s.size ≤ 140737488351232) :
    Calls Tryd.prog 5 #[.string s] w fun e w' => e = .returned (.bool true) ∧ Below w.heap.size w w' := by
  obtain ⟨l, rfl⟩ : ∃ l, s = bs l := ⟨s.data.toList, rfl⟩
  have hsz : (bs l).size = l.length := rfl
  by_cases hlen : 1500 < l.length
  · have h1 : (1500 : Int) < ((bs l).size : Int) := by omega
    clear hlen hsz
    go_enter Tryd.func5, Tryd.ntmps5
    go_wp2_with fail
    refine (awake_any _).mono ?_
    rintro e w1 ⟨rfl, hb1⟩
    go_wp2
    go_ret
    exact ⟨rfl, hb1⟩
  · have h1 : ¬ (1500 : Int) < ((bs l).size : Int) := by omega
    have hlen' : l.length ≤ 1500 := by omega
    have HN := aside (fun w : World => lines_any l w)
    have HO := aside (fun w : World => lines_any (title ++ outL l) w)
    rw [lexAll_remarks l hlen'] at HO
    have hpl := lexAll_place l
    have HAT := aside (lexAll_at l)
    generalize lexAll l = R at *
    obtain ⟨R1, R2, R3⟩ := R
    clear hlen
    have hp0 : 0 ≤ R2 := hpl.1
    have hp1 : R2 ≤ 65538 := hpl.2
    clear hpl
    go_enter Tryd.func5, Tryd.ntmps5
    go_wp2_with fail
    refine (awake_any _).mono ?_
    rintro e w1 ⟨rfl, hb1⟩
    have HB1 := aside hb1
    clear hb1
    go_wp2_with fail
    refine (HN.out w1).mono ?_
    rintro e w2 ⟨v, P, rfl, ho, hs2, hb2⟩
    have HOW := aside ho
    have HS := aside hs2
    have HB2 := aside (below_then HB1.out hb2)
    clear ho hs2 hb2
    go_wp2_with fail
    go_loop [6, 7] (fun o i => ∃ k : Nat, k ≤ l.length ∧ i = .int .i64 k ∧ o = .string (bs (title ++ outL (l.take k)))) (fun _ i => l.length - (intOf i).toNat)
    case atStart => exact ⟨0, Nat.zero_le _, rfl, rfl⟩
    case round =>
      obtain ⟨k, hk, rfl, rfl⟩ := hrel
      by_cases hlt : k < l.length
      · have hsn := outL_snoc l k hlt
        have hk2 : k < (bs l).size := hlt
        have hby : ((bs l)[k]'hk2) = l.getD k 0 := by
          rw [getD_at l k hlt]
          rfl
        have hol : (bs (title ++ outL (l.take k))).size ≤ 100000 := by
          show (title ++ outL (l.take k)).length ≤ _
          have h1 := outL_length (l.take k)
          have h2 : (l.take k).length ≤ l.length := List.length_take_le' _ _
          have h3 : title.length = 9 := rfl
          rw [List.length_append]
          omega
        by_cases hc : l.getD k 0 = 10
        · have hx : ((((bs l)[k]'hk2).toNat : Int) == 10) = true := by rw [hby, hc]; rfl
          have HX := aside (show bs (title ++ outL (l.take k)) ++ ⟨#[32, 59, 32, 114, 101, 109, 97, 114, 107, 32, 42, 32, 43, 32, 97, 10, 32, 9, 10, 42, 32, 109, 111, 114, 101, 59, 32, 98, 10]⟩ = bs (title ++ outL (l.take (k + 1))) by
            rw [hsn, hc, ← List.append_assoc, bs_append (title ++ outL (l.take k))]
            rfl)
          have hx1 : ¬ 9223372036854775807 < (bs (title ++ outL (l.take k))).size + 29 := by omega
          clear hsn hby hc
          go_wp2
          go_round
          case rel => exact ⟨k + 1, by omega, by go_num, by rw [HX.out]⟩
          case measure => simp [intOf]; omega
        · have hx : ((((bs l)[k]'hk2).toNat : Int) == 10) = false := by
            rw [hby, beq_eq_false_iff_ne]
            intro h
            apply hc
            rw [← UInt8.toNat_inj]
            show (l.getD k 0).toNat = 10
            omega
          have HX := aside (show bs (title ++ outL (l.take k)) ++ (bs l).extract k (k + 1) = bs (title ++ outL (l.take (k + 1))) by
            have h1 : (l.getD k 0 == 10) = false := by simpa using hc
            have h2 : (bs l).extract k (k + 1) = bs [l.getD k 0] := by
              rw [seg_bs, seg_snoc (bs l) k k (Nat.le_refl _) hlt, seg_self (bs l) k (Nat.le_of_lt hlt)]
              rfl
            rw [hsn, h2, ← bs_append, List.append_assoc]
            unfold outB
            rw [h1]
            rfl)
          have hkk : (k : Int) + 1 ≤ ((bs l).size : Int) := by omega
          have hx1 : ¬ 9223372036854775807 < (bs (title ++ outL (l.take k))).size + (min (k + 1) l.length - k) := by omega
          clear hsn hby hc
          go_wp2
          go_round
          case rel => exact ⟨k + 1, by omega, by go_num, by rw [HX.out]⟩
          case measure => simp [intOf]; omega
      · obtain rfl : k = l.length := by omega
        have HT := aside (show bs (title ++ outL (l.take l.length)) = bs (title ++ outL l) by rw [List.take_of_length_le (Nat.le_refl _)])
        rw [HT.out]
        go_wp2_with fail
        refine (HO.out w2).mono ?_
        rintro e w3 ⟨v', P', rfl, ho, hs2, hb2⟩
        have HOW' := aside ho
        have HS' := aside hs2
        have HB3 := aside hb2
        have HBB := aside (below_then HB2.out hb2)
        clear ho hs2 hb2
        by_cases he : R3 = 0
        · subst he
          obtain ⟨A, ca, rfl, hla, hca⟩ := lown_reads (HOW.out.below HB3.out)
          obtain ⟨B, cb, rfl, hlb, hcb⟩ := lown_reads HOW'.out
          rw [HS.out] at *
          rw [HS'.out] at *
          simp only [maxLen] at hla hlb
          have htl : (tri R1).length = R1.length := by simp [tri]
          simp only [htl] at *
          have HA := aside hca
          have HB := aside hcb
          clear hca hcb htl
          generalize hn : R1.length = n at *
          have HN' := aside hn
          clear hn
          go_wp2_with fail
          go_loopw [70] (fun i wr => ∃ k q : Nat, k ≤ n ∧ i = .int .i64 k ∧ wr = w3.drewN q) (fun i _ => n - (intOf i).toNat)
          case atStart => exact ⟨0, 0, Nat.zero_le _, rfl, rfl⟩
          case round =>
            obtain ⟨k, q, hk, rfl, rfl⟩ := hrel
            by_cases hlt : k < n
            · obtain ⟨ba, oa, rfl, hA⟩ := HA.out (by omega)
              obtain ⟨bb, ob, rfl, hB⟩ := HB.out (by omega)
              obtain ⟨h1, u1, g1, r1⟩ := hA k hlt
              obtain ⟨h2, u2, g2, r2⟩ := hB k hlt
              clear hA hB
              have hkR : k < R1.length := by have := HN'.out; omega
              have htk : (tri R1).getD k (0, []) = (3 * (R1.getD k (0, [])).1, (R1.getD k (0, [])).2) := by
                unfold tri
                simp [List.getD, List.getElem?_eq_getElem hkR]
              have hle : (R1.getD k (0, [])).1 ≤ 65538 := by
                have e : R1.getD k (0, []) = R1[k] := by simp [List.getD, List.getElem?_eq_getElem hkR]
                rw [e]
                exact HAT.out _ (List.getElem_mem hkR)
              rw [htk] at h2 r2
              have HX := fun m : Nat => texts_any (R1.getD k (0, [])).2 (R1.getD k (0, [])).2 u2 u1 ((w3.drewN q).drewN m) (show RdStrs w3 u2 _ from r2) (show RdStrs w3 u1 _ from r1)
              rw [decide_eq_true (rfl : (R1.getD k (0, [])).2 = (R1.getD k (0, [])).2)] at HX
              change (w3.drewN q).cell? _ = some (.int .i64 (R1.getD k (0, [])).1) at h1
              change (w3.drewN q).cell? _ = some (.int .i64 ((3 * (R1.getD k (0, [])).1 : Nat) : Int)) at h2
              change (w3.drewN q).cell? _ = some u1 at g1
              change (w3.drewN q).cell? _ = some u2 at g2
              have HX' := aside HX
              clear HX r1 r2 htk
              generalize (R1.getD k (0, [])).1 = a1 at *
              generalize hwq : w3.drewN q = wq at *
              have HQ := aside hwq
              clear hwq
              have ha1 : (0 : Int) ≤ (a1 : Int) := by omega
              have ha2 : (a1 : Int) ≤ 65538 := by omega
              have ha3 : ((3 * a1 : Nat) : Int) = 3 * (a1 : Int) := by omega
              rw [ha3] at h2
              clear ha3
              have ha4 : (3 * (a1 : Int) != 3 * (a1 : Int)) = false := by simp
              go_wp2
              go_quiet ((go_at_call 12; exact Calls.quiet_of (HX'.out _)))
              go_wp2
              go_roundw
              case rel => exact ⟨k + 1, _, by omega, by go_num, by rw [← HQ.out, World.drewN_drewN]⟩
              case measure => simp [intOf]; omega
            · obtain rfl : k = n := by omega
              go_wp2
              go_ret
              exact ⟨rfl, below_drewN HBB.out _⟩
        · have he1 : (R3 != 0) = true := by simpa using he
          have he2 : (R3 == 0) = false := by simpa using he
          clear he
          go_wp2
          go_ret
          exact ⟨by simp, HBB.out⟩
end Go.Proofs.YtppmamcoehhopaaDoor.LexS
