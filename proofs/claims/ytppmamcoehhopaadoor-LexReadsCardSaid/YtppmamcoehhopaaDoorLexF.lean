/- The walk of lex.Lines. -/
import Derived.Test.YtppmamcoehhopaaDoorLexD
import Derived.Test.YtppmamcoehhopaaDoorLexE
namespace Go.Proofs.YtppmamcoehhopaaDoor.LexF
open Go.RowKit Go.Proofs.YtppmamcoehhopaaDoor.Base Go.Proofs.YtppmamcoehhopaaDoor.LexA Go.Proofs.YtppmamcoehhopaaDoor.LexB Go.Proofs.YtppmamcoehhopaaDoor.LexM Go.Proofs.YtppmamcoehhopaaDoor.LexC Go.Proofs.YtppmamcoehhopaaDoor.LexD
open Go.Proofs.YtppmamcoehhopaaDoor.LexE hiding W
set_option linter.unusedVariables false
set_option linter.unusedSimpArgs false

theorem infoLine : (Tryd.prog.info? 32).map (fun i => (i.zero, i.size, i.bytes)) = some (some (.agg #[.int .i64 0, .slice none 0 0]), 2, 32) := by kernel_rfl
theorem infoStr : (Tryd.prog.info? 9).map (fun i => (i.zero, i.size, i.bytes)) = some (some (.string ⟨#[]⟩), 1, 16) := by kernel_rfl
def said (P : List Piece) : LL := P.map fun p => (p.1, p.2.1)

def LinesPost (w : World) (R : LL × Int × Int) (e : Ending) (w' : World) : Prop :=
  ∃ v P, e = .returned (.tuple #[v, .int .i64 R.2.1, .int .i64 R.2.2]) ∧ LOwn w' w.heap.size v P ∧ said P = R.1 ∧ Below w.heap.size w w'

/-- At the head of a round. -/
structure Head (w : World) (R : LL × Int × Int) (t : List UInt8) (n : Nat) (P : List Piece) (vl : Value) (wr : World) : Prop where
  own : LOwn wr w.heap.size vl P
  below : Below w.heap.size w wr
  rest : lexFold n (said P) (linesOf t) = R
  len : n + t.length ≤ 65537
  pos : 1 ≤ n
  count : P.length ≤ n
  few : ∀ p ∈ P, 0 < p.2.1.length ∧ p.2.1.length ≤ 64

theorem cell_two (w : World) (x y : Value) (t : TypeId) : ∀ j u, [x, y][j]? = some u → (w.alloc (.cells #[x, y] t)).cell? ((⟨w.heap.size, 0, none⟩ : Addr).add j) = some u := by
  intro j u hj
  match j, hj with
  | 0, hj =>
    simp at hj
    subst hj
    simp [Addr.add]
  | 1, hj =>
    simp at hj
    subst hj
    simp [Addr.add]
theorem said_snoc (P : List Piece) (a : Nat) (x : W) (u : Value) : said (P ++ [(a, x, u)]) = said P ++ [(a, x)] := by simp [said]

set_option maxHeartbeats 4000000 in
set_option maxRecDepth 100000 in
theorem lines_any (s : List UInt8) (w : World) :
    Calls Tryd.prog 9 #[.string (bs s)] w (LinesPost w (lexAll s)) := by
  obtain ⟨iL, hiL, hL⟩ := Option.map_eq_some_iff.1 infoLine
  simp only [Prod.mk.injEq] at hL
  obtain ⟨hL0, hL1, hL2⟩ := hL
  obtain ⟨iS, hiS, hS⟩ := Option.map_eq_some_iff.1 infoStr
  simp only [Prod.mk.injEq] at hS
  obtain ⟨hS0, hS1, hS2⟩ := hS
  have hsz : (bs s).size = s.length := rfl
  by_cases hl : 65536 < s.length
  · have hR := aside (show lexAll s = ([], 0, 2) by rw [lexAll, if_pos hl])
    have hl' : (65536 : Int) < (s.length : Int) := by omega
    have hl2 : (65536 : Int) < ((bs s).size : Int) := hl'
    clear hsz
    go_enter Tryd.func9, Tryd.ntmps9
    go_wp2
    go_ret3
    rw [hR.out]
    exact ⟨_, [], rfl, LOwn.nil _ _, rfl, Below.refl _ _⟩
  · have hR := aside (show lexAll s = lexFold 1 [] (linesOf s) by rw [lexAll, if_neg hl])
    have hl' := aside (show s.length ≤ 65536 by omega)
    have hl2 : ¬ (65536 : Int) < ((bs s).size : Int) := by rw [hsz]; omega
    generalize lexAll s = R at *
    clear hl hsz
    go_enter Tryd.func9, Tryd.ntmps9
    go_wp2
    go_loopw [0, 5, 6] (fun x0 x5 x6 wr => ∃ t n P, x0 = .string (bs t) ∧ x6 = .int .i64 (n : Nat) ∧ Head w R t n P x5 wr) (fun x0 _ _ _ => match x0 with | .string b => b.size | _ => 0)
    case atStart => exact ⟨s, 1, [], rfl, rfl, ⟨LOwn.nil _ _, Below.refl _ _, hR.out.symm, by have := hl'.out; omega, by omega, Nat.zero_le _, by simp⟩⟩
    case round =>
      obtain ⟨t, n, P, rfl, rfl, H⟩ := hrel
      by_cases ht : t = []
      · subst ht
        have hf := H.rest
        have H' := aside H
        clear H
        have e0 : bs [] = ⟨#[]⟩ := rfl
        simp only [e0]
        go_wp2
        go_ret3
        have hh := H'.out
        have h0 := hh.rest
        rw [linesOf_nil] at h0
        rw [← h0]
        exact ⟨_, P, rfl, hh.own, rfl, hh.below⟩
      · have ht0 : 0 < t.length := List.length_pos_iff.2 ht
        have hrest := H.rest
        rw [linesOf_cons t ht, lexFold] at hrest
        have hlen := H.len
        have hpos := H.pos
        have hpl := pre_length t 10
        have hpo := post_length t 10 ht
        have htl : (bs t).size ≤ 9223372036854775806 := by show t.length ≤ _; omega
        have e1 : (bs t).data.toList = t := rfl
        have hcut := fun w => cut_one (bs t) 10 w htl
        rw [e1] at hcut
        have hcl := fun w => clean_any (bs (pre t 10)) w (by show (pre t 10).length ≤ _; omega)
        have e2 : (bs (pre t 10)).data.toList = pre t 10 := rfl
        rw [e2] at hcl
        have hne : (bs t).toList.isEmpty = false := by
          rw [ByteArray.toList_eq]
          exact List.isEmpty_eq_false_iff.2 ht
        have hne2 : (!(bs t).toList.isEmpty) = true := by rw [hne]; rfl
        have HR := aside hrest
        have H' := aside H
        have HC := aside hcut
        have HL := aside hcl
        clear H hrest hcut hcl e1 e2
        go_wp2_with fail
        refine (HC.out _).mono ?_
        rintro e w1 ⟨rfl, k1, rfl⟩
        by_cases hc : cleanL (pre t 10) = true
        · have HA := aside (clean_ascii _ hc)
          have HW := fun w => words_any (pre t 10) (by omega) HA.out w
          have HW' := aside HW
          rw [hc] at HL
          have hst : lexStep n (said P) (pre t 10) = stepWords n (said P) (lexWords (pre t 10)) := by rw [lexStep, if_pos hc]
          have HS := aside hst
          have HN := aside (lexWords_ne (pre t 10))
          have hwl := lexWords_length (pre t 10)
          generalize lexWords (pre t 10) = X at *
          clear HW hc hst
          go_wp2_with fail
          refine (HL.out _).mono ?_
          rintro e w2 ⟨rfl, hb2⟩
          have HB2 := aside (below_of_drewN hb2)
          clear hb2
          go_wp2_with fail
          refine (HW'.out _).mono ?_
          rintro e w3 ⟨vw, rfl, how, hb3⟩
          have HB3 := aside (below_then HB2.out hb3)
          clear hb3
          cases X with
          | nil =>
            obtain ⟨aw, cw, rfl⟩ : ∃ aw cw, vw = .slice aw 0 cw := by
              rcases how.2 with ⟨rfl, _⟩ | ⟨g, cap, cur, rfl, _⟩
              · exact ⟨_, _, rfl⟩
              · exact ⟨_, _, rfl⟩
            have HX := aside (HS.out.trans (show stepWords n (said P) [] = (0, said P) from rfl))
            clear how
            go_wp2
            go_roundw
            case rel =>
              have hh := H'.out
              have hr := HR.out
              rw [HX.out] at hr
              refine ⟨post t 10, n + 1, P, rfl, by go_num, ⟨hh.own.below HB3.out, hh.below.trans (HB3.out.mono hh.below.size), ?_, by omega, by omega, by have := hh.count; omega, hh.few⟩⟩
              simpa using hr
            case measure => exact hpo
          | cons x0 xs =>
            obtain ⟨c0, t0, rfl⟩ := List.exists_cons_of_ne_nil (HN.out x0 (by simp))
            obtain ⟨gw, cw, rfl, hgw, hgw2, hcw, hcm⟩ := own_form how (by simp)
            have hn : (0 : Int) < ((((c0 :: t0) :: xs).length : Nat) : Int) := by simp
            have hcell0 : w3.cell? ⟨gw, 0, none⟩ = some (.string (bs (c0 :: t0))) := by
              have := how.cellAt 0 (by simp)
              simpa [strs] using this
            have hs0 : 0 < (bs (c0 :: t0)).size := Nat.succ_pos _
            generalize hNN : ((c0 :: t0) :: xs).length = N at hn how hwl hcw
            have HNN := aside hNN
            clear hNN
            have HO := aside how
            clear how
            have hz : ((N : Int) == 0) = false := beq_eq_false_iff_ne.2 (by omega)
            have hN0 : 0 < N := by omega
            by_cases hb : c0 = 43
            · subst hb
              have hx' : ((((bs (43 :: t0))[0]'hs0).toNat : Int) != 43) = false := rfl
              have hx2 : ((((bs (43 :: t0))[0]'hs0).toNat : Int) == 43) = true := rfl
              have hbs := HB3.out.size
              have hbs2 := H'.out.below.size
              have hbs3 := HB2.out.size
              rcases List.eq_nil_or_concat P with rfl | ⟨Q, ⟨a, x, vl⟩, rfl⟩
              · have HRR := aside (show R = ([], (n : Int), 61) by
                  have hr := HR.out
                  rw [HS.out] at hr
                  rw [← hr]
                  rfl)
                obtain ⟨aw, cq, rfl⟩ : ∃ aw cq, u5 = .slice aw 0 cq := by
                  rcases H'.out.own.row.2 with ⟨rfl, _⟩ | ⟨g, cap, cur, rfl, _⟩
                  · exact ⟨_, _, rfl⟩
                  · exact ⟨_, _, rfl⟩
                go_wp2
                go_ret3
                rw [HRR.out]
                exact ⟨_, [], rfl, LOwn.nil _ _, rfl, H'.out.below.trans (HB3.out.mono hbs2)⟩
              · have hrow := H'.out.own.row
                rw [List.concat_eq_append, List.length_append] at hrow
                obtain ⟨g, cap, rfl, hg1, hg2, hcap, hcapm⟩ := own_form hrow (by simp)
                clear hrow
                have hQn := H'.out.count
                rw [List.concat_eq_append, List.length_append] at hQn
                have hff := (H'.out.few (a, x, vl) (by simp))
                have hx0 : 0 < x.length := hff.1
                have hxx : x.length ≤ 64 := hff.2
                clear hff
                have hfrw := HO.out.frozenAt 0
                have hext : (bs (43 :: t0)).extract 1 (bs (43 :: t0)).size = bs t0 := extract_drop (bs (43 :: t0)) 1
                have hgw3 : wr.heap.size ≤ gw := by omega
                have HB4 := aside ((H'.out.below.trans ((HB3.out.setCell (p := ⟨gw, 0, none⟩) hgw3 (.string (bs t0))).mono hbs2)))
                have HP4 := aside (show LOwn (w3.setCell ⟨gw, 0, none⟩ (.string (bs t0))) w.heap.size (.slice (some ⟨g, 0, none⟩) (Q.length + 1) cap) (Q ++ [(a, x, vl)]) by
                  have := H'.out.own.below (HB3.out.setCell (p := ⟨gw, 0, none⟩) hgw3 (.string (bs t0)))
                  rwa [List.concat_eq_append] at this)
                have hfew := aside (show ∀ p ∈ Q, 0 < p.2.1.length ∧ p.2.1.length ≤ 64 from fun p hp => H'.out.few p (by simp [hp]))
                have hQc : Q.length + 1 ≤ n + 1 := by have : [(a, x, vl)].length = 1 := rfl; omega
                have HSS := aside (show lexStep n (said (Q.concat (a, x, vl))) (pre t 10) = if 64 < (x ++ plusWords ((43 :: t0) :: xs)).length then (7, []) else (0, said Q ++ [(a, x ++ plusWords ((43 :: t0) :: xs))]) by
                  rw [HS.out, stepWords_plus, List.concat_eq_append, said_snoc, addLast_snoc, lastLen_snoc, if_neg (by simp)])
                simp only [maxLen] at hcapm
                by_cases ht0' : t0 = []
                · subst ht0'
                  have hne3 : (bs []).toList.isEmpty = true := by
                    rw [ByteArray.toList_eq]
                    rfl
                  have hN1 : xs.length + 1 = N := HNN.out
                  have hst0 := (HO.out.stored 0 (.string (bs []))).1.cells (g := gw) rfl
                  by_cases hcw1 : cw = 1
                  · have hxs : xs = [] := List.length_eq_zero_iff.1 (by omega)
                    obtain rfl : N = 1 := by omega
                    subst hcw1
                    have HYY := aside (show List.length ([] : List (List UInt8)) = 0 from rfl)
                    have HSX := aside (show lexStep n (said (Q.concat (a, x, vl))) (pre t 10) = if 64 < List.length x + 0 then (7, []) else (0, said Q ++ [(a, x ++ ([] : List (List UInt8)))]) by
                      rw [HSS.out, hxs]
                      show (if 64 < (x ++ ([] : List (List UInt8))).length then _ else _) = _
                      rw [List.length_append]
                      rfl)
                    have HNW := aside (show ∀ (j : Nat) (u : Value), (strs [])[j]? = some u → (w3.setCell ⟨gw, 0, none⟩ (.string (bs []))).cell? ((⟨gw, 0, none⟩ : Addr).add j) = some u from fun j u h => by simp [strs] at h)
                    clear hst0 hxs
                    have hlast := HP4.out.last
                    have hcl := hlast.1
                    have HLA := aside hlast.2.2
                    clear hlast
                    go_wp2_with (at_builtin; refine wpList_append_own_at _ rfl (.tmp 67) (.tmp 68) 30 rfl w.heap.size 9 iS _ 1 16 Tryd.underlying30 hiS hS0 hS1 hS2 rfl (by decide) vl (List.length x) (strs x) rfl HLA.out ⟨gw, 0, none⟩ 0 0 (strs ([] : List (List UInt8))) rfl ?d1 ?d2 ?d3 ?d4 ?d5 ?d6 ?_)
                    case d1 => first | (rw [strs_length, HYY.out]; omega) | (rw [strs_length, HYY.out])
                    case d2 => exact HNW.out
                    case d3 => exact strs_one _
                    case d4 => simp only [maxLen]; omega
                    case d5 => omega
                    case d6 => exact HB4.out.size
                    intro v5 w5 ho5 hg5 hn5 hat5
                    clear hext hfrw hcell0 hne3 hx2 hx' hQn; generalize hLL0 : List.length x = M at ho5 hn5 hat5 ⊢
                    have hLL : List.length x + 0 = M := hLL0
                    have hpp : 0 < M := by omega
                    obtain ⟨g5, c5, rfl, hg51, hg52, hc5, hm5⟩ := own_form ho5 hpp
                    have ho5' : w5.ownsRow w.heap.size 9 1 (.slice (some ⟨g5, 0, none⟩) M c5) (List.length x + List.length ([] : List (List UInt8))) (strs x ++ strs ([] : List (List UInt8))) := by rw [HYY.out, hLL]; exact ho5
                    have HQ := aside (HP4.out.grow ho5' hg5 (hat5.imp id fun e => e.trans (by first | rfl | simp)))
                    obtain ⟨hcell5, hfr5⟩ := HP4.out.kept hg5
                    have HB5 := aside ((HB4.out.grown hg5 HB4.out.size (fun k hk => (own_lt HLA.out hk).1)).setCell (p := ⟨g, List.length Q * 2 + 1, none⟩) hg1 (.slice (some ⟨g5, 0, none⟩) M c5))
                    clear ho5 ho5' hg5 hn5 hat5 hcl
                    simp only [maxLen] at hm5
                    have h64 : ¬ 64 < M := by omega
                    have h64' : ¬ (64 : Int) < ((M : Nat) : Int) := by omega
                    have HRR := aside (show lexFold (n + 1) (said Q ++ [(a, x ++ ([] : List (List UInt8)))]) (linesOf (post t 10)) = R by
                      have hr := HR.out
                      rw [HSX.out, hLL, if_neg h64] at hr
                      simpa using hr)
                    have HXY := aside (show (x ++ ([] : List (List UInt8))).length ≤ 64 by rw [List.length_append, HYY.out]; omega)
                    clear h64
                    go_wp2
                    go_roundw
                    case rel =>
                      refine ⟨post t 10, n + 1, Q ++ [(a, x ++ ([] : List (List UInt8)), .slice (some ⟨g5, 0, none⟩) M c5)], rfl, by go_num, ⟨HQ.out, HB5.out, by rw [said_snoc]; exact HRR.out, by omega, by omega, by rw [List.length_append]; exact hQc, ?_⟩⟩
                      intro p hp
                      rcases List.mem_append.1 hp with hp | hp
                      · exact hfew.out p hp
                      · rw [List.mem_singleton] at hp
                        subst hp
                        exact ⟨by rw [List.length_append, HYY.out, hLL]; exact hpp, HXY.out⟩
                    case measure => exact hpo
                  · have HYY := aside (show xs.length = N - 1 by omega)
                    have HSX := aside (show lexStep n (said (Q.concat (a, x, vl))) (pre t 10) = if 64 < List.length x + (N - 1) then (7, []) else (0, said Q ++ [(a, x ++ xs)]) by
                      rw [HSS.out]
                      show (if 64 < (x ++ xs).length then _ else _) = _
                      rw [List.length_append, HYY.out]
                      rfl)
                    have hcw2 : 1 < cw := by omega
                    have HNW := aside (show ∀ (j : Nat) (u : Value), (strs xs)[j]? = some u → (w3.setCell ⟨gw, 0, none⟩ (.string (bs []))).cell? ((⟨gw, 1, none⟩ : Addr).add j) = some u by
                      intro j u h
                      have := hst0 (j + 1) u (by simpa [strs] using h)
                      cases j <;> simpa [Addr.add, Nat.add_comm] using this)
                    clear hst0
                    have hlast := HP4.out.last
                    have hcl := hlast.1
                    have HLA := aside hlast.2.2
                    clear hlast
                    go_wp2_with (at_builtin; refine wpList_append_own_at _ rfl (.tmp 67) (.tmp 68) 30 rfl w.heap.size 9 iS _ 1 16 Tryd.underlying30 hiS hS0 hS1 hS2 rfl (by decide) vl (List.length x) (strs x) rfl HLA.out ⟨gw, 1, none⟩ (N - 1) (cw - 1) (strs xs) rfl ?d1 ?d2 ?d3 ?d4 ?d5 ?d6 ?_)
                    case d1 => first | (rw [strs_length, HYY.out]; omega) | (rw [strs_length, HYY.out])
                    case d2 => exact HNW.out
                    case d3 => exact strs_one _
                    case d4 => simp only [maxLen]; omega
                    case d5 => omega
                    case d6 => exact HB4.out.size
                    intro v5 w5 ho5 hg5 hn5 hat5
                    clear hext hfrw hcell0 hne3 hx2 hx' hQn; generalize hLL0 : List.length x + (N - 1) = M at ho5 hn5 hat5 ⊢
                    have hLL : List.length x + (N - 1) = M := hLL0
                    have hpp : 0 < M := by omega
                    obtain ⟨g5, c5, rfl, hg51, hg52, hc5, hm5⟩ := own_form ho5 hpp
                    have ho5' : w5.ownsRow w.heap.size 9 1 (.slice (some ⟨g5, 0, none⟩) M c5) (List.length x + List.length xs) (strs x ++ strs xs) := by rw [HYY.out, hLL]; exact ho5
                    have HQ := aside (HP4.out.grow ho5' hg5 (hat5.imp id fun e => e.trans (by first | rfl | simp)))
                    obtain ⟨hcell5, hfr5⟩ := HP4.out.kept hg5
                    have HB5 := aside ((HB4.out.grown hg5 HB4.out.size (fun k hk => (own_lt HLA.out hk).1)).setCell (p := ⟨g, List.length Q * 2 + 1, none⟩) hg1 (.slice (some ⟨g5, 0, none⟩) M c5))
                    clear ho5 ho5' hg5 hn5 hat5 hcl
                    simp only [maxLen] at hm5
                    by_cases h64 : 64 < M
                    · have h64' : (64 : Int) < ((M : Nat) : Int) := by omega
                      have HRR := aside (show R = ([], (n : Int), 7) by
                        have hr := HR.out
                        rw [HSX.out, hLL, if_pos h64] at hr
                        rw [← hr]
                        rfl)
                      clear h64
                      go_wp2
                      go_ret3
                      rw [HRR.out]
                      exact ⟨_, [], rfl, LOwn.nil _ _, rfl, HB5.out⟩
                    · have h64' : ¬ (64 : Int) < ((M : Nat) : Int) := by omega
                      have HRR := aside (show lexFold (n + 1) (said Q ++ [(a, x ++ xs)]) (linesOf (post t 10)) = R by
                        have hr := HR.out
                        rw [HSX.out, hLL, if_neg h64] at hr
                        simpa using hr)
                      have HXY := aside (show (x ++ xs).length ≤ 64 by rw [List.length_append, HYY.out]; omega)
                      clear h64
                      go_wp2
                      go_roundw
                      case rel =>
                        refine ⟨post t 10, n + 1, Q ++ [(a, x ++ xs, .slice (some ⟨g5, 0, none⟩) M c5)], rfl, by go_num, ⟨HQ.out, HB5.out, by rw [said_snoc]; exact HRR.out, by omega, by omega, by rw [List.length_append]; exact hQc, ?_⟩⟩
                        intro p hp
                        rcases List.mem_append.1 hp with hp | hp
                        · exact hfew.out p hp
                        · rw [List.mem_singleton] at hp
                          subst hp
                          exact ⟨by rw [List.length_append, HYY.out, hLL]; exact hpp, HXY.out⟩
                      case measure => exact hpo
                · have hne3 : (bs t0).toList.isEmpty = false := by
                    rw [ByteArray.toList_eq]
                    exact List.isEmpty_eq_false_iff.2 ht0'
                  have hpw : plusWords ((43 :: t0) :: xs) = t0 :: xs := by
                    show (if t0.isEmpty then xs else t0 :: xs) = _
                    rw [List.isEmpty_eq_false_iff.2 ht0']
                    rfl
                  have HYY := aside (show (t0 :: xs).length = N from HNN.out)
                  have HSX := aside (show lexStep n (said (Q.concat (a, x, vl))) (pre t 10) = if 64 < List.length x + N then (7, []) else (0, said Q ++ [(a, x ++ (t0 :: xs))]) by
                    rw [HSS.out, hpw, List.length_append, HYY.out])
                  have HNW := aside ((HO.out.stored 0 (.string (bs t0))).1.cells (g := gw) rfl)
                  clear ht0' hpw
                  have hlast := HP4.out.last
                  have hcl := hlast.1
                  have HLA := aside hlast.2.2
                  clear hlast
                  go_wp2_with (at_builtin; refine wpList_append_own_at _ rfl (.tmp 67) (.tmp 68) 30 rfl w.heap.size 9 iS _ 1 16 Tryd.underlying30 hiS hS0 hS1 hS2 rfl (by decide) vl (List.length x) (strs x) rfl HLA.out ⟨gw, 0, none⟩ N cw (strs (t0 :: xs)) rfl ?d1 ?d2 ?d3 ?d4 ?d5 ?d6 ?_)
                  case d1 => first | (rw [strs_length, HYY.out]; omega) | (rw [strs_length, HYY.out])
                  case d2 => exact HNW.out
                  case d3 => exact strs_one _
                  case d4 => simp only [maxLen]; omega
                  case d5 => omega
                  case d6 => exact HB4.out.size
                  intro v5 w5 ho5 hg5 hn5 hat5
                  clear hext hfrw hcell0 hne3 hx2 hx' hQn; generalize hLL0 : List.length x + N = M at ho5 hn5 hat5 ⊢
                  have hLL : List.length x + N = M := hLL0
                  have hpp : 0 < M := by omega
                  obtain ⟨g5, c5, rfl, hg51, hg52, hc5, hm5⟩ := own_form ho5 hpp
                  have ho5' : w5.ownsRow w.heap.size 9 1 (.slice (some ⟨g5, 0, none⟩) M c5) (List.length x + List.length (t0 :: xs)) (strs x ++ strs (t0 :: xs)) := by rw [HYY.out, hLL]; exact ho5
                  have HQ := aside (HP4.out.grow ho5' hg5 (hat5.imp id fun e => e.trans (by first | rfl | simp)))
                  obtain ⟨hcell5, hfr5⟩ := HP4.out.kept hg5
                  have HB5 := aside ((HB4.out.grown hg5 HB4.out.size (fun k hk => (own_lt HLA.out hk).1)).setCell (p := ⟨g, List.length Q * 2 + 1, none⟩) hg1 (.slice (some ⟨g5, 0, none⟩) M c5))
                  clear ho5 ho5' hg5 hn5 hat5 hcl
                  simp only [maxLen] at hm5
                  by_cases h64 : 64 < M
                  · have h64' : (64 : Int) < ((M : Nat) : Int) := by omega
                    have HRR := aside (show R = ([], (n : Int), 7) by
                      have hr := HR.out
                      rw [HSX.out, hLL, if_pos h64] at hr
                      rw [← hr]
                      rfl)
                    clear h64
                    go_wp2
                    go_ret3
                    rw [HRR.out]
                    exact ⟨_, [], rfl, LOwn.nil _ _, rfl, HB5.out⟩
                  · have h64' : ¬ (64 : Int) < ((M : Nat) : Int) := by omega
                    have HRR := aside (show lexFold (n + 1) (said Q ++ [(a, x ++ (t0 :: xs))]) (linesOf (post t 10)) = R by
                      have hr := HR.out
                      rw [HSX.out, hLL, if_neg h64] at hr
                      simpa using hr)
                    have HXY := aside (show (x ++ (t0 :: xs)).length ≤ 64 by rw [List.length_append, HYY.out]; omega)
                    clear h64
                    go_wp2
                    go_roundw
                    case rel =>
                      refine ⟨post t 10, n + 1, Q ++ [(a, x ++ (t0 :: xs), .slice (some ⟨g5, 0, none⟩) M c5)], rfl, by go_num, ⟨HQ.out, HB5.out, by rw [said_snoc]; exact HRR.out, by omega, by omega, by rw [List.length_append]; exact hQc, ?_⟩⟩
                      intro p hp
                      rcases List.mem_append.1 hp with hp | hp
                      · exact hfew.out p hp
                      · rw [List.mem_singleton] at hp
                        subst hp
                        exact ⟨by rw [List.length_append, HYY.out, hLL]; exact hpp, HXY.out⟩
                    case measure => exact hpo
            · have hx : ¬ (((bs (c0 :: t0))[0]'hs0).toNat : Int) = 43 := by
                intro h
                apply hb
                rw [← UInt8.toNat_inj]
                have h2 : (c0.toNat : Int) = 43 := h
                show c0.toNat = 43
                omega
              have hx' : ((((bs (c0 :: t0))[0]'hs0).toNat : Int) != 43) = true := bne_iff_ne.2 hx
              have hx2 : ((((bs (c0 :: t0))[0]'hs0).toNat : Int) == 43) = false := beq_eq_false_iff_ne.2 hx
              clear hx
              have HS2 := aside (HS.out.trans (stepWords_new _ _ _ _ _ hb))
              have HO1 := aside (H'.out.own.below HB3.out).row
              have hcnt := H'.out.count
              have hbs := HB3.out.size
              have hbs2 := H'.out.below.size
              go_wp2_with (at_builtin; refine wpList_append_own_at _ rfl (.tmp 37) (.tmp 40) 23 rfl w.heap.size 32 iL _ 2 32 Tryd.underlying23 hiL hL0 hL1 hL2 rfl (by decide) u5 P.length (cellsOf P) rfl (HO1.out.alloc _) ⟨w3.heap.size, 0, none⟩ 1 1 [.int .i64 n, .slice none 0 0] rfl rfl ?c1 ?c2 ?c3 ?c4 ?c5 ?_)
              case c1 => exact cell_two _ _ _ _
              case c2 =>
                intro u hu
                simp only [List.mem_cons, List.mem_nil_iff, or_false] at hu
                rcases hu with rfl | rfl <;> rfl
              case c3 => simp only [maxLen]; omega
              case c4 => omega
              case c5 => simp; omega
              intro v1 w4 ho4 hg4 hn4 hat4
              obtain ⟨g, cap, rfl, hg1, hg2, hcap, hcapm⟩ := own_form ho4 (by omega)
              have HP4 := aside (LOwn.push ((H'.out.own.below HB3.out).alloc (.cells #[.int .i64 n, .slice none 0 0] 32)) n ho4 hg4)
              have HOW := aside (own_grown (HO.out.alloc (.cells #[.int .i64 n, .slice none 0 0] 32)) hg4 (by
                have := own_ne HO.out HO1.out (by decide)
                simpa [Value.ownBlock] using this))
              have HNW := aside (HOW.out.cells (g := gw) rfl)
              have HB4 := aside ((((H'.out.below.trans (HB3.out.mono hbs2)).alloc (by omega) (.cells #[.int .i64 n, .slice none 0 0] 32))).grown hg4 (by simp; omega) (fun k hk => (own_lt HO1.out hk).1))
              clear hg4 ho4 hat4 hn4
              simp only [maxLen] at hcapm
              have HSX := aside (show lexStep n (said P) (pre t 10) = if 64 < List.length ([] : List (List UInt8)) + N then (7, []) else (0, said P ++ [(n, [] ++ ((c0 :: t0) :: xs))]) by rw [HS2.out, HNN.out]; simp)
              have HYY := aside HNN.out
              have hxx : List.length ([] : List (List UInt8)) ≤ 64 := Nat.zero_le _
              have hfew := aside (show ∀ p ∈ P, 0 < p.2.1.length ∧ p.2.1.length ≤ 64 from H'.out.few)
              have hQc : P.length + 1 ≤ n + 1 := by omega
              have hlast := HP4.out.last
              have hcl := hlast.1
              have HLA := aside hlast.2.2
              clear hlast
              go_wp2_with (at_builtin; refine wpList_append_own_at _ rfl (.tmp 67) (.tmp 68) 30 rfl w.heap.size 9 iS _ 1 16 Tryd.underlying30 hiS hS0 hS1 hS2 rfl (by decide) (.slice none 0 0) (List.length ([] : List (List UInt8))) (strs ([] : List (List UInt8))) rfl HLA.out ⟨gw, 0, none⟩ N cw (strs ((c0 :: t0) :: xs)) rfl ?d1 ?d2 ?d3 ?d4 ?d5 ?d6 ?_)
              case d1 => first | (rw [strs_length, HYY.out]; omega) | (rw [strs_length, HYY.out])
              case d2 => exact HNW.out
              case d3 => exact strs_one _
              case d4 => simp only [maxLen]; omega
              case d5 => omega
              case d6 => exact HB4.out.size
              intro v5 w5 ho5 hg5 hn5 hat5
              skip
              have hLL : List.length ([] : List (List UInt8)) + N = N := by simp
              have hpp : 0 < N := by omega
              obtain ⟨g5, c5, rfl, hg51, hg52, hc5, hm5⟩ := own_form ho5 hpp
              have ho5' : w5.ownsRow w.heap.size 9 1 (.slice (some ⟨g5, 0, none⟩) N c5) (List.length ([] : List (List UInt8)) + List.length ((c0 :: t0) :: xs)) (strs ([] : List (List UInt8)) ++ strs ((c0 :: t0) :: xs)) := by rw [HYY.out, hLL]; exact ho5
              have HQ := aside (HP4.out.grow ho5' hg5 (hat5.imp id fun e => e.trans (by first | rfl | simp)))
              obtain ⟨hcell5, hfr5⟩ := HP4.out.kept hg5
              have HB5 := aside ((HB4.out.grown hg5 HB4.out.size (fun k hk => (own_lt HLA.out hk).1)).setCell (p := ⟨g, List.length P * 2 + 1, none⟩) hg1 (.slice (some ⟨g5, 0, none⟩) N c5))
              clear ho5 ho5' hg5 hn5 hat5 hcl
              simp only [maxLen] at hm5
              by_cases h64 : 64 < N
              · have h64' : (64 : Int) < ((N : Nat) : Int) := by omega
                have HRR := aside (show R = ([], (n : Int), 7) by
                  have hr := HR.out
                  rw [HSX.out, hLL, if_pos h64] at hr
                  rw [← hr]
                  rfl)
                clear h64
                go_wp2
                go_ret3
                rw [HRR.out]
                exact ⟨_, [], rfl, LOwn.nil _ _, rfl, HB5.out⟩
              · have h64' : ¬ (64 : Int) < ((N : Nat) : Int) := by omega
                have HRR := aside (show lexFold (n + 1) (said P ++ [(n, ([] : List (List UInt8)) ++ ((c0 :: t0) :: xs))]) (linesOf (post t 10)) = R by
                  have hr := HR.out
                  rw [HSX.out, hLL, if_neg h64] at hr
                  simpa using hr)
                have HXY := aside (show (([] : List (List UInt8)) ++ ((c0 :: t0) :: xs)).length ≤ 64 by rw [List.length_append, HYY.out]; omega)
                clear h64
                go_wp2
                go_roundw
                case rel =>
                  refine ⟨post t 10, n + 1, P ++ [(n, ([] : List (List UInt8)) ++ ((c0 :: t0) :: xs), .slice (some ⟨g5, 0, none⟩) N c5)], rfl, by go_num, ⟨HQ.out, HB5.out, by rw [said_snoc]; exact HRR.out, by omega, by omega, by rw [List.length_append]; exact hQc, ?_⟩⟩
                  intro p hp
                  rcases List.mem_append.1 hp with hp | hp
                  · exact hfew.out p hp
                  · rw [List.mem_singleton] at hp
                    subst hp
                    exact ⟨by rw [List.length_append, HYY.out, hLL]; exact hpp, HXY.out⟩
                case measure => exact hpo
        · have hc' : cleanL (pre t 10) = false := by simpa using hc
          have HRR := aside (show R = ([], (n : Int), 60) by
            have hr := HR.out
            rw [lexStep, if_neg hc] at hr
            rw [← hr]
            rfl)
          rw [hc'] at HL
          clear hc hc'
          go_wp2_with fail
          refine (HL.out _).mono ?_
          rintro e w2 ⟨rfl, hb2⟩
          have HB2 := aside (below_of_drewN hb2)
          clear hb2
          go_wp2
          go_ret3
          rw [HRR.out]
          exact ⟨_, [], rfl, LOwn.nil _ _, rfl, H'.out.below.trans (HB2.out.mono H'.out.below.size)⟩
end Go.Proofs.YtppmamcoehhopaaDoor.LexF
