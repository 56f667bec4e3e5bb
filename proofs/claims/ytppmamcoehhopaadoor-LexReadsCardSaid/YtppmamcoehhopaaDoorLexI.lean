/- The walks of the document's word and Words. -/
import Derived.Test.YtppmamcoehhopaaDoorLexD
import Derived.Test.YtppmamcoehhopaaDoorLexE
import Derived.Laws.IdiomStrings
namespace Go.Proofs.YtppmamcoehhopaaDoor.LexI
open Go.RowKit Go.Proofs.YtppmamcoehhopaaDoor.Base Go.Proofs.YtppmamcoehhopaaDoor.LexA Go.Proofs.YtppmamcoehhopaaDoor.LexB Go.Proofs.YtppmamcoehhopaaDoor.LexM Go.Proofs.YtppmamcoehhopaaDoor.LexC Go.Proofs.YtppmamcoehhopaaDoor.LexD
open Go.Proofs.YtppmamcoehhopaaDoor.LexE hiding W
set_option linter.unusedVariables false
set_option linter.unusedSimpArgs false

theorem rblank_any (r : Int) (w : World) :
    Calls Tryd.prog 17 #[.int .u8 r] w fun e w' => e = .returned (.bool (blankI r)) ∧ w' = w := by
  unfold blankI
  by_cases h1 : r = 9
  · have c1 : (r == 9) = true := beq_iff_eq.mpr h1
    clear h1
    go_enter Tryd.func17, Tryd.ntmps17
    go_wp2
    go_ret
    simp [c1]
  · have c1 : (r == 9) = false := beq_eq_false_iff_ne.mpr h1
    by_cases h2 : r = 13
    · have c2 : (r == 13) = true := beq_iff_eq.mpr h2
      clear h1 h2
      go_enter Tryd.func17, Tryd.ntmps17
      go_wp2
      go_ret
      simp [c1, c2]
    · have c2 : (r == 13) = false := beq_eq_false_iff_ne.mpr h2
      clear h1 h2
      go_enter Tryd.func17, Tryd.ntmps17
      go_wp2
      go_ret
      simp [c1, c2]

theorem infoU8 : (Tryd.prog.info? 5).map (fun i => (i.zero, i.size, i.bytes)) = some (some (.int .u8 0), 1, 1) := by kernel_rfl
def u8s (L : List UInt8) : List Value := L.map fun b => .int .u8 (b.toNat : Int)
theorem u8s_snoc (L : List UInt8) (k : Nat) (h : k < L.length) : u8s (L.take (k + 1)) = u8s (L.take k) ++ [.int .u8 ((L.getD k 0).toNat : Int)] := by
  rw [List.take_succ_eq_append_getElem h, getD_at L k h]
  unfold u8s
  rw [List.map_append]
  rfl
theorem lower_up (b : UInt8) (h : 65 ≤ b.toNat ∧ b.toNat ≤ 90) : (b.toNat : Int) + 32 = ((Lib.lowerB b).toNat : Int) := by
  have : Lib.isUpperB b = true := by
    unfold Lib.isUpperB
    simp [UInt8.le_iff_toNat_le]
    omega
  unfold Lib.lowerB
  rw [if_pos this, UInt8.toNat_add]
  simp
  omega
theorem lower_else (b : UInt8) (h : ¬ (65 ≤ b.toNat ∧ b.toNat ≤ 90)) : Lib.lowerB b = b := by
  have : Lib.isUpperB b = false := by
    unfold Lib.isUpperB
    simp [UInt8.le_iff_toNat_le]
    omega
  unfold Lib.lowerB
  rw [this]
  rfl

set_option maxHeartbeats 1000000 in
theorem word_any (l : List UInt8) (w : World) (hl : l.length ≤ 65536) (h0 : 0 < l.length) :
    Calls Tryd.prog 23 #[.string (bs l)] w fun e w' => e = .returned (.string (bs (l.map Lib.lowerB))) ∧ Below w.heap.size w w' := by
  obtain ⟨iS, hiS, hS⟩ := Option.map_eq_some_iff.1 infoU8
  simp only [Prod.mk.injEq] at hS
  obtain ⟨hS0, hS1, hS2⟩ := hS
  have hLl : (l.map Lib.lowerB).length = l.length := List.length_map _
  have hsz : (bs l).size = l.length := rfl
  have HL := aside hLl
  clear hLl
  go_enter Tryd.func23, Tryd.ntmps23
  go_wp2
  go_loopw [3, 4] (fun b i wr => ∃ k : Nat, k ≤ l.length ∧ i = .int .i64 k ∧ As (wr.ownsRow w.heap.size 5 1 b k (u8s ((l.map Lib.lowerB).take k))) ∧ As (Below w.heap.size w wr)) (fun _ i _ => l.length - (intOf i).toNat)
  case atStart => exact ⟨0, Nat.zero_le _, rfl, ⟨World.ownsRow_nil _ _ _ _⟩, ⟨Below.refl _ _⟩⟩
  case round =>
    obtain ⟨k, hk, rfl, HO, HB⟩ := hrel
    by_cases hlt : k < l.length
    · have hk2 : k < (bs l).size := hlt
      have hsn := u8s_snoc (l.map Lib.lowerB) k (by rw [HL.out]; exact hlt)
      have hgd : (l.map Lib.lowerB).getD k 0 = Lib.lowerB (l.getD k 0) := by
        rw [getD_at _ k (by rw [HL.out]; exact hlt), getD_at l k hlt]
        simp
      rw [hgd] at hsn
      have hby : (((bs l)[k]'hk2).toNat : Int) = ((l.getD k 0).toNat : Int) := by
        rw [getD_at l k hlt]
        rfl
      have hbs := HB.out.size
      have hc0 : (0 : Int) ≤ ((l.getD k 0).toNat : Int) := by omega
      have hc1 : ((l.getD k 0).toNat : Int) ≤ 255 := by have := (l.getD k 0).toNat_lt; omega
      by_cases hu : 65 ≤ (l.getD k 0).toNat ∧ (l.getD k 0).toNat ≤ 90
      · have hv := lower_up _ hu
        rw [← hv] at hsn
        have HS := aside hsn
        have d1 : (65 : Int) ≤ ((l.getD k 0).toNat : Int) := by omega
        have d2 : ((l.getD k 0).toNat : Int) ≤ 90 := by omega
        clear hsn hgd hv hu
        generalize ((l.getD k 0).toNat : Int) = c at *
        go_wp2_with (at_builtin; refine wpList_append_own_at _ rfl _ _ 35 rfl w.heap.size 5 iS _ 1 1 Tryd.underlying35 hiS hS0 hS1 hS2 rfl (by decide) _ k (u8s ((l.map Lib.lowerB).take k)) rfl (HO.out.alloc _) ⟨wr.heap.size, 0, none⟩ 1 1 [.int .u8 (c + 32)] rfl rfl ?c1 ?c2 ?c3 ?c4 ?c5 ?_)
        case c1 =>
          intro j u hj
          match j, hj with
          | 0, hj =>
            simp at hj
            subst hj
            simp [Addr.add]
        case c2 =>
          intro u hu
          simp only [List.mem_cons, List.mem_nil_iff, or_false] at hu
          subst hu
          rfl
        case c3 => simp only [maxLen]; omega
        case c4 => omega
        case c5 => simp; omega
        intro v1 w4 ho4 hg4 hn4 hat4
        have HO4 := aside (show w4.ownsRow w.heap.size 5 1 v1 (k + 1) (u8s ((l.map Lib.lowerB).take (k + 1))) by rw [HS.out]; exact ho4)
        have HB4 := aside ((HB.out.alloc hbs _).grown hg4 (by simp; omega) (fun k hk => (own_lt HO.out hk).1))
        clear ho4 hg4 hn4 hat4
        go_wp2
        go_roundw
        case rel => exact ⟨k + 1, by omega, by go_num, HO4, HB4⟩
        case measure => simp [intOf]; omega
      · have hv := lower_else _ hu
        rw [hv] at hsn
        have HS := aside hsn
        have d0 : ¬ ((65 : Int) ≤ ((l.getD k 0).toNat : Int) ∧ ((l.getD k 0).toNat : Int) ≤ 90) := by omega
        clear hsn hgd hv hu
        generalize ((l.getD k 0).toNat : Int) = c at *
        by_cases d1 : (65 : Int) ≤ c
        · have d2 : decide (c ≤ 90) = false := by simp; omega
          clear d0
          go_wp2_with (at_builtin; refine wpList_append_own_at _ rfl _ _ 35 rfl w.heap.size 5 iS _ 1 1 Tryd.underlying35 hiS hS0 hS1 hS2 rfl (by decide) _ k (u8s ((l.map Lib.lowerB).take k)) rfl (HO.out.alloc _) ⟨wr.heap.size, 0, none⟩ 1 1 [.int .u8 c] rfl rfl ?c1 ?c2 ?c3 ?c4 ?c5 ?_)
          case c1 =>
            intro j u hj
            match j, hj with
            | 0, hj =>
              simp at hj
              subst hj
              simp [Addr.add]
          case c2 =>
            intro u hu
            simp only [List.mem_cons, List.mem_nil_iff, or_false] at hu
            subst hu
            rfl
          case c3 => simp only [maxLen]; omega
          case c4 => omega
          case c5 => simp; omega
          intro v1 w4 ho4 hg4 hn4 hat4
          have HO4 := aside (show w4.ownsRow w.heap.size 5 1 v1 (k + 1) (u8s ((l.map Lib.lowerB).take (k + 1))) by rw [HS.out]; exact ho4)
          have HB4 := aside ((HB.out.alloc hbs _).grown hg4 (by simp; omega) (fun k hk => (own_lt HO.out hk).1))
          clear ho4 hg4 hn4 hat4
          go_wp2
          go_roundw
          case rel => exact ⟨k + 1, by omega, by go_num, HO4, HB4⟩
          case measure => simp [intOf]; omega
        · have d2 : decide ((65 : Int) ≤ c) = false := by simp; omega
          clear d0
          go_wp2_with (at_builtin; refine wpList_append_own_at _ rfl _ _ 35 rfl w.heap.size 5 iS _ 1 1 Tryd.underlying35 hiS hS0 hS1 hS2 rfl (by decide) _ k (u8s ((l.map Lib.lowerB).take k)) rfl (HO.out.alloc _) ⟨wr.heap.size, 0, none⟩ 1 1 [.int .u8 c] rfl rfl ?c1 ?c2 ?c3 ?c4 ?c5 ?_)
          case c2 => rfl
          case c3 => first | (simp only [maxLen]; omega) | omega
          case c4 => omega
          case c5 => first | (simp; omega) | omega
          intro v1 w4 ho4 hg4 hn4 hat4
          have HO4 := aside (show w4.ownsRow w.heap.size 5 1 v1 (k + 1) (u8s ((l.map Lib.lowerB).take (k + 1))) by rw [HS.out]; exact ho4)
          have HB4 := aside ((HB.out.alloc hbs _).grown hg4 (by simp; omega) (fun k hk => (own_lt HO.out hk).1))
          clear ho4 hg4 hn4 hat4
          go_wp2
          go_roundw
          case rel => exact ⟨k + 1, by omega, by go_num, HO4, HB4⟩
          case measure => simp [intOf]; omega
    · obtain rfl : k = l.length := by omega
      have ho := HO.out
      rw [List.take_of_length_le (by rw [HL.out]; exact Nat.le_refl _)] at ho
      obtain ⟨g, cap, rfl, hg1, hg2, hc1, hc2⟩ := own_form ho h0
      have hback := run_convert_bytes_back (P := Tryd.prog) wr 35 9 5 ⟨g, 0, none⟩ cap (l.map Lib.lowerB) Tryd.underlying35 Tryd.underlying5 Tryd.underlying9 (by
        intro j hj
        have := ho.cellAt j (by rw [HL.out] at hj; omega)
        have ha : (⟨g, 0, none⟩ : Addr).add j = ⟨g, j, none⟩ := by cases j <;> simp [Addr.add]
        rw [ha, this]
        rw [List.length_map] at hj
        simp [u8s, hj])
      rw [HL.out] at hback
      clear ho
      go_wp2
      go_ret
      exact ⟨rfl, HB.out⟩
end Go.Proofs.YtppmamcoehhopaaDoor.LexI
