/- The walk of LexCase. -/
import Derived.Test.YtppmamcoehhopaaDoorLexH
import Derived.Test.YtppmamcoehhopaaDoorLexP
import Derived.Laws.IdiomStrings
namespace Go.Proofs.YtppmamcoehhopaaDoor.LexQ
open Go.RowKit Go.Proofs.YtppmamcoehhopaaDoor.Base Go.Proofs.YtppmamcoehhopaaDoor.LexB Go.Proofs.YtppmamcoehhopaaDoor.LexM Go.Proofs.YtppmamcoehhopaaDoor.LexD Go.Proofs.YtppmamcoehhopaaDoor.LexF Go.Proofs.YtppmamcoehhopaaDoor.LexG Go.Proofs.YtppmamcoehhopaaDoor.LexH Go.Proofs.YtppmamcoehhopaaDoor.LexP
open Go.Proofs.YtppmamcoehhopaaDoor.LexE hiding W
set_option linter.unusedVariables false
set_option linter.unusedSimpArgs false

/-- The first k bytes are turned, the others are not yet. -/
def mixB (l : List UInt8) (k j : Nat) : UInt8 := if j < k then turnB (l.getD j 0) else l.getD j 0
structure Mix (w wr : World) (b : Nat) (l : List UInt8) (k : Nat) : Prop where
  below : Below w.heap.size w wr
  blk : w.heap.size ≤ b
  lt : b < wr.heap.size
  cell : ∀ j, j < l.length → wr.cell? ⟨b, j, none⟩ = some (.int .u8 ((mixB l k j).toNat : Int))
  free : ∀ j, j < l.length → wr.frozen? ⟨b, j, none⟩ = false

theorem mixB_at (l : List UInt8) (k : Nat) : mixB l k k = l.getD k 0 := by simp [mixB]
theorem mixB_far (l : List UInt8) (k j : Nat) (h : j ≠ k) : mixB l (k + 1) j = mixB l k j := by
  unfold mixB
  by_cases h1 : j < k
  · rw [if_pos h1, if_pos (by omega)]
  · rw [if_neg h1, if_neg (by omega)]
theorem Mix.stored {w wr : World} {b : Nat} {l : List UInt8} {k : Nat} (h : Mix w wr b l k) (hk : k < l.length) (x : Int) (hx : x = ((turnB (l.getD k 0)).toNat : Int)) : Mix w (wr.setCell ⟨b, k, none⟩ (.int .u8 x)) b l (k + 1) := by
  subst hx
  refine ⟨h.below.setCell h.blk _, h.blk, by simpa using h.lt, ?_, ?_⟩
  · intro j hj
    by_cases e : j = k
    · subst e
      rw [World.cell?_setCell_same _ _ _ (h.cell j hj)]
      simp [mixB]
    · rw [World.cell?_setCell_other _ _ _ _ (by simp <;> omega), h.cell j hj, mixB_far l k j e]
  · intro j hj
    rw [World.frozen?_setCell]
    exact h.free j hj
theorem Mix.kept {w wr : World} {b : Nat} {l : List UInt8} {k : Nat} (h : Mix w wr b l k) (hk : k < l.length) (hx : turnB (l.getD k 0) = l.getD k 0) : Mix w wr b l (k + 1) := by
  refine ⟨h.below, h.blk, h.lt, ?_, h.free⟩
  intro j hj
  rw [h.cell j hj]
  by_cases e : j = k
  · subst e
    rw [mixB_at]
    unfold mixB
    rw [if_pos (by omega), hx]
  · rw [mixB_far l k j e]
theorem turn_small (b : UInt8) (h : 97 ≤ b.toNat ∧ b.toNat ≤ 122) : (b.toNat : Int) - 32 = ((turnB b).toNat : Int) := by
  have := all_bytes (fun b => !(decide (97 ≤ b.toNat) && decide (b.toNat ≤ 122)) || decide ((b.toNat : Int) - 32 = ((turnB b).toNat : Int))) (by decide +kernel) b
  simp only [Bool.or_eq_true, Bool.not_eq_true', Bool.and_eq_false_iff, decide_eq_false_iff_not, decide_eq_true_eq] at this
  omega
theorem turn_blank (b : UInt8) (h : b.toNat = 32) : (9 : Int) = ((turnB b).toNat : Int) := by
  have := all_bytes (fun b => !(decide (b.toNat = 32)) || decide ((9 : Int) = ((turnB b).toNat : Int))) (by decide +kernel) b
  simp only [Bool.or_eq_true, Bool.not_eq_true', decide_eq_false_iff_not, decide_eq_true_eq] at this
  omega
theorem turn_else (b : UInt8) (h : ¬ (97 ≤ b.toNat ∧ b.toNat ≤ 122)) (h2 : ¬ b.toNat = 32) : turnB b = b := by
  have := all_bytes (fun b => (decide (97 ≤ b.toNat) && decide (b.toNat ≤ 122)) || decide (b.toNat = 32) || turnB b == b) (by decide +kernel) b
  simp only [Bool.or_eq_true, Bool.and_eq_true, decide_eq_true_eq, beq_iff_eq] at this
  rcases this with (this | this) | this
  · exact absurd this h
  · exact absurd this h2
  · exact this

set_option maxHeartbeats 4000000 in
set_option maxRecDepth 100000 in
theorem case_any (s : ByteArray) (w : World) (hs : s.size ≤ 140737488351232) :
    Calls Tryd.prog 6 #[.string s] w fun e w' => e = .returned (.bool true) ∧ Below w.heap.size w w' := by
  have hconv := fun w : World => Lib.run_convert_string_bytes (P := Tryd.prog) w 9 35 5 s Tryd.underlying9 Tryd.underlying35 Tryd.underlying5
  have hsize : s.size = s.data.toList.length := rfl
  generalize hl : s.data.toList = l at *
  have HL := aside hl
  clear hl
  go_enter Tryd.func6, Tryd.ntmps6
  go_wp2_with fail
  refine (awake_any _).mono ?_
  rintro e w1 ⟨rfl, hb1⟩
  have HB1 := aside hb1
  have hM : Mix w (Lib.bytesWorld w1 5 s) w1.heap.size l 0 := by
    refine ⟨hb1.trans ⟨rfl, rfl, rfl, by rw [Lib.bytesWorld_size]; omega, fun k hk => Lib.bytesWorld_at_old w1 _ s k (Nat.lt_of_lt_of_le hk hb1.size)⟩, hb1.size, by rw [Lib.bytesWorld_size]; omega, ?_, ?_⟩
    · intro j hj
      rw [Lib.bytesWorld_cell w1 5 s j (by omega), HL.out]
      rfl
    · intro j hj
      unfold World.frozen?
      rw [Lib.bytesWorld_at_new]
      have h1 : s.size ≤ (Lib.bytesCells w1 5 s).size := by
        unfold Lib.bytesCells
        simp

      simp
      omega
  have HM := aside hM
  clear hb1 hM
  go_wp2_with fail
  generalize Lib.bytesWorld w1 5 s = W0 at *
  generalize w1.heap.size = b at *
  go_loopw [17] (fun i wr => ∃ k : Nat, k ≤ s.size ∧ i = .int .i64 k ∧ As (Mix w wr b l k)) (fun i _ => s.size - (intOf i).toNat)
  case atStart => exact ⟨0, Nat.zero_le _, rfl, HM⟩
  case round =>
    obtain ⟨k, hk, rfl, HK⟩ := hrel
    clear HM
    by_cases hlt : k < s.size
    · have hkl : k < l.length := by omega
      have hc := HK.out.cell k hkl
      rw [mixB_at] at hc
      have hf := HK.out.free k hkl
      have ht1 := turn_small (l.getD k 0)
      have ht2 := turn_blank (l.getD k 0)
      have ht3 := turn_else (l.getD k 0)
      have hst := fun x h => HK.out.stored hkl x h
      have hkp := HK.out.kept hkl
      have hc0 : (0 : Int) ≤ ((l.getD k 0).toNat : Int) := by omega
      have hc1 : ((l.getD k 0).toNat : Int) ≤ 255 := by have := (l.getD k 0).toNat_lt; omega
      by_cases h1 : 97 ≤ (l.getD k 0).toNat ∧ (l.getD k 0).toNat ≤ 122
      · have HX := aside (hst _ (ht1 h1))
        have d1 : (97 : Int) ≤ ((l.getD k 0).toNat : Int) := by omega
        have d2 : ((l.getD k 0).toNat : Int) ≤ 122 := by omega
        clear ht1 ht2 ht3 hst hkp h1
        generalize ((l.getD k 0).toNat : Int) = c at *
        have hlt' : (k : Int) < (s.size : Int) := by omega
        go_wp2
        go_roundw
        case rel => exact ⟨k + 1, by omega, by go_num, HX⟩
        case measure => simp [intOf]; omega
      · by_cases h2 : (l.getD k 0).toNat = 32
        · have HX := aside (hst _ (ht2 h2))
          have d1 : ((l.getD k 0).toNat : Int) = 32 := by omega
          clear ht1 ht2 ht3 hst hkp h1 h2
          generalize ((l.getD k 0).toNat : Int) = c at *
          subst d1
          have hlt' : (k : Int) < (s.size : Int) := by omega
          go_wp2
          go_roundw
          case rel => exact ⟨k + 1, by omega, by go_num, HX⟩
          case measure => simp [intOf]; omega
        · have HX := aside (hkp (ht3 h1 h2))
          have d1 : ¬ ((l.getD k 0).toNat : Int) = 32 := by omega
          have d3 : ¬ ((97 : Int) ≤ ((l.getD k 0).toNat : Int) ∧ ((l.getD k 0).toNat : Int) ≤ 122) := by omega
          clear ht1 ht2 ht3 hst hkp h1 h2
          generalize ((l.getD k 0).toNat : Int) = c at *
          have d4 : (c == 32) = false := by simpa using d1
          have hlt' : (k : Int) < (s.size : Int) := by omega
          by_cases d5 : 97 ≤ c
          · have d6 : ¬ c ≤ 122 := by omega
            have d7 : decide (c ≤ 122) = false := by simpa using d6
            clear d3 d1
            go_wp2
            go_roundw
            case rel => exact ⟨k + 1, by omega, by go_num, HX⟩
            case measure => simp [intOf]; omega
          · have d7 : decide ((97 : Int) ≤ c) = false := by simpa using d5
            clear d3 d1
            go_wp2
            go_roundw
            case rel => exact ⟨k + 1, by omega, by go_num, HX⟩
            case measure => simp [intOf]; omega
    · obtain rfl : k = s.size := by omega
      have hsb : s = bs l := by rw [← HL.out]; rfl
      have HN := aside (fun w : World => (hsb ▸ lines_any l w : Calls Tryd.prog 9 #[.string s] w (LinesPost w (lexAll l))))
      have HN2 := aside (fun w : World => ((lexAll_turn l) ▸ lines_any (l.map turnB) w : Calls Tryd.prog 9 #[.string (bs (l.map turnB))] w (LinesPost w (lexAll l))))
      clear hsb hconv
      generalize lexAll l = R at *
      obtain ⟨R1, R2, R3⟩ := R
      go_wp2_with fail
      refine (HN.out wr).mono ?_
      rintro e w2 ⟨v, P, rfl, ho, hs2, hb2⟩
      have hback : ∀ cap : Nat, (convert 35 9 (.slice (some ⟨b, 0, none⟩) l.length cap)).run Tryd.prog w2 = .ok (.string (bs (l.map turnB))) w2 := by
        intro cap
        have := run_convert_bytes_back (P := Tryd.prog) w2 35 9 5 ⟨b, 0, none⟩ cap (l.map turnB) Tryd.underlying35 Tryd.underlying5 Tryd.underlying9 (by
          intro j hj
          rw [List.length_map] at hj
          have hc := HK.out.cell j hj
          have hlt2 := HK.out.lt
          have ha : (⟨b, 0, none⟩ : Addr).add j = ⟨b, j, none⟩ := by
            cases j <;> simp [Addr.add]
          rw [ha, World.cell?_of_block (w := wr) (hb2.block b hlt2), hc]
          simp [mixB, hsize, List.getD, List.getElem?_eq_getElem hj, hj])
        rw [List.length_map] at this
        exact this
      have HO := aside ho
      have HB2 := aside hb2
      have HS2 := aside hs2
      clear ho hb2 hs2
      go_wp2_with fail
      refine (HN2.out w2).mono ?_
      rintro e w3 ⟨v', P', rfl, ho, hs2, hb2⟩
      have HO' := aside ho
      have HB3 := aside hb2
      have HS3 := aside hs2
      have HQ := same_any (said P) (said P') v v' w3 (lown_reads (HO.out.below HB3.out)) (lown_reads HO'.out)
      rw [decide_eq_true (show said P = said P' from HS2.out.trans HS3.out.symm)] at HQ
      have HQ' := aside HQ
      clear ho hb2 hs2 hback HQ
      go_wp2_with fail
      refine HQ'.out.mono ?_
      rintro e w4 ⟨rfl, n, rfl⟩
      go_wp2
      go_ret
      exact ⟨by simp, below_drewN ((HK.out.below.trans (HB2.out.mono HK.out.below.size)).trans (HB3.out.mono (Nat.le_trans HK.out.below.size HB2.out.size))) _⟩
end Go.Proofs.YtppmamcoehhopaaDoor.LexQ
