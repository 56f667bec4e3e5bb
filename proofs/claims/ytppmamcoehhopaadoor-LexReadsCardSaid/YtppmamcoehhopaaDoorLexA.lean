/- The walks of lex's small functions: blank, clean. -/
import Derived.Test.YtppmamcoehhopaaDoorBase
namespace Go.Proofs.YtppmamcoehhopaaDoor.LexA
open Go.RowKit Go.Proofs.YtppmamcoehhopaaDoor.Base
set_option linter.unusedVariables false
set_option linter.unusedSimpArgs false

/-- lex.blank. -/
def blankI (r : Int) : Bool := r == 9 || r == 13 || r == 32

theorem blank_any (r : Int) (w : World) :
    Calls Tryd.prog 22 #[.int .i32 r] w fun e w' => e = .returned (.bool (blankI r)) ∧ w' = w := by
  unfold blankI
  by_cases h1 : r = 9
  · have c1 : (r == 9) = true := beq_iff_eq.mpr h1
    clear h1
    go_enter Tryd.func22, Tryd.ntmps22
    go_wp2
    go_ret
    simp [c1]
  · have c1 : (r == 9) = false := beq_eq_false_iff_ne.mpr h1
    by_cases h2 : r = 13
    · have c2 : (r == 13) = true := beq_iff_eq.mpr h2
      clear h1 h2
      go_enter Tryd.func22, Tryd.ntmps22
      go_wp2
      go_ret
      simp [c1, c2]
    · have c2 : (r == 13) = false := beq_eq_false_iff_ne.mpr h2
      clear h1 h2
      go_enter Tryd.func22, Tryd.ntmps22
      go_wp2
      go_ret
      simp [c1, c2]

/-- A byte that may stand in a line. -/
def okB (b : UInt8) : Bool := b == 9 || b == 13 || (32 ≤ b && b ≤ 126)
def cleanL (l : List UInt8) : Bool := l.all okB

theorem cleanL_take (l : List UInt8) (k : Nat) (h : k < l.length) (h1 : cleanL (l.take k) = true) : cleanL (l.take (k + 1)) = okB (l.getD k 0) := by
  unfold cleanL at *
  rw [List.take_succ_eq_append_getElem h, List.all_append, h1]
  simp [List.getD, h]
theorem cleanL_false (l : List UInt8) (k : Nat) (h : k < l.length) (h1 : okB (l.getD k 0) = false) : cleanL l = false := by
  unfold cleanL
  rw [List.all_eq_false]
  refine ⟨l[k], List.getElem_mem h, ?_⟩
  simpa [List.getD, h] using h1
theorem okB_iff (b : UInt8) : okB b = true ↔ ((b.toNat : Int) = 9 ∨ (b.toNat : Int) = 13 ∨ (32 ≤ (b.toNat : Int) ∧ (b.toNat : Int) ≤ 126)) := by
  unfold okB
  simp [UInt8.le_iff_toNat_le, ← UInt8.toNat_inj]
  omega

set_option maxHeartbeats 1000000 in
theorem clean_any (s : ByteArray) (w : World) (hs : s.size ≤ 65536) :
    Calls Tryd.prog 15 #[.string s] w fun e w' => e = .returned (.bool (cleanL s.data.toList)) ∧ Below w.heap.size w w' := by
  have hconv := fun w : World => Lib.run_convert_string_bytes (P := Tryd.prog) w 9 35 5 s Tryd.underlying9 Tryd.underlying35 Tryd.underlying5
  have hB : Below w.heap.size w (Lib.bytesWorld w 5 s) := ⟨rfl, rfl, rfl, by rw [Lib.bytesWorld_size]; omega, fun k hk => Lib.bytesWorld_at_old w _ s k hk⟩
  have hcell := Lib.bytesWorld_cell w 5 s
  have HB := aside hB
  have HC := aside hcell
  clear hB hcell
  go_enter Tryd.func15, Tryd.ntmps15
  go_wp2
  generalize Lib.bytesWorld w 5 s = W at *
  go_loop [8] (fun i => ∃ k : Nat, k ≤ s.size ∧ i = .int .i64 k ∧ As (cleanL (s.data.toList.take k) = true)) (fun i => s.size - (intOf i).toNat)
  case atStart => exact ⟨0, Nat.zero_le _, rfl, ⟨rfl⟩⟩
  case round =>
    obtain ⟨k, hk, rfl, hcl⟩ := hrel
    by_cases hlt : k < s.size
    · have hlt' : k < s.data.toList.length := by simpa using hlt
      have hc := HC.out k hlt
      by_cases hok : okB (s.data.toList.getD k 0) = true
      · have hn := cleanL_take _ k hlt' hcl.out
        rw [hok] at hn
        have HN := aside hn
        clear hn
        rw [okB_iff] at hok
        generalize hb : ((s.data.toList.getD k 0).toNat : Int) = c at *
        clear hb
        rcases hok with h | h | h
        · have c1 : (c == 9) = true := beq_iff_eq.2 h
          have c2 : (c != 9) = false := by simp [h]
          clear h
          go_wp2
          go_round
          case rel => exact ⟨k + 1, by omega, by go_num, HN⟩
          case measure => simp [intOf]; omega
        · have c1 : (c == 13) = true := beq_iff_eq.2 h
          have c2 : (c != 13) = false := by simp [h]
          have c3 : (c != 9) = true := by simp [h]
          clear h
          go_wp2
          go_round
          case rel => exact ⟨k + 1, by omega, by go_num, HN⟩
          case measure => simp [intOf]; omega
        · have c4 : decide (c < 32) = false := by simp; omega
          have c5 : decide (126 < c) = false := by simp; omega
          have c3 : (c != 9) = true := by simp; omega
          have c2 : (c != 13) = true := by simp; omega
          clear h
          go_wp2
          go_round
          case rel => exact ⟨k + 1, by omega, by go_num, HN⟩
          case measure => simp [intOf]; omega
      · have hn := cleanL_false _ k hlt' (by simpa using hok)
        have HN := aside hn
        clear hn
        rw [okB_iff] at hok
        generalize hb : ((s.data.toList.getD k 0).toNat : Int) = c at *
        clear hb
        have c3 : (c != 9) = true := by simp; omega
        have c2 : (c != 13) = true := by simp; omega
        by_cases h : c < 32
        · have c4 : decide (c < 32) = true := by simp; omega
          clear hok h
          go_wp2
          go_ret
          exact ⟨ret_bool HN.out.symm, HB.out⟩
        · have c4 : decide (c < 32) = false := by simp; omega
          have c5 : decide (126 < c) = true := by simp; omega
          clear hok h
          go_wp2
          go_ret
          exact ⟨ret_bool HN.out.symm, HB.out⟩
    · obtain rfl : k = s.size := by omega
      have h := hcl.out
      rw [List.take_of_length_le (by simp)] at h
      have HN := aside h
      clear h hcl
      go_wp2
      go_ret
      exact ⟨ret_bool HN.out.symm, HB.out⟩
end Go.Proofs.YtppmamcoehhopaaDoor.LexA
