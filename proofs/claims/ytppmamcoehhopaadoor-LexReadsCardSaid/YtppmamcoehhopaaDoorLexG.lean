/- The reference's Texts and Same, walked. -/
import Derived.Test.YtppmamcoehhopaaDoorLexD
import Derived.Test.YtppmamcoehhopaaDoorLexE
namespace Go.Proofs.YtppmamcoehhopaaDoor.LexG
open Go.RowKit Go.Proofs.YtppmamcoehhopaaDoor.Base Go.Proofs.YtppmamcoehhopaaDoor.LexB Go.Proofs.YtppmamcoehhopaaDoor.LexM
open Go.Proofs.YtppmamcoehhopaaDoor.LexE (LL)
set_option linter.unusedVariables false
set_option linter.unusedSimpArgs false

/-- A slice reads as texts. -/
def RdStrs (w : World) (v : Value) (L : List (List UInt8)) : Prop :=
  ∃ A c, v = .slice A L.length c ∧ L.length ≤ maxLen ∧ (0 < L.length → ∃ b o, A = some ⟨b, o, none⟩ ∧ ∀ j, j < L.length → w.cell? ⟨b, o + j, none⟩ = some (.string (bs (L.getD j []))))
/-- A slice reads as lines. -/
def RdLines (w : World) (v : Value) (L : LL) : Prop :=
  ∃ A c, v = .slice A L.length c ∧ L.length ≤ maxLen ∧ (0 < L.length → ∃ b o, A = some ⟨b, o, none⟩ ∧ ∀ j, j < L.length → w.cell? ⟨b, o + j * 2, none⟩ = some (.int .i64 (L.getD j (0, [])).1) ∧
    ∃ u, w.cell? ⟨b, o + j * 2 + 1, none⟩ = some u ∧ RdStrs w u (L.getD j (0, [])).2)

theorem take_getD {α : Type} (d : α) (L M : List α) (k : Nat) (hl : k < L.length) (hm : k < M.length) (h : L.take k = M.take k) : (L.take (k + 1) = M.take (k + 1) ↔ L.getD k d = M.getD k d) := by
  have e1 : L.take (k + 1) = L.take k ++ [L[k]] := List.take_succ_eq_append_getElem hl
  have e2 : M.take (k + 1) = M.take k ++ [M[k]] := List.take_succ_eq_append_getElem hm
  rw [e1, e2, h]
  have d1 : L.getD k d = L[k] := by simp [List.getD, List.getElem?_eq_getElem hl]
  have d2 : M.getD k d = M[k] := by simp [List.getD, List.getElem?_eq_getElem hm]
  rw [d1, d2]
  constructor
  · intro h
    have := List.append_cancel_left h
    injection this
  · intro h
    rw [h]
theorem bs_inj {a b : List UInt8} : bs a = bs b ↔ a = b := by
  constructor
  · intro h
    have := congrArg (fun s : ByteArray => s.data.toList) h
    simpa [bs] using this
  · rintro rfl; rfl

theorem bs_toList (l : List UInt8) : (bs l).toList = l := by rw [ByteArray.toList_eq]; rfl

theorem texts_any (L M : List (List UInt8)) (a b : Value) (w : World) (ha : RdStrs w a L) (hb : RdStrs w b M) :
    Calls Tryd.prog 12 #[a, b] w fun e w' => e = .returned (.bool (decide (L = M))) ∧ ∃ n, w' = w.drewN n := by
  obtain ⟨A, ca, rfl, hla, hca⟩ := ha
  obtain ⟨B, cb, rfl, hlb, hcb⟩ := hb
  simp only [maxLen] at hla hlb
  by_cases hl : L.length = M.length
  · have HA := aside hca
    have HB := aside hcb
    clear hca hcb
    have HL := aside hl
    have hMl : M.length = L.length := hl.symm
    rw [hMl] at *
    generalize hn : L.length = n at *
    have HN := aside hn
    clear hl hMl hn
    go_enter Tryd.func12, Tryd.ntmps12
    go_wp2
    go_loopw [5] (fun i wr => ∃ k q : Nat, k ≤ n ∧ i = .int .i64 k ∧ wr = w.drewN q ∧ As (L.take k = M.take k)) (fun i _ => n - (intOf i).toNat)
    case atStart => exact ⟨0, 0, Nat.zero_le _, rfl, rfl, ⟨rfl⟩⟩
    case round =>
      obtain ⟨k, q, hk, rfl, rfl, HT⟩ := hrel
      by_cases hlt : k < n
      · obtain ⟨ba, oa, rfl, hA⟩ := HA.out (by have := HN.out; omega)
        obtain ⟨bb, ob, rfl, hB⟩ := HB.out (by have := HL.out; omega)
        have h1 := hA k (by have := HN.out; omega)
        have h2 := hB k (by have := HL.out; omega)
        clear hA hB
        have hstep := take_getD [] L M k (by have := HN.out; omega) (by have := HL.out; omega) HT.out
        by_cases he : L.getD k [] = M.getD k []
        · have HT2 := aside (hstep.2 he)
          clear hstep
          rw [he] at h1
          clear he
          generalize bs (M.getD k []) = u at *
          have hlt' : (k : Int) < (n : Int) := by omega
          go_wp2
          go_quiet (fail)
          go_wp2
          go_roundw
          case rel => exact ⟨k + 1, _, by omega, by go_num, rfl, HT2⟩
          case measure => simp [intOf]; omega
        · have HF := aside (show decide (L = M) = false by
            rw [decide_eq_false_iff_not]
            intro h
            exact he (by rw [h]))
          have hne : (bs (L.getD k [])).toList ≠ (bs (M.getD k [])).toList := by rw [bs_toList, bs_toList]; exact he
          have hne2 : ((bs (L.getD k [])).toList == (bs (M.getD k [])).toList) = false := beq_eq_false_iff_ne.2 hne
          have hne3 : ((bs (L.getD k [])).toList != (bs (M.getD k [])).toList) = true := bne_iff_ne.2 hne
          clear hstep he hne
          generalize bs (L.getD k []) = u1 at *
          generalize bs (M.getD k []) = u2 at *
          have hlt' : (k : Int) < (n : Int) := by omega
          go_wp2
          go_quiet (fail)
          go_wp2
          go_ret
          exact ⟨ret_bool HF.out.symm, _, World.drewN_drewN _ _ _⟩
      · obtain rfl : k = n := by omega
        have HF := aside (show decide (L = M) = true by
          have h := HT.out
          rw [List.take_of_length_le (by have := HN.out; omega), List.take_of_length_le (by have := HL.out; omega)] at h
          exact decide_eq_true h)
        go_wp2
        go_ret
        exact ⟨ret_bool HF.out.symm, _, rfl⟩
  · have HF := aside (show decide (L = M) = false by
      rw [decide_eq_false_iff_not]
      intro h
      exact hl (by rw [h]))
    have h1 : ((L.length : Int) != (M.length : Int)) = true := by rw [bne_iff_ne]; omega
    clear hl hca hcb
    generalize L.length = n at *
    generalize M.length = m at *
    go_enter Tryd.func12, Tryd.ntmps12
    go_wp2
    go_ret
    exact ⟨ret_bool HF.out.symm, 0, rfl⟩

def nolines : Nat × List (List UInt8) := (0, [])
theorem same_any (L M : LL) (a b : Value) (w : World) (ha : RdLines w a L) (hb : RdLines w b M) :
    Calls Tryd.prog 11 #[a, b] w fun e w' => e = .returned (.bool (decide (L = M))) ∧ ∃ n, w' = w.drewN n := by
  obtain ⟨A, ca, rfl, hla, hca⟩ := ha
  obtain ⟨B, cb, rfl, hlb, hcb⟩ := hb
  simp only [maxLen] at hla hlb
  by_cases hl : L.length = M.length
  · have HA := aside hca
    have HB := aside hcb
    clear hca hcb
    have HL := aside hl
    have hMl : M.length = L.length := hl.symm
    rw [hMl] at *
    generalize hn : L.length = n at *
    have HN := aside hn
    clear hl hMl hn
    go_enter Tryd.func11, Tryd.ntmps11
    go_wp2
    go_loopw [5] (fun i wr => ∃ k q : Nat, k ≤ n ∧ i = .int .i64 k ∧ wr = w.drewN q ∧ As (L.take k = M.take k)) (fun i _ => n - (intOf i).toNat)
    case atStart => exact ⟨0, 0, Nat.zero_le _, rfl, rfl, ⟨rfl⟩⟩
    case round =>
      obtain ⟨k, q, hk, rfl, rfl, HT⟩ := hrel
      by_cases hlt : k < n
      · obtain ⟨ba, oa, rfl, hA⟩ := HA.out (by have := HN.out; omega)
        obtain ⟨bb, ob, rfl, hB⟩ := HB.out (by have := HL.out; omega)
        obtain ⟨h1, u1, g1, r1⟩ := hA k (by have := HN.out; omega)
        obtain ⟨h2, u2, g2, r2⟩ := hB k (by have := HL.out; omega)
        clear hA hB
        have hstep := take_getD nolines L M k (by have := HN.out; omega) (by have := HL.out; omega) HT.out
        have hF : L.getD k nolines ≠ M.getD k nolines → decide (L = M) = false := by
          intro he
          rw [decide_eq_false_iff_not]
          intro h
          exact he (by rw [h])
        have hP : L.getD k nolines = M.getD k nolines ↔ (L.getD k nolines).1 = (M.getD k nolines).1 ∧ (L.getD k nolines).2 = (M.getD k nolines).2 := Prod.ext_iff
        rw [hP] at hstep
        have hF' : ¬ ((L.getD k nolines).1 = (M.getD k nolines).1 ∧ (L.getD k nolines).2 = (M.getD k nolines).2) → decide (L = M) = false := fun h => hF (fun e => h (hP.1 e))
        clear hF hP
        have HX := fun m : Nat => texts_any (L.getD k nolines).2 (M.getD k nolines).2 u1 u2 ((w.drewN q).drewN m) (show RdStrs w u1 _ from r1) (show RdStrs w u2 _ from r2)
        have R1 := aside r1
        have R2 := aside r2
        change (w.drewN q).cell? _ = some (.int .i64 (L.getD k nolines).1) at h1
        change (w.drewN q).cell? _ = some (.int .i64 (M.getD k nolines).1) at h2
        change (w.drewN q).cell? _ = some u1 at g1
        change (w.drewN q).cell? _ = some u2 at g2
        generalize hwq : w.drewN q = wq at *
        have HQ := aside hwq
        clear hwq
        have hlt' : (k : Int) < (n : Int) := by omega
        generalize (L.getD k nolines).1 = n1 at *
        generalize (M.getD k nolines).1 = n2 at *
        by_cases he : n1 = n2
        · subst he
          by_cases hw : (L.getD k nolines).2 = (M.getD k nolines).2
          · have HT2 := aside (hstep.2 ⟨rfl, hw⟩)
            rw [decide_eq_true hw] at HX
            have HX' := aside HX
            clear hstep hw HX r1 r2 hF'
            go_wp2
            go_quiet ((go_at_call 12; exact Calls.quiet_of (HX'.out _)))
            go_wp2
            go_roundw
            case rel => exact ⟨k + 1, _, by omega, by go_num, by rw [← HQ.out, World.drewN_drewN], HT2⟩
            case measure => simp [intOf]; omega
          · have HF := aside (hF' (fun h => hw h.2))
            rw [decide_eq_false hw] at HX
            have HX' := aside HX
            clear hstep hw HX r1 r2 hF'
            go_wp2
            go_quiet ((go_at_call 12; exact Calls.quiet_of (HX'.out _)))
            go_wp2
            go_ret
            exact ⟨ret_bool HF.out.symm, _, by rw [← HQ.out, World.drewN_drewN]⟩
        · have hne : ((n1 : Int) != (n2 : Int)) = true := by rw [bne_iff_ne]; omega
          have hne2 : ((n1 : Int) == (n2 : Int)) = false := by rw [beq_eq_false_iff_ne]; omega
          have HF := aside (hF' (fun h => he h.1))
          clear he hF' HX r1 r2 hstep
          go_wp2
          go_quiet (fail)
          go_wp2
          go_ret
          exact ⟨ret_bool HF.out.symm, _, by rw [← HQ.out, World.drewN_drewN]⟩
      · obtain rfl : k = n := by omega
        have HF := aside (show decide (L = M) = true by
          have h := HT.out
          rw [List.take_of_length_le (by have := HN.out; omega), List.take_of_length_le (by have := HL.out; omega)] at h
          exact decide_eq_true h)
        go_wp2
        go_ret
        exact ⟨ret_bool HF.out.symm, _, rfl⟩
  · have HF := aside (show decide (L = M) = false by
      rw [decide_eq_false_iff_not]
      intro h
      exact hl (by rw [h]))
    have h1 : ((L.length : Int) != (M.length : Int)) = true := by rw [bne_iff_ne]; omega
    clear hl hca hcb
    generalize L.length = n at *
    generalize M.length = m at *
    go_enter Tryd.func11, Tryd.ntmps11
    go_wp2
    go_ret
    exact ⟨ret_bool HF.out.symm, 0, rfl⟩
end Go.Proofs.YtppmamcoehhopaaDoor.LexG
