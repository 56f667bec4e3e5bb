/- The walk of lex.words. -/
import Derived.Test.YtppmamcoehhopaaDoorLexA
import Derived.Test.YtppmamcoehhopaaDoorLexM
namespace Go.Proofs.YtppmamcoehhopaaDoor.LexC
open Go.RowKit Go.Proofs.YtppmamcoehhopaaDoor.Base Go.Proofs.YtppmamcoehhopaaDoor.LexA Go.Proofs.YtppmamcoehhopaaDoor.LexB Go.Proofs.YtppmamcoehhopaaDoor.LexM
set_option linter.unusedVariables false
set_option linter.unusedSimpArgs false

theorem blankI_nat (x : Nat) : blankI (x : Int) = pB x := by
  unfold blankI pB
  rw [Bool.eq_iff_iff]
  simp
  omega
theorem enters_blank : ∀ args w, (callFunc 22 args).run Tryd.prog w = .ok (.enter 22 args) w := enters_of Tryd.func22 (by kernel_rfl) rfl
theorem blank_pays (w : World) : PredAtRunes Tryd.prog 22 #[] pB w := fun W x _ _ =>
  (blank_any (x : Int) W).mono fun e w' ⟨he, hw⟩ => ⟨by rw [he, blankI_nat], 0, hw⟩
theorem infoSpan : (Tryd.prog.info? 48).map (fun i => (i.zero, i.size, i.bytes)) = some (some (.agg #[.int .i64 0, .int .i64 0]), 2, 16) := by kernel_rfl
theorem infoString : (Tryd.prog.info? 9).map (fun i => (i.zero, i.size, i.bytes)) = some (some (.string ⟨#[]⟩), 1, 16) := by kernel_rfl

theorem fields_any (l : List UInt8) (hl : l.length ≤ 4294967296) (ha : ∀ b ∈ l, b.toNat < 128) (w : World) :
    Calls Tryd.prog 20 #[.string (bs l), .func (.func 22) #[] #[]] w fun e w' => ∃ v, e = .returned v ∧ (∃ A, v = .slice (some ⟨A, 0, none⟩) (fieldsB l).length (fieldsB l).length) ∧ w'.ownsRow w.heap.size 9 1 v (fieldsB l).length (strs (fieldsB l)) ∧ Below w.heap.size w w' := by
  have hg := goFields_ascii (bs l) (by
    intro j hj
    have hj' : j < l.length := hj
    show (l.getD j 0).toNat < 128
    rw [getD_at l j hj']
    exact ha _ (List.getElem_mem hj'))
  have e1 : (bs l).data.toList = l := rfl
  rw [e1] at hg
  have H := Tryd.strings_FieldsFunc_runes 22 #[] enters_blank pB (bs l) w hl (blank_pays w)
  rw [hg] at H
  refine H.mono fun e w' ⟨A, he, hA, ho, hb⟩ => ?_
  rw [List.length_map, List.map_map] at ho
  rw [List.length_map] at he
  exact ⟨_, he, ⟨A, rfl⟩, ho, hb⟩

theorem lower_any (l : List UInt8) (hl : l.length ≤ 140737488355328) (ha : ∀ b ∈ l, b.toNat < 128) (w : World) :
    Calls Tryd.prog 21 #[.string (bs l)] w fun e w' => e = .returned (.string (bs (l.map Lib.lowerB))) ∧ Below w.heap.size w w' := by
  refine (Tryd.strings_ToLower_ascii (bs l) w hl (fun j b h => ha b (List.mem_of_getElem? h))).mono fun e w' h => h

theorem lower_ascii (c : UInt8) (h : c.toNat < 128) : (Lib.lowerB c).toNat < 128 := by
  unfold Lib.lowerB
  split
  · rename_i hu
    unfold Lib.isUpperB at hu
    simp [UInt8.le_iff_toNat_le] at hu
    rw [UInt8.toNat_add]
    simp
    omega
  · exact h
theorem words_any (l : List UInt8) (hl : l.length ≤ 65536) (ha : ∀ b ∈ l, b.toNat < 128) (w : World) :
    Calls Tryd.prog 16 #[.string (bs l)] w fun e w' => ∃ v, e = .returned v ∧ w'.ownsRow w.heap.size 9 1 v (lexWords l).length (strs (lexWords l)) ∧ Below w.heap.size w w' := by
  have hp : ∀ b ∈ pre l 59, b.toNat < 128 := fun b hb => ha b (List.takeWhile_subset _ hb)
  have hpl : (pre l 59).length ≤ 65536 := Nat.le_trans (List.takeWhile_prefix _).length_le hl
  have hL : ∀ b ∈ (pre l 59).map Lib.lowerB, b.toNat < 128 := by
    intro b hb
    obtain ⟨c, hc, rfl⟩ := List.mem_map.1 hb
    exact lower_ascii c (hp c hc)
  have hLl : ((pre l 59).map Lib.lowerB).length ≤ 4294967296 := by rw [List.length_map]; omega
  have e1 : (bs l).data.toList = l := rfl
  have hC := cut_one (bs l) 59
  rw [e1] at hC
  have HT := fun w => lower_any (pre l 59) (by omega) hp w
  have HF := fun w => fields_any ((pre l 59).map Lib.lowerB) hLl hL w
  have HW : lexWords l = match fieldsB ((pre l 59).map Lib.lowerB) with | (42 :: _) :: _ => [] | w => w := rfl
  have HN : ∀ x ∈ fieldsB ((pre l 59).map Lib.lowerB), x ≠ [] := fieldsB_ne _
  generalize fieldsB ((pre l 59).map Lib.lowerB) = F at *
  generalize (pre l 59).map Lib.lowerB = L at *
  clear hp hpl hL hLl e1 ha
  have hl1 : (bs l).size ≤ 9223372036854775806 := by show l.length ≤ _; omega
  have HC := aside hC
  have HT' := aside HT
  have HF' := aside HF
  have HW' := aside HW
  have HN' := aside HN
  clear hC HT HF HW HN
  go_enter Tryd.func16, Tryd.ntmps16
  go_wp2_with fail
  refine (HC.out _ hl1).mono ?_
  rintro e w1 ⟨rfl, n, rfl⟩
  go_wp2_with fail
  refine (HT'.out _).mono ?_
  rintro e w1 ⟨rfl, hb1⟩
  have HB1 := aside hb1
  clear hb1
  go_wp2_with fail
  refine (HF'.out _).mono ?_
  rintro e w2 ⟨v, rfl, ⟨A, rfl⟩, ho, hb2⟩
  have HB2 := aside hb2
  clear hb2
  cases F with
  | nil =>
    have HO := aside ho
    clear ho
    go_wp2
    go_ret
    rw [HW'.out]
    exact ⟨_, rfl, own_lower HO.out (below_of_drewN HB1.out).size, below_then (below_of_drewN HB1.out) HB2.out⟩
  | cons f0 fs =>
    have hc0 : w2.cell? ⟨A, 0, none⟩ = some (.string (bs f0)) := by
      have := ho.cellAt 0 (by simp)
      simpa [strs] using this
    have HO := aside ho
    clear ho
    have hne := HN'.out f0 (by simp)
    obtain ⟨b0, t0, rfl⟩ := List.exists_cons_of_ne_nil hne
    clear hne
    have hn : (0 : Int) < ((((b0 :: t0) :: fs).length : Nat) : Int) := by simp
    generalize hN : ((b0 :: t0) :: fs).length = N at hn HO HF'
    have HLN := aside hN
    clear hN
    have hn' : 0 < N := by omega
    have hs0 : 0 < (bs (b0 :: t0)).size := Nat.succ_pos _
    by_cases hb : b0 = 42
    · have hx : (((bs (b0 :: t0))[0]'hs0).toNat : Int) = 42 := by subst hb; rfl
      have hx' : ((((bs (b0 :: t0))[0]'hs0).toNat : Int) == 42) = true := beq_iff_eq.2 hx
      have HW2 := aside (show lexWords l = [] by rw [HW'.out]; subst hb; rfl)
      clear hb hx
      go_wp2
      go_ret
      rw [HW2.out]
      exact ⟨_, rfl, World.ownsRow_nil _ _ _ _, below_then (below_of_drewN HB1.out) HB2.out⟩
    · have hx : ¬ (((bs (b0 :: t0))[0]'hs0).toNat : Int) = 42 := by
        intro h
        apply hb
        rw [← UInt8.toNat_inj]
        have h2 : (b0.toNat : Int) = 42 := h
        show b0.toNat = 42
        omega
      have hx' : ((((bs (b0 :: t0))[0]'hs0).toNat : Int) == 42) = false := beq_eq_false_iff_ne.2 hx
      have HW2 := aside (show lexWords l = (b0 :: t0) :: fs by
        rw [HW'.out]
        split
        · rename_i h
          injection h with h1 h2
          injection h1 with h1 h3
          exact absurd h1 hb
        · rfl)
      clear hb hx
      go_wp2
      go_ret
      rw [HW2.out, HLN.out]
      exact ⟨_, rfl, own_lower HO.out (below_of_drewN HB1.out).size, below_then (below_of_drewN HB1.out) HB2.out⟩
end Go.Proofs.YtppmamcoehhopaaDoor.LexC
