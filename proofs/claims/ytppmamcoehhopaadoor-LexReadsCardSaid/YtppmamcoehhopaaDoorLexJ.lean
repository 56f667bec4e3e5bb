/- The walk of the document's Words. -/
import Derived.Test.YtppmamcoehhopaaDoorLexI
namespace Go.Proofs.YtppmamcoehhopaaDoor.LexJ
open Go.RowKit Go.Proofs.YtppmamcoehhopaaDoor.Base Go.Proofs.YtppmamcoehhopaaDoor.LexA Go.Proofs.YtppmamcoehhopaaDoor.LexB Go.Proofs.YtppmamcoehhopaaDoor.LexM Go.Proofs.YtppmamcoehhopaaDoor.LexC Go.Proofs.YtppmamcoehhopaaDoor.LexD Go.Proofs.YtppmamcoehhopaaDoor.LexI
open Go.Proofs.YtppmamcoehhopaaDoor.LexE hiding W
set_option linter.unusedVariables false
set_option linter.unusedSimpArgs false

/-- What Words answers. -/
def rawWords (l : List UInt8) : List (List UInt8) := fieldsB ((pre l 59).map Lib.lowerB)
def low (l : List UInt8) : List UInt8 := l.map Lib.lowerB
theorem blank_low : ∀ b : UInt8, blankB (Lib.lowerB b) = blankB b := by
  intro b
  by_cases h : 65 ≤ b.toNat ∧ b.toNat ≤ 90
  · have h1 := lower_up b h
    have e1 : blankB b = false := by
      rw [← pB_byte]
      unfold pB
      simp
      omega
    have e2 : blankB (Lib.lowerB b) = false := by
      rw [← pB_byte]
      unfold pB
      simp
      omega
    rw [e1, e2]
  · rw [lower_else b h]
theorem pre_at (l : List UInt8) (c : UInt8) (k : Nat) (h : k < (pre l c).length) : k < l.length ∧ l.getD k 0 ≠ c ∧ (pre l c).getD k 0 = l.getD k 0 := by
  have hp : pre l c <+: l := List.takeWhile_prefix _
  have hk : k < l.length := Nat.lt_of_lt_of_le h hp.length_le
  have he : (pre l c)[k] = l[k] := hp.getElem h
  have hm : (pre l c)[k] ∈ pre l c := List.getElem_mem h
  have hn : ((pre l c)[k] != c) = true := by
    have := List.all_takeWhile (p := (· != c)) (l := l)
    exact List.all_eq_true.1 this _ hm
  refine ⟨hk, ?_, ?_⟩
  · rw [getD_at l k hk, ← he]
    exact bne_iff_ne.1 hn
  · rw [getD_at l k hk, getD_at _ k h, he]
theorem pre_end (c : UInt8) : ∀ l : List UInt8, (pre l c).length = l.length ∨ ((pre l c).length < l.length ∧ l.getD (pre l c).length 0 = c)
  | [] => .inl rfl
  | b :: l => by
    unfold pre
    by_cases h : b = c
    · subst h
      right
      simp
    · have h1 : (b != c) = true := bne_iff_ne.2 h
      rw [List.takeWhile_cons, if_pos h1]
      rcases pre_end c l with e | ⟨e, e2⟩
      · left
        unfold pre at e
        simp [e]
      · right
        unfold pre at e e2
        simp only [List.length_cons]
        exact ⟨by omega, by simpa using e2⟩
structure WInv (l : List UInt8) (k : Nat) (f : Int) (D : List (List UInt8)) : Prop where
  le : k ≤ (pre l 59).length
  eq : (f = -1 ∧ D ++ fieldsGo [] (((pre l 59).map Lib.lowerB).drop k) = rawWords l) ∨ (∃ j : Nat, f = j ∧ j < k ∧ D ++ fieldsGo (low (seg (bs l) j k)) (((pre l 59).map Lib.lowerB).drop k) = rawWords l)
theorem low_ne {l : List UInt8} (h : l ≠ []) : low l ≠ [] := by
  unfold low
  simpa using h
theorem seg_ne' (l : List UInt8) (j k : Nat) (h : j < k) (hk : k ≤ (pre l 59).length) : seg (bs l) j k ≠ [] := by
  refine seg_ne (bs l) j k h ?_
  have := pre_length l 59
  show k ≤ l.length
  omega
theorem drop_at (l : List UInt8) (k : Nat) (h : k < (pre l 59).length) : ((pre l 59).map Lib.lowerB).drop k = Lib.lowerB (l.getD k 0) :: ((pre l 59).map Lib.lowerB).drop (k + 1) := by
  have h1 : k < ((pre l 59).map Lib.lowerB).length := by rw [List.length_map]; exact h
  rw [List.drop_eq_getElem_cons h1]
  have h2 := (pre_at l 59 k h).2.2
  rw [getD_at _ k h] at h2
  simp [h2]
theorem drop_end (l : List UInt8) : ((pre l 59).map Lib.lowerB).drop (pre l 59).length = [] := List.drop_eq_nil_of_le (by rw [List.length_map]; exact Nat.le_refl _)
theorem winv_end0 {l : List UInt8} {D : List (List UInt8)} (h : WInv l (pre l 59).length (-1) D) : D = rawWords l := by
  rcases h.eq with ⟨_, h⟩ | ⟨j, h, _⟩
  · rw [drop_end] at h
    simpa [fieldsGo] using h
  · omega
theorem winv_end1 {l : List UInt8} {D : List (List UInt8)} {j : Nat} (h : WInv l (pre l 59).length j D) : j < (pre l 59).length ∧ D ++ [low (seg (bs l) j (pre l 59).length)] = rawWords l := by
  rcases h.eq with ⟨h, _⟩ | ⟨i, h1, h2, h3⟩
  · omega
  · have e : j = i := by omega
    subst e
    rw [drop_end] at h3
    refine ⟨h2, ?_⟩
    rw [← h3, fieldsGo, if_neg]
    have := low_ne (seg_ne' l j _ h2 (Nat.le_refl _))
    simpa using this
theorem winv_lt {l : List UInt8} {k j : Nat} {D : List (List UInt8)} (h : WInv l k j D) : j < k := by
  rcases h.eq with ⟨h, _⟩ | ⟨i, h1, h2, h3⟩
  · omega
  · omega
theorem winv_b0 {l : List UInt8} {k : Nat} {D : List (List UInt8)} (h : WInv l k (-1) D) (hk : k < (pre l 59).length) (hb : blankB (l.getD k 0) = true) : WInv l (k + 1) (-1) D := by
  rcases h.eq with ⟨_, h⟩ | ⟨j, h, _⟩
  · rw [drop_at l k hk, fieldsGo_blank0 (by rw [blank_low]; exact hb)] at h
    exact ⟨hk, .inl ⟨rfl, h⟩⟩
  · omega
theorem winv_b1 {l : List UInt8} {k j : Nat} {D : List (List UInt8)} (h : WInv l k j D) (hk : k < (pre l 59).length) (hb : blankB (l.getD k 0) = true) : WInv l (k + 1) (-1) (D ++ [low (seg (bs l) j k)]) := by
  rcases h.eq with ⟨h, _⟩ | ⟨i, h1, h2, h3⟩
  · omega
  · have e : j = i := by omega
    subst e
    rw [drop_at l k hk, fieldsGo_blank (by rw [blank_low]; exact hb) (low_ne (seg_ne' l j k h2 h.le))] at h3
    exact ⟨hk, .inl ⟨rfl, by rw [← h3]; simp⟩⟩
theorem low_snoc (l : List UInt8) (j k : Nat) (h : j ≤ k) (hk : k < (pre l 59).length) : low (seg (bs l) j (k + 1)) = low (seg (bs l) j k) ++ [Lib.lowerB (l.getD k 0)] := by
  rw [seg_snoc (bs l) j k h (pre_at l 59 k hk).1]
  simp [low, bs]
theorem winv_n0 {l : List UInt8} {k : Nat} {D : List (List UInt8)} (h : WInv l k (-1) D) (hk : k < (pre l 59).length) (hb : ¬ blankB (l.getD k 0) = true) : WInv l (k + 1) k D := by
  rcases h.eq with ⟨_, h⟩ | ⟨j, h, _⟩
  · rw [drop_at l k hk, fieldsGo_more (by rw [blank_low]; exact hb)] at h
    refine ⟨hk, .inr ⟨k, rfl, by omega, ?_⟩⟩
    rw [low_snoc l k k (Nat.le_refl _) hk, seg_self _ _ (by have := (pre_at l 59 k hk).1; show k ≤ l.length; omega)]
    exact h
  · omega
theorem winv_n1 {l : List UInt8} {k j : Nat} {D : List (List UInt8)} (h : WInv l k j D) (hk : k < (pre l 59).length) (hb : ¬ blankB (l.getD k 0) = true) : WInv l (k + 1) j D := by
  rcases h.eq with ⟨h, _⟩ | ⟨i, h1, h2, h3⟩
  · omega
  · have e : j = i := by omega
    subst e
    rw [drop_at l k hk, fieldsGo_more (by rw [blank_low]; exact hb)] at h3
    refine ⟨hk, .inr ⟨j, rfl, by omega, ?_⟩⟩
    rw [low_snoc l j k (by omega) hk]
    exact h3
theorem winv_start (l : List UInt8) : WInv l 0 (-1) [] := ⟨Nat.zero_le _, .inl ⟨rfl, rfl⟩⟩
theorem strs_snoc (D : List (List UInt8)) (x : List UInt8) : strs (D ++ [x]) = strs D ++ [.string (bs x)] := by simp [strs]
theorem infoStr : (Tryd.prog.info? 9).map (fun i => (i.zero, i.size, i.bytes)) = some (some (.string ⟨#[]⟩), 1, 16) := by kernel_rfl

set_option maxHeartbeats 16000000 in
theorem rwords_any (l : List UInt8) (w : World) (hl : l.length ≤ 65536) :
    Calls Tryd.prog 18 #[.string (bs l)] w fun e w' => ∃ v, e = .returned v ∧ w'.ownsRow w.heap.size 9 1 v (rawWords l).length (strs (rawWords l)) ∧ Below w.heap.size w w' := by
  obtain ⟨iS, hiS, hS⟩ := Option.map_eq_some_iff.1 infoStr
  simp only [Prod.mk.injEq] at hS
  obtain ⟨hS0, hS1, hS2⟩ := hS
  have hsz : (bs l).size = l.length := rfl
  have hpl := pre_length l 59
  have hdl : ∀ k D f, WInv l k f D → D.length ≤ 65537 := by
    intro k D f h
    have h1 : (rawWords l).length ≤ (pre l 59).length + 1 := by
      have := fieldsGo_length ((pre l 59).map Lib.lowerB) []
      rw [List.length_map] at this
      exact this
    have h2 : D.length ≤ (rawWords l).length := by
      rcases h.eq with ⟨_, e⟩ | ⟨_, _, _, e⟩
      · rw [← e]; simp
      · rw [← e]; simp
    omega
  have HDL := aside hdl
  clear hdl
  have hpe := pre_end 59 l
  have HPA := aside (pre_at l 59)
  go_enter Tryd.func18, Tryd.ntmps18
  go_wp2
  go_loopw [3, 4, 5] (fun v f i wr => ∃ (k : Nat) (D : List (List UInt8)), As (wr.ownsRow w.heap.size 9 1 v D.length (strs D)) ∧ As (Below w.heap.size w wr) ∧ i = .int .i64 k ∧ ((∃ fz : Int, f = .int .i64 fz ∧ (fz = -1 ∨ ∃ j : Nat, fz = j) ∧ As (WInv l k fz D)) ∨ (f = .int .i64 (-1) ∧ k = l.length + 1 ∧ D = rawWords l))) (fun _ _ i _ => l.length + 2 - (intOf i).toNat)
  case atStart => exact ⟨0, [], ⟨World.ownsRow_nil _ _ _ _⟩, ⟨Below.refl _ _⟩, rfl, .inl ⟨-1, rfl, .inl rfl, ⟨winv_start l⟩⟩⟩
  case round =>
    obtain ⟨k, D, HO, HB, rfl, ⟨fz, rfl, hfz, HI⟩ | ⟨rfl, rfl, rfl⟩⟩ := hrel
    · have hkl := HI.out.le
      have hkn : ¬ (l.length : Int) < (k : Int) := by omega
      have hk64 : (k : Int) ≤ 65537 := by omega
      have hbs := HB.out.size
      rcases hfz with rfl | ⟨j, rfl⟩
      · by_cases hK : k = (pre l 59).length
        · have HE := aside (winv_end0 (by rw [← hK]; exact HI.out))
          rw [← hK] at hpe
          rcases hpe with h1 | ⟨h1, h2⟩
          · have d1 : ((k : Int) == (l.length : Int)) = true := by rw [h1]; simp
            have d2 : decide ((k : Int) < (l.length : Int)) = false := by simp; omega
            have H1 := aside h1
            clear hK h1
            go_wp2
            go_roundw
            case rel => exact ⟨k + 1, D, HO, HB, by go_num, .inr ⟨rfl, by rw [H1.out], HE.out⟩⟩
            case measure => simp [intOf]; omega
          · have hk2 : k < (bs l).size := h1
            have hby : (((bs l)[k]'hk2).toNat : Int) = ((l.getD k 0).toNat : Int) := by
              rw [getD_at l k h1]
              rfl
            generalize hc : ((l.getD k 0).toNat : Int) = c at *
            have d1 : ((k : Int) == (l.length : Int)) = false := by simp; omega
            have d3 : (c == 59) = true := by rw [← hc, h2]; rfl
            have d2 : (k : Int) < (l.length : Int) := by omega
            clear hK h2
            go_wp2
            go_ret
            rw [← HE.out]
            exact ⟨_, rfl, HO.out, HB.out⟩
        · have hlt : k < (pre l 59).length := by omega
          obtain ⟨h1, h2, h3⟩ := HPA.out k hlt
          by_cases hb : blankB (l.getD k 0) = true
          · have HX := aside (winv_b0 HI.out hlt hb)
            have hk2 : k < (bs l).size := h1
            have hby : (((bs l)[k]'hk2).toNat : Int) = ((l.getD k 0).toNat : Int) := by
              rw [getD_at l k h1]
              rfl
            generalize hc : ((l.getD k 0).toNat : Int) = c at *
            have d1 : ((k : Int) == (l.length : Int)) = false := by simp; omega
            have d2 : (k : Int) < (l.length : Int) := by omega
            have d3 : (c == 59) = false := by
              rw [← hc, beq_eq_false_iff_ne]
              intro h
              apply h2
              rw [← UInt8.toNat_inj]
              show (l.getD k 0).toNat = 59
              omega
            have hbl : blankI c = true := by rw [← hc, blankI_nat, pB_byte]; exact hb
            clear hK h2 hb h3 hpe
            go_wp2_with (go_at_call 17; refine (rblank_any _ _).mono ?_; rintro e w' ⟨rfl, rfl⟩)
            go_roundw
            case rel => exact ⟨k + 1, D, HO, HB, by go_num, .inl ⟨-1, rfl, .inl rfl, HX⟩⟩
            case measure => simp [intOf]; omega
          · have HX := aside (winv_n0 HI.out hlt hb)
            have hk2 : k < (bs l).size := h1
            have hby : (((bs l)[k]'hk2).toNat : Int) = ((l.getD k 0).toNat : Int) := by
              rw [getD_at l k h1]
              rfl
            generalize hc : ((l.getD k 0).toNat : Int) = c at *
            have d1 : ((k : Int) == (l.length : Int)) = false := by simp; omega
            have d2 : (k : Int) < (l.length : Int) := by omega
            have d3 : (c == 59) = false := by
              rw [← hc, beq_eq_false_iff_ne]
              intro h
              apply h2
              rw [← UInt8.toNat_inj]
              show (l.getD k 0).toNat = 59
              omega
            have hbl : blankI c = false := by rw [← hc, blankI_nat, pB_byte]; simpa using hb
            clear hK h2 hb h3 hpe
            go_wp2_with (go_at_call 17; refine (rblank_any _ _).mono ?_; rintro e w' ⟨rfl, rfl⟩)
            go_roundw
            case rel => exact ⟨k + 1, D, HO, HB, by go_num, .inl ⟨k, rfl, .inr ⟨k, rfl⟩, HX⟩⟩
            case measure => simp [intOf]; omega
      · have hjk := winv_lt HI.out
        have hjl : (j : Int) ≤ (k : Int) := by omega
        have hkl2 : (k : Int) ≤ (l.length : Int) := by omega
        have hj0 : (0 : Int) ≤ (j : Int) := by omega
        have HW := aside (fun w : World => word_any (seg (bs l) j k) w (by unfold seg; simp [bs]; omega) (List.length_pos_iff.2 (seg_ne' l j k hjk HI.out.le)))
        have HDD := HDL.out _ _ _ HI.out
        have hsg := seg_bs (bs l) j k
        by_cases hK : k = (pre l 59).length
        · have HE := aside (winv_end1 (by rw [← hK]; exact HI.out)).2
          rw [← hK] at HE
          rw [← hK] at hpe
          have HLE := aside (show strs (D ++ [low (seg (bs l) j k)]) = strs D ++ [.string (bs ((seg (bs l) j k).map Lib.lowerB))] from strs_snoc _ _)
          rcases hpe with h1 | ⟨h1, h2⟩
          · have d1 : ((k : Int) == (l.length : Int)) = true := by rw [h1]; simp
            have d2 : decide ((k : Int) < (l.length : Int)) = false := by simp; omega
            have H1 := aside h1
            clear hK h1
            go_wp2_with fail
            refine (HW.out _).mono ?_
            rintro e w1 ⟨rfl, hb1⟩
            have HB1 := aside (HB.out.trans (hb1.mono hbs))
            have HO1 := aside (own_below HO.out hb1)
            have hbs1 := HB1.out.size
            clear hb1
            go_wp2_with (at_builtin; refine wpList_append_own_at _ rfl _ _ 30 rfl w.heap.size 9 iS _ 1 16 Tryd.underlying30 hiS hS0 hS1 hS2 rfl (by decide) _ D.length (strs D) rfl (HO1.out.alloc _) ⟨w1.heap.size, 0, none⟩ 1 1 [.string (bs ((seg (bs l) j k).map Lib.lowerB))] rfl rfl ?c1 ?c2 ?c3 ?c4 ?c5 ?_)
            case c1 =>
              intro j u hj
              match j, hj with
              | 0, hj =>
                simp at hj
                subst hj
                simp [Addr.add]
            case c2 =>
              intro u hu
              simp only [List.mem_cons, List.mem_nil_iff, or_false] at hu
              subst hu
              rfl
            case c3 => simp only [maxLen]; omega
            case c4 => omega
            case c5 => simp; omega
            intro v1 w4 ho4 hg4 hn4 hat4
            have HO4 := aside (show w4.ownsRow w.heap.size 9 1 v1 (D ++ [low (seg (bs l) j k)]).length (strs (D ++ [low (seg (bs l) j k)])) by rw [HLE.out, List.length_append]; exact ho4)
            have HB4 := aside ((HB1.out.alloc hbs1 _).grown hg4 (by simp; omega) (fun k hk => (own_lt HO1.out hk).1))
            clear ho4 hg4 hn4 hat4
            go_wp2
            go_roundw
            case rel => exact ⟨k + 1, _, HO4, HB4, by go_num, .inr ⟨rfl, by rw [H1.out], HE.out⟩⟩
            case measure => simp [intOf]; omega
          · have hk2 : k < (bs l).size := h1
            have hby : (((bs l)[k]'hk2).toNat : Int) = ((l.getD k 0).toNat : Int) := by
              rw [getD_at l k h1]
              rfl
            generalize hc : ((l.getD k 0).toNat : Int) = c at *
            have d1 : ((k : Int) == (l.length : Int)) = false := by simp; omega
            have d3 : (c == 59) = true := by rw [← hc, h2]; rfl
            have d2 : (k : Int) < (l.length : Int) := by omega
            clear hK h2
            go_wp2_with fail
            refine (HW.out _).mono ?_
            rintro e w1 ⟨rfl, hb1⟩
            have HB1 := aside (HB.out.trans (hb1.mono hbs))
            have HO1 := aside (own_below HO.out hb1)
            have hbs1 := HB1.out.size
            clear hb1
            go_wp2_with (at_builtin; refine wpList_append_own_at _ rfl _ _ 30 rfl w.heap.size 9 iS _ 1 16 Tryd.underlying30 hiS hS0 hS1 hS2 rfl (by decide) _ D.length (strs D) rfl (HO1.out.alloc _) ⟨w1.heap.size, 0, none⟩ 1 1 [.string (bs ((seg (bs l) j k).map Lib.lowerB))] rfl rfl ?c1 ?c2 ?c3 ?c4 ?c5 ?_)
            case c1 =>
              intro j u hj
              match j, hj with
              | 0, hj =>
                simp at hj
                subst hj
                simp [Addr.add]
            case c2 =>
              intro u hu
              simp only [List.mem_cons, List.mem_nil_iff, or_false] at hu
              subst hu
              rfl
            case c3 => simp only [maxLen]; omega
            case c4 => omega
            case c5 => simp; omega
            intro v1 w4 ho4 hg4 hn4 hat4
            have HO4 := aside (show w4.ownsRow w.heap.size 9 1 v1 (D ++ [low (seg (bs l) j k)]).length (strs (D ++ [low (seg (bs l) j k)])) by rw [HLE.out, List.length_append]; exact ho4)
            have HB4 := aside ((HB1.out.alloc hbs1 _).grown hg4 (by simp; omega) (fun k hk => (own_lt HO1.out hk).1))
            clear ho4 hg4 hn4 hat4
            go_wp2
            go_ret
            rw [← HE.out]
            exact ⟨_, rfl, HO4.out, HB4.out⟩
        · have hlt : k < (pre l 59).length := by omega
          obtain ⟨h1, h2, h3⟩ := HPA.out k hlt
          by_cases hb : blankB (l.getD k 0) = true
          · have HX := aside (winv_b1 HI.out hlt hb)
            have HLE := aside (show strs (D ++ [low (seg (bs l) j k)]) = strs D ++ [.string (bs ((seg (bs l) j k).map Lib.lowerB))] from strs_snoc _ _)
            have hk2 : k < (bs l).size := h1
            have hby : (((bs l)[k]'hk2).toNat : Int) = ((l.getD k 0).toNat : Int) := by
              rw [getD_at l k h1]
              rfl
            generalize hc : ((l.getD k 0).toNat : Int) = c at *
            have d1 : ((k : Int) == (l.length : Int)) = false := by simp; omega
            have d2 : (k : Int) < (l.length : Int) := by omega
            have d3 : (c == 59) = false := by
              rw [← hc, beq_eq_false_iff_ne]
              intro h
              apply h2
              rw [← UInt8.toNat_inj]
              show (l.getD k 0).toNat = 59
              omega
            have hbl : blankI c = true := by rw [← hc, blankI_nat, pB_byte]; exact hb
            clear hK h2 hb h3 hpe
            go_wp2_with (go_at_call 17; refine (rblank_any _ _).mono ?_; rintro e w' ⟨rfl, rfl⟩)
            go_wp2_with fail
            refine (HW.out _).mono ?_
            rintro e w1 ⟨rfl, hb1⟩
            have HB1 := aside (HB.out.trans (hb1.mono hbs))
            have HO1 := aside (own_below HO.out hb1)
            have hbs1 := HB1.out.size
            clear hb1
            go_wp2_with (at_builtin; refine wpList_append_own_at _ rfl _ _ 30 rfl w.heap.size 9 iS _ 1 16 Tryd.underlying30 hiS hS0 hS1 hS2 rfl (by decide) _ D.length (strs D) rfl (HO1.out.alloc _) ⟨w1.heap.size, 0, none⟩ 1 1 [.string (bs ((seg (bs l) j k).map Lib.lowerB))] rfl rfl ?c1 ?c2 ?c3 ?c4 ?c5 ?_)
            case c1 =>
              intro j u hj
              match j, hj with
              | 0, hj =>
                simp at hj
                subst hj
                simp [Addr.add]
            case c2 =>
              intro u hu
              simp only [List.mem_cons, List.mem_nil_iff, or_false] at hu
              subst hu
              rfl
            case c3 => simp only [maxLen]; omega
            case c4 => omega
            case c5 => simp; omega
            intro v1 w4 ho4 hg4 hn4 hat4
            have HO4 := aside (show w4.ownsRow w.heap.size 9 1 v1 (D ++ [low (seg (bs l) j k)]).length (strs (D ++ [low (seg (bs l) j k)])) by rw [HLE.out, List.length_append]; exact ho4)
            have HB4 := aside ((HB1.out.alloc hbs1 _).grown hg4 (by simp; omega) (fun k hk => (own_lt HO1.out hk).1))
            clear ho4 hg4 hn4 hat4
            go_wp2
            go_roundw
            case rel => exact ⟨k + 1, _, HO4, HB4, by go_num, .inl ⟨-1, rfl, .inl rfl, HX⟩⟩
            case measure => simp [intOf]; omega
          · have HX := aside (winv_n1 HI.out hlt hb)
            have hk2 : k < (bs l).size := h1
            have hby : (((bs l)[k]'hk2).toNat : Int) = ((l.getD k 0).toNat : Int) := by
              rw [getD_at l k h1]
              rfl
            generalize hc : ((l.getD k 0).toNat : Int) = c at *
            have d1 : ((k : Int) == (l.length : Int)) = false := by simp; omega
            have d2 : (k : Int) < (l.length : Int) := by omega
            have d3 : (c == 59) = false := by
              rw [← hc, beq_eq_false_iff_ne]
              intro h
              apply h2
              rw [← UInt8.toNat_inj]
              show (l.getD k 0).toNat = 59
              omega
            have hbl : blankI c = false := by rw [← hc, blankI_nat, pB_byte]; simpa using hb
            clear hK h2 hb h3 hpe
            go_wp2_with (go_at_call 17; refine (rblank_any _ _).mono ?_; rintro e w' ⟨rfl, rfl⟩)
            go_roundw
            case rel => exact ⟨k + 1, D, HO, HB, by go_num, .inl ⟨j, rfl, .inr ⟨j, rfl⟩, HX⟩⟩
            case measure => simp [intOf]; omega
    · have h1 : (l.length : Int) < ((l.length + 1 : Nat) : Int) := by omega
      go_wp2
      go_ret
      exact ⟨_, rfl, HO.out, HB.out⟩
end Go.Proofs.YtppmamcoehhopaaDoor.LexJ
