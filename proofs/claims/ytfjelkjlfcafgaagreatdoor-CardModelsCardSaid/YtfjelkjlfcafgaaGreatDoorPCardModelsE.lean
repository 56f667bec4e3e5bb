/- A part of the proof. -/
import Derived.Test.YtfjelkjlfcafgaaGreatDoorPCardModelsD
section
/- Cards: what the library answers: Atoi, Itoa, Clone, Equal. -/
namespace Go.Proofs.YtfjelkjlfcafgaaGreatDoor.CardD
open Go Go.RowKit Go.Proofs.YtfjelkjlfcafgaaGreatDoor.Ax Go.Proofs.YtfjelkjlfcafgaaGreatDoor.Ti Go.Proofs.YtfjelkjlfcafgaaGreatDoor.NumS Go.Proofs.YtfjelkjlfcafgaaGreatDoor.NumT Go.Proofs.YtfjelkjlfcafgaaGreatDoor.CardS Go.Proofs.YtfjelkjlfcafgaaGreatDoor.CardP Go.Proofs.YtfjelkjlfcafgaaGreatDoor.CardA Go.Proofs.YtfjelkjlfcafgaaGreatDoor.CardB Go.Proofs.YtfjelkjlfcafgaaGreatDoor.CardC
set_option linter.unusedSimpArgs false
set_option linter.unusedVariables false
set_option maxRecDepth 4000
set_option maxHeartbeats 2000000
theorem rTI : type_of% (cj @ti3 (cj @ti4 (cj @ti9 (cj @ti5 (cj @ti36 (cj @Nat.zero_add (cj @tz0 (cj @tz1 (cj @tz3 (cj @Nat.mul_one @Int.toNat_natCast)))))))))) := cj @ti3 (cj @ti4 (cj @ti9 (cj @ti5 (cj @ti36 (cj @Nat.zero_add (cj @tz0 (cj @tz1 (cj @tz3 (cj @Nat.mul_one @Int.toNat_natCast)))))))))

theorem acall_any {f : FuncId} {us : List Value} {s : St} {R : AV → Prop} (hen : Enters Tryz.prog f)
    (h : ∀ w, Tabs w.cell? → TabSize w → Calls Tryz.prog f us.toArray w fun en w' => ∃ v r, en = .returned v ∧ Below w.heap.size w w' ∧ R r ∧ ∀ k, Rel k r v) : ACall Tryz.prog f (us.map .v) s fun r s' => R r ∧ s' = s := by
  refine ⟨hen, fun w0 k w vs hs hv => ?_⟩
  have : vs = us := by
    apply List.ext_getElem
    · simpa using hv.1
    · intro j h1 h2
      have := hv.2 j (.v us[j]) vs[j] (by simp [h2]) (by simp [h1])
      exact this.v_eq
  subst this
  refine (h w (k.tab.mono hs.fz) (hs.shp.tz hs.tz)).mono ?_
  rintro en w' ⟨v, r, rfl, hb, hR, hr⟩
  exact ⟨v, r, s, k, rfl, ⟨hR, rfl⟩, hs.below hb, hr k, KW.le_refl (by rw [hs.m]; exact Nat.le_refl _)⟩
theorem tup2 (a b : Value) (k : KW) : Rel k (.tp [.v a, .v b]) (.tuple #[a, b]) := .tp _ [_, _] rfl fun j z u hz hu => by
  match j with
  | 0 => simp at hz hu; subst hz hu; exact .v _
  | 1 => simp at hz hu; subst hz hu; exact .v _
  | j + 2 => simp at hz
theorem itoa_ax (z : Int) (h0 : -9223372036854775808 ≤ z) (h1 : z ≤ 9223372036854775807) : PCall Tryz.prog 64 [.v (.int .i64 z)] (SV (decS z)) := by
  refine pcall_lift_tab (us := [.int .i64 z]) (enters_of Tryz.func64 rfl rfl) (fun k => .v _) fun w ht hz => ?_
  refine (Tryz.strconv_Itoa z h0 h1 w (NumLaid.tabIs ht hz)).mono ?_
  rintro en w' ⟨rfl, k, os, rfl⟩
  rw [NumG.itoa_eq]
  exact ⟨rfl, ⟨rfl, rfl, rfl, by simp [Sort.grow, World.drewN], fun i hi => by simp [Sort.grow, World.drewN, Array.getElem?_append, hi]⟩⟩
def AtoiR (w : Str) (r : AV) : Prop := ∃ (z : Int) (e : Value), r = .tp [.v (.int .i64 z), .v e] ∧ -9223372036854775808 ≤ z ∧ z ≤ 9223372036854775807 ∧ ((e = .nilIface ∧ (∀ n, stepS w = some n → z = n)) ∨ ((∃ t p, e = .iface t p) ∧ stepS w = none))
theorem atoi_step (w : Str) (n : Int) (h : stepS w = some n) : (∀ c ∈ w, isD c = true) ∧ w ≠ [] ∧ w.length ≤ 18 ∧ digV w = n.toNat ∧ 0 ≤ n := by
  unfold stepS at h
  split at h
  · rename_i hc
    injection h with h
    obtain ⟨h1, h2, h3, h4⟩ := decP_spec (digV w) (by omega)
    rw [hc.1] at h1 h2 h4
    exact ⟨h1, h2, by omega, by omega, by omega⟩
  · cases h
theorem atoi_any (w : Str) (hl : w.length ≤ 281474976710656) (s : St) : ACall Tryz.prog 102 [SV w] s fun r s' => AtoiR w r ∧ s' = s := by
  cases hs : stepS w with
  | some n =>
    obtain ⟨h1, h2, h3, h4, h5⟩ := atoi_step w n hs
    refine ((NumL.atoi_ax w h1 h2 h3) s).mono ?_
    rintro r s' ⟨rfl, rfl⟩
    have hb : n ≤ 1000000000 := (step_le w n hs).2.1
    refine ⟨⟨(digV w : Nat), .nilIface, rfl, by omega, by omega, .inl ⟨rfl, fun m hm => ?_⟩⟩, rfl⟩
    rw [hs] at hm
    injection hm with hm
    omega
  | none =>
    refine acall_any (us := [.string (bs w)]) (enters_of Tryz.func102 rfl rfl) fun W ht hz => ?_
    have hsz : (bs w).size ≤ 281474976710656 := by rw [bs_size]; exact hl
    obtain ⟨_, ⟨t2, p2, c2⟩, ⟨t3, p3, c3⟩, _⟩ := ht
    rcases ha : Lib.atoiAll (bs w).data.toList with v | _ | _
    · have hb := Lib.atoiAll_bounds ha
      refine (Tryz.strconv_Atoi_ok (bs w) (by omega) v ha W).mono ?_
      rintro en w' ⟨rfl, q⟩
      refine ⟨_, _, rfl, ?_, ⟨v, .nilIface, rfl, hb.1, hb.2, .inl ⟨rfl, fun n hn => by rw [hs] at hn; cases hn⟩⟩, tup2 _ _⟩
      rcases q with rfl | ⟨t, rfl⟩
      · exact Below.refl _ _
      · exact Lib.bytesWorld_below _ _ _
    · refine (Tryz.strconv_Atoi_syntax (bs w) hsz ⟨fun q => (by rw [ha] at q; cases q), fun v q => (by rw [ha] at q; cases q)⟩ _ W c2 (.inr ⟨_, _, rfl⟩)).mono ?_
      rintro en w' ⟨N, rfl, _, _, hb⟩
      exact ⟨_, _, rfl, hb, ⟨0, _, rfl, by decide, by decide, .inr ⟨⟨_, _, rfl⟩, hs⟩⟩, tup2 _ _⟩
    · have hb := Lib.atoiSat_bounds (bs w).data.toList
      refine (Tryz.strconv_Atoi_range (bs w) hsz ha _ W c3 (.inr ⟨_, _, rfl⟩)).mono ?_
      rintro en w' ⟨N, rfl, _, _, hb'⟩
      exact ⟨_, _, rfl, hb', ⟨_, _, rfl, hb.1, hb.2, .inr ⟨⟨_, _, rfl⟩, hs⟩⟩, tup2 _ _⟩
end Go.Proofs.YtfjelkjlfcafgaaGreatDoor.CardD
end
section
/- Cards: slices.Equal at three types, slices.Clone. (Made by gen_carde.py.) -/
namespace Go.Proofs.YtfjelkjlfcafgaaGreatDoor.CardE
open Go Go.RowKit Go.Proofs.YtfjelkjlfcafgaaGreatDoor.Ax Go.Proofs.YtfjelkjlfcafgaaGreatDoor.Ti Go.Proofs.YtfjelkjlfcafgaaGreatDoor.NumS Go.Proofs.YtfjelkjlfcafgaaGreatDoor.NumT Go.Proofs.YtfjelkjlfcafgaaGreatDoor.CardS Go.Proofs.YtfjelkjlfcafgaaGreatDoor.CardP Go.Proofs.YtfjelkjlfcafgaaGreatDoor.CardA Go.Proofs.YtfjelkjlfcafgaaGreatDoor.CardB Go.Proofs.YtfjelkjlfcafgaaGreatDoor.CardC Go.Proofs.YtfjelkjlfcafgaaGreatDoor.CardD
set_option linter.unusedSimpArgs false
set_option linter.unusedVariables false
set_option maxRecDepth 4000
set_option maxHeartbeats 2000000
theorem rTI : type_of% (cj @ti3 (cj @ti4 (cj @ti9 (cj @ti5 (cj @ti36 (cj @ti63 (cj @ti62 (cj @ti24 (cj @Nat.zero_add (cj @tz0 (cj @tz1 (cj @tz3 (cj @Nat.mul_one @Int.toNat_natCast))))))))))))) := cj @ti3 (cj @ti4 (cj @ti9 (cj @ti5 (cj @ti36 (cj @ti63 (cj @ti62 (cj @ti24 (cj @Nat.zero_add (cj @tz0 (cj @tz1 (cj @tz3 (cj @Nat.mul_one @Int.toNat_natCast))))))))))))

def iv (z : Int) : AV := .v (.int .i64 z)
def IL (l : List Int) : List AV := l.map iv
def NC (l : List Num) : List AV := l.flatMap fun n => [iv n.1, iv n.2]
def IV (l : List Int) : AV := .sl l.length (IL l)
def NV (l : List Num) : AV := .sl l.length (NC l)
theorem nc_len (l : List Num) : (NC l).length = l.length * 2 := by
  induction l with
  | nil => rfl
  | cons a l ih => simp [NC, List.flatMap_cons] at ih ⊢; omega
theorem nc_at : ∀ (l : List Num) (k : Nat), k < l.length → ((NC l).drop (k * 2)).take 2 = [iv (l.getD k (0, 0)).1, iv (l.getD k (0, 0)).2]
  | [], k, h => absurd h (Nat.not_lt_zero _)
  | a :: l, 0, h => rfl
  | a :: l, k + 1, h => by
    have := nc_at l k (Nat.lt_of_succ_lt_succ h)
    rw [List.getD_cons_succ, ← this]
    show ((iv a.1 :: iv a.2 :: NC l).drop ((k + 1) * 2)).take 2 = _
    rw [show (k + 1) * 2 = k * 2 + 1 + 1 by omega]
    rfl
theorem hd_IL (l : List Int) (k : Nat) (h : k < l.length) : ((IL l).drop k).head? = some (iv (l.getD k 0)) := by
  rw [List.head?_drop]
  simp [IL, List.getElem?_eq_getElem h, List.getD]
theorem take_eq {α : Type} {a b : List α} {d : α} {k : Nat} (hl : a.length = b.length) (hk : k < a.length) (h : a.take k = b.take k) (e : a.getD k d = b.getD k d) : a.take (k + 1) = b.take (k + 1) := by
  rw [List.getD_eq_getElem?_getD, List.getD_eq_getElem?_getD, List.getElem?_eq_getElem hk, List.getElem?_eq_getElem (hl ▸ hk)] at e
  rw [List.take_succ_eq_append_getElem hk, List.take_succ_eq_append_getElem (hl ▸ hk), h]
  simp only [Option.getD_some] at e
  rw [e]
theorem bl_at (l : List Str) (h : BL l) (k : Nat) : By (l.getD k []) := by
  rw [List.getD_eq_getElem?_getD]
  cases q : l[k]? with
  | none => exact fun c hc => by cases hc
  | some x => exact h x (List.mem_of_getElem? q)
theorem ne_at {α : Type} {a b : List α} {d : α} {k : Nat} (e : a.getD k d ≠ b.getD k d) : a ≠ b := fun h => e (by rw [h])
theorem equalS_ax (a b : List Str) (ga : BL a) (gb : BL b) (ha : a.length ≤ 9223372036854775807) (hb' : b.length ≤ 9223372036854775807) : PCall Tryz.prog 84 [TV a, TV b] (.v (.bool (decide (a = b)))) := by
  refine pcall_of fun s => ?_
  unfold TV
  by_cases hl : a.length = b.length
  · refine acall_of Tryz.func84 rfl rfl (by simp [Tryz.ntmps84]) ?_; rw [Tryz.ntmps84, Tryz.results84]
    refine go (cj rTI @hl) ?_
    refine ifs ?_ ?_ <;> first | exact nope | intro hb
    refine go (cj rTI @hl) ?_
    refine aw_loop (fun m e s' => ∃ k, m = b.length - k ∧ k ≤ b.length ∧ e.n = 26 ∧ e.m 0 = .sl b.length (SL a) ∧ e.m 1 = .sl b.length (SL b) ∧ e.m 12 = .v (.int .i64 b.length) ∧ e.m 13 = .v (.int .i64 (k : Nat)) ∧ a.take k = b.take k ∧ s' = s) b.length ?_ ?_
    · refine ⟨0, by omega, by omega, ?_⟩
      (repeat' refine And.intro ?_ ?_) <;> first | exact rfl | exact fnz (cj rTI @hl) | skip
    · rintro m e s' ⟨k, rfl, hk, h1, k0, k1, k12, k13, ht, rfl⟩
      by_cases hk2 : k < b.length
      · have ha2 : k < a.length := by omega
        have f1 := hd_SL a k ha2
        have f2 := hd_SL b k hk2
        have f3 := str_ne (a.getD k []) (b.getD k []) (bl_at a ga k) (bl_at b gb k)
        unfold SV at f1 f2
        refine go (cj rTI (cj @h1 (cj @k12 @k13))) ?_
        refine ifs ?_ ?_ <;> first | exact nope | intro hb
        refine aw_skip ?_
        refine aw_seq ?_
        refine aw_block ?_
        refine aw_seq ?_
        refine aw_reg fun K hK => ?_; refine rn (cj rTI (cj @h1 @k13)) ?_; refine hK _ _ ?_; clear hK K
        refine aw_seq ?_
        refine aw_drw (.take 0 (.take 1 (.take 2 (.take 3 (.take 4 (.take 5 (.take 6 (.take 7 (.take 8 (.done)))))))))) [] (by kernel_rfl) (by kernel_rfl) fun K hK => ?_; refine dr (cj rTI (cj @h1 (cj @k0 (cj @k1 (cj @k13 (cj @f1 (cj @f2 @f3))))))) ?_; refine hK _ _ ?_; clear hK K
        by_cases q : a.getD k [] = b.getD k []
        · have ht2 := take_eq hl ha2 ht q
          rw [decide_eq_true q]
          refine ifs ?_ ?_ <;> first | exact nope | intro hb
          refine go (cj rTI (cj @h1 @k13)) ?_
          simp only [block_normal, loop_normal]
          refine ⟨b.length - (k + 1), by omega, k + 1, rfl, by omega, ?_, ?_, ?_, ?_, ?_, ht2, trivial⟩
          all_goals ((first | refine rn (cj @h1 (cj @k0 (cj @k1 (cj @k12 @k13)))) ?_ | exact rn0 (cj @h1 (cj @k0 (cj @k1 (cj @k12 @k13))))))
          all_goals rfl
        · rw [decide_eq_false (ne_at q)]
          rw [decide_eq_false q]
          refine ifs ?_ ?_ <;> first | exact nope | intro hb
          exact go0 (cj rTI @h1)
      · obtain rfl : k = b.length := by omega
        rw [List.take_length, ← hl, List.take_length] at ht
        rw [decide_eq_true ht]
        refine go (cj rTI (cj @h1 (cj @k12 @k13))) ?_
        refine ifs ?_ ?_ <;> first | exact nope | intro hb
        exact go0 (cj rTI @h1)
  · rw [decide_eq_false fun h => hl (by rw [h])]
    have hl2 : ¬ ((a.length : Int) = (b.length : Int)) := by omega
    refine acall_of Tryz.func84 rfl rfl (by simp [Tryz.ntmps84]) ?_; rw [Tryz.ntmps84, Tryz.results84]
    refine go rTI ?_
    refine ifs ?_ ?_ <;> first | exact nope | intro hb
    exact go0 rTI
theorem equalI_ax (a b : List Int) (ha : a.length ≤ 9223372036854775807) (hb' : b.length ≤ 9223372036854775807) : PCall Tryz.prog 140 [IV a, IV b] (.v (.bool (decide (a = b)))) := by
  refine pcall_of fun s => ?_
  unfold IV
  by_cases hl : a.length = b.length
  · refine acall_of Tryz.func140 rfl rfl (by simp [Tryz.ntmps140]) ?_; rw [Tryz.ntmps140, Tryz.results140]
    refine go (cj rTI @hl) ?_
    refine ifs ?_ ?_ <;> first | exact nope | intro hb
    refine go (cj rTI @hl) ?_
    refine aw_loop (fun m e s' => ∃ k, m = b.length - k ∧ k ≤ b.length ∧ e.n = 26 ∧ e.m 0 = .sl b.length (IL a) ∧ e.m 1 = .sl b.length (IL b) ∧ e.m 12 = .v (.int .i64 b.length) ∧ e.m 13 = .v (.int .i64 (k : Nat)) ∧ a.take k = b.take k ∧ s' = s) b.length ?_ ?_
    · refine ⟨0, by omega, by omega, ?_⟩
      (repeat' refine And.intro ?_ ?_) <;> first | exact rfl | exact fnz (cj rTI @hl) | skip
    · rintro m e s' ⟨k, rfl, hk, h1, k0, k1, k12, k13, ht, rfl⟩
      by_cases hk2 : k < b.length
      · have ha2 : k < a.length := by omega
        have f1 := hd_IL a k ha2
        have f2 := hd_IL b k hk2
        unfold iv at f1 f2
        refine go (cj rTI (cj @h1 (cj @k12 @k13))) ?_
        refine ifs ?_ ?_ <;> first | exact nope | intro hb
        refine aw_skip ?_
        refine aw_seq ?_
        refine aw_block ?_
        refine aw_seq ?_
        refine aw_reg fun K hK => ?_; refine rn (cj rTI (cj @h1 @k13)) ?_; refine hK _ _ ?_; clear hK K
        refine aw_seq ?_
        refine aw_drw (.take 0 (.take 1 (.take 2 (.take 3 (.take 4 (.take 5 (.take 6 (.take 7 (.take 8 (.done)))))))))) [] (by kernel_rfl) (by kernel_rfl) fun K hK => ?_; refine dr (cj rTI (cj @h1 (cj @k0 (cj @k1 (cj @k13 (cj @f1 @f2)))))) ?_; refine hK _ _ ?_; clear hK K
        by_cases q : a.getD k 0 = b.getD k 0
        · have ht2 := take_eq hl ha2 ht q
          
          refine ifs ?_ ?_ <;> first | exact nope | intro hb
          refine go (cj rTI (cj @h1 @k13)) ?_
          simp only [block_normal, loop_normal]
          refine ⟨b.length - (k + 1), by omega, k + 1, rfl, by omega, ?_, ?_, ?_, ?_, ?_, ht2, trivial⟩
          all_goals ((first | refine rn (cj @h1 (cj @k0 (cj @k1 (cj @k12 @k13)))) ?_ | exact rn0 (cj @h1 (cj @k0 (cj @k1 (cj @k12 @k13))))))
          all_goals rfl
        · rw [decide_eq_false (ne_at q)]
          
          refine ifs ?_ ?_ <;> first | exact nope | intro hb
          exact go0 (cj rTI @h1)
      · obtain rfl : k = b.length := by omega
        rw [List.take_length, ← hl, List.take_length] at ht
        rw [decide_eq_true ht]
        refine go (cj rTI (cj @h1 (cj @k12 @k13))) ?_
        refine ifs ?_ ?_ <;> first | exact nope | intro hb
        exact go0 (cj rTI @h1)
  · rw [decide_eq_false fun h => hl (by rw [h])]
    have hl2 : ¬ ((a.length : Int) = (b.length : Int)) := by omega
    refine acall_of Tryz.func140 rfl rfl (by simp [Tryz.ntmps140]) ?_; rw [Tryz.ntmps140, Tryz.results140]
    refine go rTI ?_
    refine ifs ?_ ?_ <;> first | exact nope | intro hb
    exact go0 rTI
theorem equalN_ax (a b : List Num) (ha : a.length ≤ 9223372036854775807) (hb' : b.length ≤ 9223372036854775807) : PCall Tryz.prog 139 [NV a, NV b] (.v (.bool (decide (a = b)))) := by
  refine pcall_of fun s => ?_
  unfold NV
  by_cases hl : a.length = b.length
  · refine acall_of Tryz.func139 rfl rfl (by simp [Tryz.ntmps139]) ?_; rw [Tryz.ntmps139, Tryz.results139]
    refine go (cj rTI @hl) ?_
    refine ifs ?_ ?_ <;> first | exact nope | intro hb
    refine go (cj rTI @hl) ?_
    refine aw_loop (fun m e s' => ∃ k, m = b.length - k ∧ k ≤ b.length ∧ e.n = 26 ∧ e.m 0 = .sl b.length (NC a) ∧ e.m 1 = .sl b.length (NC b) ∧ e.m 12 = .v (.int .i64 b.length) ∧ e.m 13 = .v (.int .i64 (k : Nat)) ∧ a.take k = b.take k ∧ s' = s) b.length ?_ ?_
    · refine ⟨0, by omega, by omega, ?_⟩
      (repeat' refine And.intro ?_ ?_) <;> first | exact rfl | exact fnz (cj rTI @hl) | skip
    · rintro m e s' ⟨k, rfl, hk, h1, k0, k1, k12, k13, ht, rfl⟩
      by_cases hk2 : k < b.length
      · have ha2 : k < a.length := by omega
        have f1 := nc_at a k ha2
        have f2 := nc_at b k hk2
        have f3 : 2 ≤ ((NC a).drop (k * 2)).length := by rw [List.length_drop, nc_len]; omega
        have f4 : 2 ≤ ((NC b).drop (k * 2)).length := by rw [List.length_drop, nc_len]; omega
        unfold iv at f1 f2
        have f5 : eqOk Tryz.prog 24 = true := by kernel_rfl
        have f6 : ((a.getD k (0, 0)).1 == (b.getD k (0, 0)).1 && (a.getD k (0, 0)).2 == (b.getD k (0, 0)).2) = decide (a.getD k (0, 0) = b.getD k (0, 0)) := by rw [Bool.eq_iff_iff, decide_eq_true_eq, Prod.ext_iff]; simp
        refine go (cj rTI (cj @h1 (cj @k12 @k13))) ?_
        refine ifs ?_ ?_ <;> first | exact nope | intro hb
        refine aw_skip ?_
        refine aw_seq ?_
        refine aw_block ?_
        refine aw_seq ?_
        refine aw_reg fun K hK => ?_; refine rn (cj rTI (cj @h1 @k13)) ?_; refine hK _ _ ?_; clear hK K
        refine aw_seq ?_
        refine aw_drw (.take 0 (.take 1 (.take 2 (.take 3 (.take 4 (.take 5 (.take 6 (.take 7 (.take 8 (.done)))))))))) [] (by kernel_rfl) (by kernel_rfl) fun K hK => ?_; refine dr (cj rTI (cj @h1 (cj @k0 (cj @k1 (cj @k13 (cj @f1 (cj @f2 (cj @f3 (cj @f4 (cj @f5 @f6)))))))))) ?_; refine hK _ _ ?_; clear hK K
        by_cases q : a.getD k (0, 0) = b.getD k (0, 0)
        · have ht2 := take_eq hl ha2 ht q
          rw [decide_eq_true q]
          refine ifs ?_ ?_ <;> first | exact nope | intro hb
          refine go (cj rTI (cj @h1 @k13)) ?_
          simp only [block_normal, loop_normal]
          refine ⟨b.length - (k + 1), by omega, k + 1, rfl, by omega, ?_, ?_, ?_, ?_, ?_, ht2, trivial⟩
          all_goals ((first | refine rn (cj @h1 (cj @k0 (cj @k1 (cj @k12 @k13)))) ?_ | exact rn0 (cj @h1 (cj @k0 (cj @k1 (cj @k12 @k13))))))
          all_goals rfl
        · rw [decide_eq_false (ne_at q)]
          rw [decide_eq_false q]
          refine ifs ?_ ?_ <;> first | exact nope | intro hb
          exact go0 (cj rTI @h1)
      · obtain rfl : k = b.length := by omega
        rw [List.take_length, ← hl, List.take_length] at ht
        rw [decide_eq_true ht]
        refine go (cj rTI (cj @h1 (cj @k12 @k13))) ?_
        refine ifs ?_ ?_ <;> first | exact nope | intro hb
        exact go0 (cj rTI @h1)
  · rw [decide_eq_false fun h => hl (by rw [h])]
    have hl2 : ¬ ((a.length : Int) = (b.length : Int)) := by omega
    refine acall_of Tryz.func139 rfl rfl (by simp [Tryz.ntmps139]) ?_; rw [Tryz.ntmps139, Tryz.results139]
    refine go rTI ?_
    refine ifs ?_ ?_ <;> first | exact nope | intro hb
    exact go0 rTI
theorem pcall_nil {f : FuncId} {r : AV} (h : ∀ (a : Option Addr) (cap : Nat), PCall Tryz.prog f [.v (.slice a 0 cap)] r) : PCall Tryz.prog f [.sl 0 []] r := fun s =>
  ⟨(h none 0 s).1, fun w0 k w vs hs hv => by
    match vs, hv with
    | [u], hv =>
      have hr := hv.2 0 _ u rfl rfl
      cases hr with
      | sl _ cap _ a us hn h1 h2 => exact (h (some a) cap s).2 w0 k w _ hs ⟨rfl, fun j z u hz hu => by
          match j with
          | 0 => simp at hz hu; subst hz hu; exact .v _
          | j + 1 => simp at hz⟩
      | sl0 a cap => exact (h a cap s).2 w0 k w _ hs ⟨rfl, fun j z u hz hu => by
          match j with
          | 0 => simp at hz hu; subst hz hu; exact .v _
          | j + 1 => simp at hz⟩
    | [], hv => simp [RelL] at hv
    | _ :: _ :: _, hv => simp [RelL] at hv⟩
theorem sl_len (l : List Str) : (SL l).length = l.length := by simp [SL]
theorem sl_take (l : List Str) : (SL l).take (l.length * 1) = SL l := by rw [Nat.mul_one, ← sl_len, List.take_length]
theorem sl_one (l : List Str) : (SL l).all AV.one = true := by
  rw [List.all_eq_true]
  intro z hz
  obtain ⟨x, _, rfl⟩ := List.mem_map.1 hz
  rfl
theorem sl_idf (l : List Str) : idf.idfL (SL l) = true := (idfL_iff _).2 fun z hz => by
  obtain ⟨x, _, rfl⟩ := List.mem_map.1 hz
  rfl
theorem tv_idf (l : List Str) : idf (TV l) = true := sl_idf l
theorem clone_ax (l : List Str) (hl : l.length ≤ 100000) : PCall Tryz.prog 92 [TV l] (TV l) := by
  cases l with
  | nil =>
    refine pcall_nil fun a cap => ?_
    cases a with
    | none =>
      refine pcall_le fun s => ?_
      refine acall_of Tryz.func92 rfl rfl (by simp [Tryz.ntmps92]) ?_; rw [Tryz.ntmps92, Tryz.results92]
      refine go rTI ?_
      refine ifs ?_ ?_ <;> first | exact nope | intro hb
      refine go rTI ?_
      exact ⟨Le.nil 0 0 rfl, rfl⟩
    | some a =>
      refine pcall_own rfl fun s => ?_
      refine acall_of Tryz.func92 rfl rfl (by simp [Tryz.ntmps92]) ?_; rw [Tryz.ntmps92, Tryz.results92]
      refine go rTI ?_
      refine ifs ?_ ?_ <;> first | exact nope | intro hb
      refine go rTI ?_
      exact ⟨s.nx + 1, _, by omega, if_pos rfl, by simp [frz, TV, SL], fun j hj => by rw [if_neg (by omega), if_neg (by omega)]⟩
  | cons x r =>
    generalize hy : x :: r = y at *
    have h0 : 0 < y.length := by rw [← hy]; exact Nat.succ_pos _
    clear hy
    have e1 := sl_len y
    have e2 := sl_take y
    have e3 := sl_one y
    unfold TV
    refine pcall_own (sl_idf y) fun s => ?_
    refine acall_of Tryz.func92 rfl rfl (by simp [Tryz.ntmps92]) ?_; rw [Tryz.ntmps92, Tryz.results92]
    refine go rTI ?_
    refine ifs ?_ ?_ <;> first | exact nope | intro hb
    refine go (cj rTI (cj @e1 (cj @e2 @e3))) ?_
    exact ⟨s.nx + 1, _, by omega, if_pos rfl, by rw [frz_own, List.nil_append, List.drop_zero, e2], fun j hj => by rw [if_neg (by omega), if_neg (by omega)]⟩
end Go.Proofs.YtfjelkjlfcafgaaGreatDoor.CardE
end
section
/- Cards: the reader: next, num, step. -/
namespace Go.Proofs.YtfjelkjlfcafgaaGreatDoor.CardF
open Go Go.RowKit Go.Proofs.YtfjelkjlfcafgaaGreatDoor.Ax Go.Proofs.YtfjelkjlfcafgaaGreatDoor.Ti Go.Proofs.YtfjelkjlfcafgaaGreatDoor.NumS Go.Proofs.YtfjelkjlfcafgaaGreatDoor.NumT Go.Proofs.YtfjelkjlfcafgaaGreatDoor.CardS Go.Proofs.YtfjelkjlfcafgaaGreatDoor.CardP Go.Proofs.YtfjelkjlfcafgaaGreatDoor.CardA Go.Proofs.YtfjelkjlfcafgaaGreatDoor.CardB Go.Proofs.YtfjelkjlfcafgaaGreatDoor.CardC Go.Proofs.YtfjelkjlfcafgaaGreatDoor.CardD Go.Proofs.YtfjelkjlfcafgaaGreatDoor.CardE
open Go.Proofs.YtfjelkjlfcafgaaGreatDoor.NumA (NM)
open Go.Proofs.YtfjelkjlfcafgaaGreatDoor.NumW (parseV)
set_option linter.unusedSimpArgs false
set_option linter.unusedVariables false
set_option maxRecDepth 4000
set_option maxHeartbeats 2000000
theorem rTI : type_of% (cj @ti3 (cj @ti4 (cj @ti9 (cj @ti5 (cj @ti36 (cj @ti63 (cj @ti62 (cj @ti24 (cj @ti25 (cj @ti144 (cj @ti101 (cj @ti146 (cj @Nat.zero_add (cj @tz0 (cj @tz1 (cj @tz3 (cj @Nat.mul_one @Int.toNat_natCast))))))))))))))))) := cj @ti3 (cj @ti4 (cj @ti9 (cj @ti5 (cj @ti36 (cj @ti63 (cj @ti62 (cj @ti24 (cj @ti25 (cj @ti144 (cj @ti101 (cj @ti146 (cj @Nat.zero_add (cj @tz0 (cj @tz1 (cj @tz3 (cj @Nat.mul_one @Int.toNat_natCast))))))))))))))))
variable {P : Program}
theorem acall_upd {f : FuncId} {zs : List AV} {s : St} {R : AV → Prop} (id : Nat) (c : List AV) (hid : id < s.nx) (hc : idf.idfL c = true)
    (h : ACall P f zs s fun r s' => R r ∧ idf r = true ∧ s'.get id = some c ∧ ∀ i, i < s.nx → i ≠ id → s'.get i = s.get i) : ACall P f zs s fun r s' => R r ∧ s' = s.set id c := by
  refine ⟨h.1, fun w0 k w vs hs hv => (h.2 w0 k w vs hs hv).mono ?_⟩
  rintro en w' ⟨v, r, s', k', rfl, ⟨hR, hf, hgi, hg⟩, hs', hr, hk⟩
  refine ⟨v, r, s.set id c, ⟨k'.φ, s.nx, k'.S, k'.tab⟩, rfl, ⟨hR, rfl⟩, ⟨rfl, hs'.fz, ?_, ?_, ?_, hs'.shp, hs.tz⟩, rel_free hr (fun _ _ h => h) hf, ⟨Nat.le_refl _, hk.2.1, hk.2.2⟩⟩
  · intro i d hi
    by_cases e : i = id
    · subst e; exact hid
    · rw [St.set_ne _ _ _ _ e] at hi
      exact hs.lt i d hi
  · intro i d hi
    by_cases e : i = id
    · subst e
      rw [St.set_same] at hi
      injection hi with hi
      subst hi
      obtain ⟨h1, h2⟩ := hs'.box i c hgi
      refine ⟨h1, fun j hj => ?_⟩
      obtain ⟨u, q1, q2, q3, q4⟩ := h2 j hj
      exact ⟨u, q1, q2, q3, fun z hz => rel_free (q4 z hz) (fun _ _ h => h) ((idfL_iff c).1 hc z (List.mem_of_getElem? hz))⟩
    · rw [St.set_ne _ _ _ _ e] at hi
      have hlt := hs.lt i d hi
      obtain ⟨h1, h2⟩ := hs'.box i d ((hg i hlt e).trans hi)
      obtain ⟨o1, o2⟩ := hs.box i d hi
      refine ⟨h1, fun j hj => ?_⟩
      obtain ⟨u, q1, q2, q3, q4⟩ := h2 j hj
      refine ⟨u, q1, q2, q3, fun z hz => ?_⟩
      obtain ⟨u0, _, _, _, p4⟩ := o2 j (by
        have := (List.getElem?_eq_some_iff.1 hz).1
        omega)
      have := rel_cut (p4 z hz) (q4 z hz)
      rwa [hs.m] at this
  · intro i j d d' hi hj
    have key : ∀ i d, (s.set id c).get i = some d → ∃ d', s'.get i = some d' := fun i d hi => by
      by_cases e : i = id
      · subst e; exact ⟨c, hgi⟩
      · rw [St.set_ne _ _ _ _ e] at hi
        exact ⟨d, (hg i (hs.lt i d hi) e).trans hi⟩
    obtain ⟨d1, h1⟩ := key i d hi
    obtain ⟨d2, h2⟩ := key j d' hj
    exact hs'.sep i j d1 d2 h1 h2
def rdr (ws : List Str) (e : Int) : List AV := [TV ws, iv e]
theorem rdr_idf (ws : List Str) (e : Int) : idf.idfL (rdr ws e) = true := by
  show (idf (TV ws) && true) = true
  rw [tv_idf]
  rfl
theorem next_ax (s : St) (id : Nat) (w : Str) (r : List Str) (e : Int) (hi : s.get id = some (rdr (w :: r) e)) (hid : id < s.nx) (hl : r.length < 9223372036854775807) :
    ACall Tryz.prog 93 [.ptr id 0] s fun x s' => x = SV w ∧ s' = s.set id (rdr r e) := by
  refine acall_upd id _ hid (rdr_idf _ _) ?_
  have hD := TV_drop (w :: r) 1
  rw [List.drop_succ_cons, List.drop_zero] at hD
  have hn : ((w :: r).length : Int) = (r.length : Int) + 1 := rfl
  have hl2 : (w :: r).length = r.length + 1 := rfl
  have hd : (SL (w :: r)).head? = some (.v (.string (bs w))) := rfl
  rw [show (List.drop 1 (SL (w :: r))) = SL r from rfl] at hD
  unfold rdr TV iv at hi
  unfold rdr iv SV
  refine acall_of Tryz.func93 rfl rfl (by simp [Tryz.ntmps93]) ?_; rw [Tryz.ntmps93, Tryz.results93]
  refine go (cj rTI (cj @hi (cj @hd (cj @hn @hl2)))) ?_
  exact ⟨by rw [← hD]; rfl, fun i _ h => if_neg h⟩
theorem decS_by (z : Int) : By (decS z) := by
  intro c hc
  unfold decS at hc
  split at hc
  · simp at hc; omega
  · rcases List.mem_append.1 hc with hc | hc
    · split at hc
      · simp at hc; omega
      · cases hc
    · have := (isD_iff c).1 (decN_isD _ c hc)
      omega
theorem num_ax (s : St) (id : Nat) (w : Str) (r : List Str) (e : Int) (hw : By w) (hi : s.get id = some (rdr (w :: r) e)) (hid : id < s.nx) (hl : r.length < 9223372036854775807) :
    ACall Tryz.prog 94 [.ptr id 0] s fun x s' => x = NM (numV w).1 (numV w).2 ∧ s' = s.set id (rdr r (numE w e)) := by
  refine acall_upd id _ hid (rdr_idf _ _) ?_
  have hp := NumE.parse_any w hw
  unfold numV numE
  unfold parseV at hp
  generalize parseS w = p at *
  obtain ⟨m, x, e2⟩ := p
  simp only at hp ⊢
  have hnx : ∀ zc, ACall Tryz.prog 93 [.ptr id 0] (s.push zc) fun x s' => x = SV w ∧ s' = (s.push zc).set id (rdr r e) := fun zc => next_ax _ id w r e (by rw [St.push_ne _ _ _ (by omega)]; exact hi) (by rw [St.nx_push]; omega) hl
  have hid2 : id ≠ s.nx := by omega
  have hid3 : id ≠ s.nx + 1 := by omega
  unfold NM at hp ⊢
  unfold rdr iv at hnx ⊢
  clear hi
  by_cases he : e = 0
  · rw [if_pos he]
    subst he
    refine acall_of Tryz.func94 rfl rfl (by simp [Tryz.ntmps94]) ?_; rw [Tryz.ntmps94, Tryz.results94]
    refine go rTI ?_
    refine aw_reg fun K hK => ?_; refine rn rTI ?_; refine cont_go (hnx _) ?_; rintro _ s1 ⟨rfl, rfl⟩; refine rn rTI ?_; refine cont_pure hp ?_; refine rn rTI ?_; refine hK _ _ ?_; clear hK K
    refine go rTI ?_
    refine ifs ?_ ?_ <;> first | exact nope | intro hb
    refine go rTI ?_
    exact fun i h1 h2 => by rw [if_neg (by omega), if_neg (by omega), if_neg (by omega)]
  · rw [if_neg he]
    refine acall_of Tryz.func94 rfl rfl (by simp [Tryz.ntmps94]) ?_; rw [Tryz.ntmps94, Tryz.results94]
    refine go rTI ?_
    refine aw_reg fun K hK => ?_; refine rn rTI ?_; refine cont_go (hnx _) ?_; rintro _ s1 ⟨rfl, rfl⟩; refine rn rTI ?_; refine cont_pure hp ?_; refine rn rTI ?_; refine hK _ _ ?_; clear hK K
    refine go rTI ?_
    refine ifs ?_ ?_ <;> first | exact nope | intro hb
    refine go rTI ?_
    exact fun i h1 h2 => by rw [if_neg (by omega), if_neg (by omega), if_neg (by omega)]
theorem step_none (w : Str) (z : Int) (hz : ∀ n, stepS w = some n → z = n) (h : decS z ≠ w ∨ z < 0 ∨ 1000000000 < z) : stepS w = none := by
  cases hs : stepS w with
  | none => rfl
  | some n =>
    have := hz n hs
    obtain ⟨h1, h2, h3⟩ := step_le w n hs
    subst this
    rcases h with h | h | h
    · exact absurd h3 h
    · omega
    · omega
theorem step_ax (s : St) (id : Nat) (w : Str) (r : List Str) (e : Int) (hw : By w) (hwl : w.length ≤ 281474976710656) (hi : s.get id = some (rdr (w :: r) e)) (hid : id < s.nx) (hl : r.length < 9223372036854775807) :
    ACall Tryz.prog 144 [.ptr id 0] s fun x s' => (∃ n, x = iv n ∧ (stepE w e = 0 → n = stepV w)) ∧ s' = s.set id (rdr r (stepE w e)) := by
  refine acall_upd id _ hid (rdr_idf _ _) ?_
  have hnx := next_ax s id w r e hi hid hl
  have hat := atoi_any w hwl
  unfold rdr iv at hnx ⊢
  unfold SV at hnx hat
  clear hi
  refine acall_of Tryz.func144 rfl rfl (by simp [Tryz.ntmps144]) ?_; rw [Tryz.ntmps144, Tryz.results144]
  refine go rTI ?_
  refine aw_reg fun K hK => ?_; refine rn rTI ?_; refine cont_go hnx ?_; rintro _ s1 ⟨rfl, rfl⟩; refine rn rTI ?_; refine hK _ _ ?_; clear hK K
  refine go rTI ?_
  refine aw_reg fun K hK => ?_; refine rn rTI ?_; refine cont_go (hat _) ?_; rintro x s1 ⟨⟨z, v, rfl, z0, z1, hv⟩, rfl⟩; refine rn rTI ?_; refine hK _ _ ?_; clear hK K
  have hit := itoa_ax z z0 z1
  unfold SV at hit
  have hne := str_ne (decS z) w (decS_by z) hw
  have hx : ∀ b, stepE w b = if b = 0 then (if (stepS w).isSome then 0 else 3) else b := fun _ => rfl
  have hy : stepV w = (stepS w).getD 0 := rfl
  rw [hx, hy]
  by_cases he : e = 0
  · subst he
    rw [if_pos rfl]
    rcases hv with ⟨rfl, hz⟩ | ⟨⟨t, p, rfl⟩, hn⟩
    · have hc : ∀ b, (!decide (decS z = w)) = b → b = true → stepS w = none := fun b h1 h2 => by
        subst h1
        exact step_none w z hz (.inl (by simpa using h2))
      generalize hq : (!decide (decS z = w)) = b1 at *
      by_cases q2 : b1 = true ∨ z < 0 ∨ 1000000000 < z
      · have hn : stepS w = none := by
          rcases q2 with q2 | q2
          · exact hc b1 rfl q2
          · exact step_none w z hz (.inr q2)
        rw [hn]
        clear hz hc hq hn
        cases b1 with
        | true =>
          clear q2
          rw [then_normal]
          refine aw_seq ?_
          refine aw_seq ?_
          refine aw_reg fun K hK => ?_; refine rn (cj rTI @hne) ?_; refine cont_pure hit ?_; refine rn (cj rTI @hne) ?_; refine hK _ _ ?_; clear hK K
          refine ifs ?_ ?_ <;> first | exact nope | intro hb
          refine go rTI ?_
          exact ⟨⟨z, rfl, fun h => by simp at h⟩, rfl, fun i h1 h2 => if_neg h2⟩
        | false =>
          have q3 : z < 0 ∨ 1000000000 < z := by
            rcases q2 with q2 | q2
            · cases q2
            · exact q2
          clear q2
          rw [then_normal]
          refine aw_seq ?_
          refine aw_seq ?_
          rcases q3 with q3 | q3
          · refine aw_reg fun K hK => ?_; refine rn (cj rTI @hne) ?_; refine cont_pure hit ?_; refine rn (cj rTI @hne) ?_; refine hK _ _ ?_; clear hK K
            refine ifs ?_ ?_ <;> first | exact nope | intro hb
            refine go rTI ?_
            exact ⟨⟨z, rfl, fun h => by simp at h⟩, rfl, fun i h1 h2 => if_neg h2⟩
          · have q4 : ¬ z < 0 := by omega
            refine aw_reg fun K hK => ?_; refine rn (cj rTI @hne) ?_; refine cont_pure hit ?_; refine rn (cj rTI @hne) ?_; refine hK _ _ ?_; clear hK K
            refine ifs ?_ ?_ <;> first | exact nope | intro hb
            refine go rTI ?_
            exact ⟨⟨z, rfl, fun h => by simp at h⟩, rfl, fun i h1 h2 => if_neg h2⟩
      · have q3 : b1 = false := by
          cases b1
          · rfl
          · exact absurd (.inl rfl) q2
        subst q3
        have q4 : decS z = w := by simpa using hq
        have hn := dec_step z (by omega) (by omega)
        rw [q4] at hn
        rw [hn]
        clear hz hc hq hn
        rw [then_normal]
        refine aw_seq ?_
        refine aw_seq ?_
        refine aw_reg fun K hK => ?_; refine rn (cj rTI @hne) ?_; refine cont_pure hit ?_; refine rn (cj rTI @hne) ?_; refine hK _ _ ?_; clear hK K
        refine ifs ?_ ?_ <;> first | exact nope | intro hb
        refine go rTI ?_
        exact ⟨⟨z, rfl, fun _ => rfl⟩, rfl, fun i h1 h2 => if_neg h2⟩
    · rw [hn]
      refine go rTI ?_
      refine ifs ?_ ?_ <;> first | exact nope | intro hb
      refine go rTI ?_
      exact ⟨⟨z, rfl, fun h => by simp at h⟩, rfl, fun i h1 h2 => if_neg h2⟩
  · rw [if_neg he]
    refine go rTI ?_
    refine ifs ?_ ?_ <;> first | exact nope | intro hb
    refine go rTI ?_
    exact ⟨⟨z, rfl, fun h => absurd h he⟩, fun i h1 h2 => if_neg h2⟩
end Go.Proofs.YtfjelkjlfcafgaaGreatDoor.CardF
end
section
/- Cards: the reader: wave. -/
namespace Go.Proofs.YtfjelkjlfcafgaaGreatDoor.CardG
open Go Go.RowKit Go.Proofs.YtfjelkjlfcafgaaGreatDoor.Ax Go.Proofs.YtfjelkjlfcafgaaGreatDoor.Ti Go.Proofs.YtfjelkjlfcafgaaGreatDoor.NumS Go.Proofs.YtfjelkjlfcafgaaGreatDoor.NumT Go.Proofs.YtfjelkjlfcafgaaGreatDoor.CardS Go.Proofs.YtfjelkjlfcafgaaGreatDoor.CardP Go.Proofs.YtfjelkjlfcafgaaGreatDoor.CardA Go.Proofs.YtfjelkjlfcafgaaGreatDoor.CardB Go.Proofs.YtfjelkjlfcafgaaGreatDoor.CardC Go.Proofs.YtfjelkjlfcafgaaGreatDoor.CardD Go.Proofs.YtfjelkjlfcafgaaGreatDoor.CardE Go.Proofs.YtfjelkjlfcafgaaGreatDoor.CardF
open Go.Proofs.YtfjelkjlfcafgaaGreatDoor.NumA (NM)
set_option linter.unusedSimpArgs false
set_option linter.unusedVariables false
set_option maxRecDepth 4000
set_option maxHeartbeats 2000000
theorem rTI : type_of% (cj @ti3 (cj @ti4 (cj @ti9 (cj @ti5 (cj @ti36 (cj @ti63 (cj @ti62 (cj @ti24 (cj @ti65 (cj @ti25 (cj @ti144 (cj @ti146 (cj @Nat.zero_add (cj @tz0 (cj @tz1 (cj @tz3 (cj @Nat.mul_one @Int.toNat_natCast))))))))))))))))) := cj @ti3 (cj @ti4 (cj @ti9 (cj @ti5 (cj @ti36 (cj @ti63 (cj @ti62 (cj @ti24 (cj @ti65 (cj @ti25 (cj @ti144 (cj @ti146 (cj @Nat.zero_add (cj @tz0 (cj @tz1 (cj @tz3 (cj @Nat.mul_one @Int.toNat_natCast))))))))))))))))
def WA (w : Wv) : AV := .ag [iv w.kind, NV w.vals, IV w.steps]
theorem il_idf (l : List Int) : idf.idfL (IL l) = true := (idfL_iff _).2 fun z hz => by
  obtain ⟨x, _, rfl⟩ := List.mem_map.1 hz
  rfl
theorem nc_idf (l : List Num) : idf.idfL (NC l) = true := (idfL_iff _).2 fun z hz => by
  obtain ⟨x, _, hz⟩ := List.mem_flatMap.1 hz
  rcases List.mem_cons.1 hz with rfl | hz
  · rfl
  · rcases List.mem_cons.1 hz with rfl | hz
    · rfl
    · cases hz
theorem wa_idf (w : Wv) : idf (WA w) = true := by
  show (idf (iv w.kind) && (idf.idfL (NC w.vals) && (idf.idfL (IL w.steps) && true))) = true
  rw [nc_idf, il_idf]
  rfl
theorem il_len (l : List Int) : (IL l).length = l.length := by simp [IL]
theorem wv_lay {P : Program} {f : FuncId} {zs : List AV} {s : St} (id : Nat) (c : List AV) (R : Wv → Prop) (hid : id < s.nx) (hc : idf.idfL c = true)
    (h : ACall P f zs s fun x s' => ∃ W i j, R W ∧ x = .ag [iv W.kind, .own i 0 W.vals.length 2, .own j 0 W.steps.length 1] ∧ s.nx ≤ i ∧ s.nx ≤ j ∧ i ≠ j ∧ s'.get i = some (NC W.vals) ∧ s'.get j = some (IL W.steps) ∧ s'.get id = some c ∧ ∀ k, k < s.nx → k ≠ id → s'.get k = s.get k) :
    ACall P f zs s fun x s' => (∃ W, R W ∧ x = WA W) ∧ s' = s.set id c := by
  refine acall_upd id c hid hc (acall_lay (acall_lay (h.mono ?_)))
  rintro x s' ⟨W, i, j, hR, rfl, h1, h2, h3, h4, h5, h6, h7⟩
  have e1 : (NC W.vals).take (W.vals.length * 2) = NC W.vals := by rw [← nc_len, List.take_length]
  have e2 : (IL W.steps).take (W.steps.length * 1) = IL W.steps := by rw [Nat.mul_one, ← il_len, List.take_length]
  have e3 : frz.frzL j (IL W.steps) (NC W.vals) = NC W.vals := by
    apply List.ext_getElem?
    intro q
    rw [frzL_get]
    cases h : (NC W.vals)[q]? with
    | none => rfl
    | some z =>
      rw [Option.map_some, frz_idf]
      exact (idfL_iff _).1 (nc_idf W.vals) z (List.mem_of_getElem? h)
  have key : frz j (IL W.steps) (frz i (NC W.vals) (.ag [iv W.kind, .own i 0 W.vals.length 2, .own j 0 W.steps.length 1])) = WA W := by
    have e4 : ¬ j = i := fun h => h3 h.symm
    simp only [frz, frz.frzL, iv, if_true, if_neg e4, List.drop_zero, e1, e2, e3]
    rfl
  refine ⟨i, NC W.vals, fun _ => false, h4, j, IL W.steps, fun _ => false, by rw [frz_false _ _ _ _ (by omega)]; exact h5, ⟨W, hR, key⟩, ?_, ?_, fun k hk hk2 => ?_⟩
  · rw [key]; exact wa_idf W
  · rw [frz_false _ _ _ _ (by omega), frz_false _ _ _ _ (by omega)]
    exact h6
  · rw [frz_false _ _ _ _ (by omega), frz_false _ _ _ _ (by omega)]
    exact h7 k hk hk2
theorem zr2 (x y : Value) : zrow [x, y] 2 = [.v x, .v y] := by simp [zrow, List.range_succ]
theorem zr4 (x y : Value) : zrow [x, y] 4 = [.v x, .v y, .v x, .v y] := by simp [zrow, List.range_succ]
structure WI (s s' : St) (id bw iV iS : Nat) (kd : Int) (V : List Num) (S : List Int) (ws : List Str) (e : Int) : Prop where
  r : s'.get id = some (rdr ws e)
  b : s'.get bw = some [iv kd, .own iV 0 V.length 2, .own iS 0 S.length 1]
  v : s'.get iV = some (NC V)
  t : s'.get iS = some (IL S)
  o : s.nx < bw ∧ s.nx < iV ∧ s.nx < iS ∧ bw < s'.nx ∧ iV < s'.nx ∧ iS < s'.nx ∧ bw ≠ iV ∧ bw ≠ iS ∧ iV ≠ iS
  z : s'.get s.nx = some [.v (.int .i64 0), .v (.slice none 0 0), .v (.slice none 0 0)]
  fr : ∀ k, k < s.nx → k ≠ id → s'.get k = s.get k
theorem WI.num {s s' : St} {id bw iV iS : Nat} {kd : Int} {V : List Num} {S : List Int} {ws : List Str} {e : Int} (h : WI s s' id bw iV iS kd V S ws e) (hid : id < s.nx) (n : Num) (ws2 : List Str) (e2 : Int) :
    WI s (((((s'.set id (rdr ws2 e2)).push [iv n.1, iv n.2]).kill iV).push (NC V ++ [iv n.1, iv n.2])).set bw [iv kd, .own (s'.nx + 1) 0 (V.length + 1) 2, .own iS 0 S.length 1]) id bw (s'.nx + 1) iS kd (V ++ [n]) S ws2 e2 := by
  obtain ⟨o1, o2, o3, o4, o5, o6, o7, o8, o9⟩ := h.o
  have hn : (((((s'.set id (rdr ws2 e2)).push [iv n.1, iv n.2]).kill iV).push (NC V ++ [iv n.1, iv n.2])).set bw [iv kd, .own (s'.nx + 1) 0 (V.length + 1) 2, .own iS 0 S.length 1]).nx = s'.nx + 2 := rfl
  have hg : ∀ k c, k ≠ bw → k ≠ s'.nx + 1 → k ≠ iV → k ≠ s'.nx → k ≠ id → s'.get k = c → (((((s'.set id (rdr ws2 e2)).push [iv n.1, iv n.2]).kill iV).push (NC V ++ [iv n.1, iv n.2])).set bw [iv kd, .own (s'.nx + 1) 0 (V.length + 1) 2, .own iS 0 S.length 1]).get k = c := fun k c h1 h2 h3 h4 h5 h6 => by
    rw [St.set_ne _ _ _ _ h1, St.push_ne _ _ _ h2, St.kill_ne _ _ _ h3, St.push_ne (s'.set id _) _ _ h4, St.set_ne _ _ _ _ h5]
    exact h6
  refine ⟨?_, ?_, ?_, hg _ _ (by omega) (by omega) (by omega) (by omega) (by omega) h.t, ⟨o1, by omega, o3, by omega, by omega, by omega, by omega, o8, by omega⟩, hg _ _ (by omega) (by omega) (by omega) (by omega) (by omega) h.z, fun k h1 h2 => hg _ _ (by omega) (by omega) (by omega) (by omega) h2 (h.fr k h1 h2)⟩
  · rw [St.set_ne _ _ _ _ (by omega), St.push_ne _ _ _ (show id ≠ s'.nx + 1 by omega), St.kill_ne _ _ _ (by omega), St.push_ne (s'.set id _) _ _ (show id ≠ s'.nx by omega)]
    exact St.set_same _ _ _
  · rw [St.set_same, List.length_append]
    rfl
  · rw [St.set_ne _ _ _ _ (by omega)]
    have : NC (V ++ [n]) = NC V ++ [iv n.1, iv n.2] := by simp [NC]
    rw [this]
    exact St.push_same _ _
theorem WI.step {s s' : St} {id bw iV iS : Nat} {kd : Int} {V : List Num} {S : List Int} {ws : List Str} {e : Int} (h : WI s s' id bw iV iS kd V S ws e) (hid : id < s.nx) (n : Int) (ws2 : List Str) (e2 : Int) :
    WI s (((((s'.set id (rdr ws2 e2)).push [iv n]).kill iS).push (IL S ++ [iv n])).set bw [iv kd, .own iV 0 V.length 2, .own (s'.nx + 1) 0 (S.length + 1) 1]) id bw iV (s'.nx + 1) kd V (S ++ [n]) ws2 e2 := by
  obtain ⟨o1, o2, o3, o4, o5, o6, o7, o8, o9⟩ := h.o
  have hg : ∀ k c, k ≠ bw → k ≠ s'.nx + 1 → k ≠ iS → k ≠ s'.nx → k ≠ id → s'.get k = c → (((((s'.set id (rdr ws2 e2)).push [iv n]).kill iS).push (IL S ++ [iv n])).set bw [iv kd, .own iV 0 V.length 2, .own (s'.nx + 1) 0 (S.length + 1) 1]).get k = c := fun k c h1 h2 h3 h4 h5 h6 => by
    rw [St.set_ne _ _ _ _ h1, St.push_ne _ _ _ h2, St.kill_ne _ _ _ h3, St.push_ne (s'.set id _) _ _ h4, St.set_ne _ _ _ _ h5]
    exact h6
  have hn : (((((s'.set id (rdr ws2 e2)).push [iv n]).kill iS).push (IL S ++ [iv n])).set bw [iv kd, .own iV 0 V.length 2, .own (s'.nx + 1) 0 (S.length + 1) 1]).nx = s'.nx + 2 := rfl
  refine ⟨?_, ?_, hg _ _ (by omega) (by omega) (by omega) (by omega) (by omega) h.v, ?_, ⟨o1, o2, by omega, by omega, by omega, by omega, o7, by omega, by omega⟩, hg _ _ (by omega) (by omega) (by omega) (by omega) (by omega) h.z, fun k h1 h2 => hg _ _ (by omega) (by omega) (by omega) (by omega) h2 (h.fr k h1 h2)⟩
  · rw [St.set_ne _ _ _ _ (by omega), St.push_ne _ _ _ (show id ≠ s'.nx + 1 by omega), St.kill_ne _ _ _ (by omega), St.push_ne (s'.set id _) _ _ (show id ≠ s'.nx by omega)]
    exact St.set_same _ _ _
  · rw [St.set_same, List.length_append]
    rfl
  · rw [St.set_ne _ _ _ _ (by omega)]
    have : IL (S ++ [n]) = IL S ++ [iv n] := by simp [IL]
    rw [this]
    exact St.push_same _ _
def nilS : AV := .v (.slice none 0 0)
def wz : List AV := [.v (.int .i64 0), .v (.slice none 0 0), .v (.slice none 0 0)]
theorem WI.init (s : St) (id : Nat) (hid : id < s.nx) (kd : Int) (r : List Str) (e : Int) (s0 s1 s2 : St) (h0 : s0 = (((s.push wz).set id (rdr r e)).push wz).set (s.nx + 1) [iv kd, nilS, nilS])
    (h1 : s1 = (s0.push []).set (s.nx + 1) ([iv kd, nilS, nilS].set 1 (.own s0.nx 0 0 2))) (h2 : s2 = (s1.push []).set (s.nx + 1) (([iv kd, nilS, nilS].set 1 (.own s0.nx 0 0 2)).set 2 (.own s1.nx 0 0 1))) :
    WI s s2 id (s.nx + 1) (s.nx + 2) (s.nx + 3) kd [] [] r e := by
  have n0 : s0.nx = s.nx + 2 := by rw [h0]; rfl
  have n1 : s1.nx = s.nx + 3 := by rw [h1]; show s0.nx + 1 = _; omega
  have n2 : s2.nx = s.nx + 4 := by rw [h2]; show s1.nx + 1 = _; omega
  have hg : ∀ k c, k ≠ s.nx + 1 → k ≠ s.nx + 2 → k ≠ s.nx + 3 → ((s.push wz).set id (rdr r e)).get k = c → s2.get k = c := fun k c q1 q2 q3 q4 => by
    rw [h2, St.set_ne _ _ _ _ q1, St.push_ne s1 _ _ (by omega), h1, St.set_ne _ _ _ _ q1, St.push_ne s0 _ _ (by omega), h0, St.set_ne _ _ _ _ q1, St.push_ne ((s.push wz).set id _) _ _ (by rw [St.nx_set, St.nx_push]; omega)]
    exact q4
  refine ⟨hg _ _ (by omega) (by omega) (by omega) (St.set_same _ _ _), ?_, ?_, ?_, ⟨by omega, by omega, by omega, by omega, by omega, by omega, by omega, by omega, by omega⟩, hg _ _ (by omega) (by omega) (by omega) ?_, fun k q1 q2 => hg _ _ (by omega) (by omega) (by omega) ?_⟩
  · rw [h2, St.set_same, n0, n1]
    rfl
  · rw [h2, St.set_ne _ _ _ _ (by omega), St.push_ne s1 _ _ (by omega), h1, St.set_ne _ _ _ _ (by omega)]
    have := St.push_same s0 []
    rw [n0] at this
    exact this
  · rw [h2, St.set_ne _ _ _ _ (by omega)]
    have := St.push_same s1 []
    rw [n1] at this
    exact this
  · rw [St.set_ne _ _ _ _ (by omega)]
    exact St.push_same s wz
  · rw [St.set_ne _ _ _ _ q2, St.push_ne s _ _ (by omega)]
theorem numE_le (w : Str) (e : Int) (h : numE w e = 0) : e = 0 := by
  unfold numE at h
  split at h
  · assumption
  · exact h
theorem steps_le (l : List Str) : ∀ e, stepsE l e = 0 → e = 0 := by
  induction l with
  | nil => exact fun e h => h
  | cons a l ih => exact fun e h => stepE_le a e (ih _ h)
theorem pairs_le : ∀ (l : List Str) (e : Int), pairsE l e = 0 → e = 0
  | [], e, h => h
  | [_], e, h => h
  | a :: b :: l, e, h => stepE_le a e (numE_le b _ (pairs_le l _ h))
theorem WI.init2 (s s0 s1 s2 : St) (id : Nat) (hid : id < s.nx) (kd : Int) (V : List Num) (c : List AV) (r : List Str) (e : Int) (n0 : s0.nx = s.nx + 1) (g0 : s0.get id = some (rdr r e)) (z0 : s0.get s.nx = some wz) (f0 : ∀ k, k < s.nx → k ≠ id → s0.get k = s.get k) (hc : c = NC V)
    (h1 : s1 = ((s0.push c).push wz).set (s.nx + 2) [iv kd, .own (s.nx + 1) 0 V.length 2, nilS]) (h2 : s2 = (s1.push []).set (s.nx + 2) ([iv kd, .own (s.nx + 1) 0 V.length 2, nilS].set 2 (.own s1.nx 0 0 1))) :
    WI s s2 id (s.nx + 2) (s.nx + 1) (s.nx + 3) kd V [] r e := by
  have n1 : s1.nx = s.nx + 3 := by rw [h1]; show s0.nx + 1 + 1 = _; omega
  have n2 : s2.nx = s.nx + 4 := by rw [h2]; show s1.nx + 1 = _; omega
  have hg : ∀ k c, k ≠ s.nx + 1 → k ≠ s.nx + 2 → k ≠ s.nx + 3 → s0.get k = c → s2.get k = c := fun k c q1 q2 q3 q4 => by
    rw [h2, St.set_ne _ _ _ _ q2, St.push_ne s1 _ _ (by omega), h1, St.set_ne _ _ _ _ q2, St.push_ne (s0.push _) _ _ (by rw [St.nx_push]; omega), St.push_ne s0 _ _ (by omega)]
    exact q4
  refine ⟨hg _ _ (by omega) (by omega) (by omega) g0, ?_, ?_, ?_, ⟨by omega, by omega, by omega, by omega, by omega, by omega, by omega, by omega, by omega⟩, hg _ _ (by omega) (by omega) (by omega) z0, fun k q1 q2 => hg _ _ (by omega) (by omega) (by omega) (f0 k q1 q2)⟩
  · rw [h2, St.set_same, n1]
    rfl
  · rw [h2, St.set_ne _ _ _ _ (by omega), St.push_ne s1 _ _ (by omega), h1, St.set_ne _ _ _ _ (by omega), St.push_ne (s0.push _) _ _ (by rw [St.nx_push]; omega), hc]
    have := St.push_same s0 (NC V)
    rw [n0] at this
    exact this
  · rw [h2, St.set_ne _ _ _ _ (by omega)]
    have := St.push_same s1 []
    rw [n1] at this
    exact this
theorem wave_ax (s : St) (id : Nat) (ws : List Str) (e : Int) (hw : BL ws) (hwl : ∀ w ∈ ws, w.length ≤ 281474976710656) (hi : s.get id = some (rdr ws e)) (hid : id < s.nx) (hl : ws.length ≤ 10000) (hv : waveWords ws = true) :
    ACall Tryz.prog 95 [.ptr id 0] s fun x s' => (∃ W, ((waveR ws e).2 = 0 → W = (waveR ws e).1) ∧ x = WA W) ∧ s' = s.set id (rdr [] (waveR ws e).2) := by
  refine wv_lay id _ _ hid (rdr_idf _ _) ?_
  cases ws with
  | nil => cases hv
  | cons kw r =>
    have hk : By kw := hw kw (List.mem_cons_self ..)
    have e1 := str_eq kw sDc hk (by_lit _ rfl)
    have e2 := str_eq kw sPulse hk (by_lit _ rfl)
    have e3 := str_eq kw sPwl hk (by_lit _ rfl)
    have e4 := str_eq kw sTable hk (by_lit _ rfl)
    rw [show bs sDc = ByteArray.mk #[100, 99] from rfl] at e1
    rw [show bs sPulse = ByteArray.mk #[112, 117, 108, 115, 101] from rfl] at e2
    rw [show bs sPwl = ByteArray.mk #[112, 119, 108] from rfl] at e3
    rw [show bs sTable = ByteArray.mk #[116, 97, 98, 108, 101] from rfl] at e4
    have hd : (SL (kw :: r)).head? = some (.v (.string (bs kw))) := rfl
    have hi2 : s.get id = some [.sl (r.length + 1) (SL (kw :: r)), .v (.int .i64 e)] := hi
    have hnx : ∀ zc, ACall Tryz.prog 93 [.ptr id 0] (s.push zc) fun x s' => x = SV kw ∧ s' = (s.push zc).set id (rdr r e) := fun zc => next_ax _ id kw r e (by rw [St.push_ne _ _ _ (by omega)]; exact hi) (by rw [St.nx_push]; omega) (by rw [List.length_cons] at hl; omega)
    have hid2 : id ≠ s.nx := by omega
    refine acall_of Tryz.func95 rfl rfl (by simp [Tryz.ntmps95]) ?_; rw [Tryz.ntmps95, Tryz.results95]
    refine go (cj rTI (cj @hi2 (cj @hd @e2))) ?_
    by_cases q1 : kw = sPulse
    · have hw1 : waveWords (kw :: r) = decide (r.length = 7) := by
        show (if kw = sDc then _ else if kw = sPulse then _ else if kw = sPwl then _ else if kw = sTable then _ else _) = _
        rw [q1, if_neg (by decide), if_pos rfl]
      have hr1 : waveR (kw :: r) e = (⟨2, (r.take 2).map numV, (r.drop 2).map stepV⟩, stepsE (r.drop 2) (numsE (r.take 2) e)) := by
        show (if kw = sPulse then _ else if kw = sPwl then _ else if kw = sTable then _ else _) = _
        rw [if_pos q1]
      rw [hr1, decide_eq_true q1]
      rw [hw1, decide_eq_true_eq] at hv
      clear e1 e2 e3 e4 hr1 hw1
      match r, hv with
      | a :: b :: r, hv =>
        rw [List.length_cons, List.length_cons] at hv
        have ha : By a := hw a (by simp)
        have hb2 : By b := hw b (by simp)
        have hr5 : r.length = 5 := by omega
        rw [show List.take 2 (a :: b :: r) = [a, b] from rfl, show List.drop 2 (a :: b :: r) = r from rfl, show List.map numV [a, b] = [numV a, numV b] from rfl, show numsE [a, b] e = numE b (numE a e) from rfl]
        have hn1 := fun zc => num_ax ((s.push zc).set id (rdr (a :: b :: r) e)) id a (b :: r) e ha (St.set_same _ _ _) (by rw [St.nx_set, St.nx_push]; omega) (by rw [List.length_cons]; omega)
        have hn2 := fun zc => num_ax (((s.push zc).set id (rdr (a :: b :: r) e)).set id (rdr (b :: r) (numE a e))) id b r (numE a e) hb2 (St.set_same _ _ _) (by rw [St.nx_set, St.nx_set, St.nx_push]; omega) (by omega)
        generalize numE b (numE a e) = ef at *
        generalize numE a e = eg at *
        unfold NM at hn1 hn2
        generalize numV a = n1 at *
        generalize numV b = n2 at *
        refine ifs ?_ ?_ <;> first | exact nope | intro hb
        refine aw_seq ?_
        refine aw_reg fun K hK => ?_; refine rn rTI ?_; refine cont_go (hnx _) ?_; rintro _ s1 ⟨rfl, rfl⟩; refine rn rTI ?_; refine hK _ _ ?_; clear hK K
        refine go rTI ?_
        refine aw_reg fun K hK => ?_; refine rn (cj rTI @zr4) ?_; refine cont_go (hn1 _) ?_; rintro _ s1 ⟨rfl, rfl⟩; refine rn rTI ?_; refine cont_go (hn2 _) ?_; rintro _ s1 ⟨rfl, rfl⟩; refine rn (cj rTI @zr4) ?_; refine hK _ _ ?_; clear hK K
        refine go rTI ?_
        refine aw_nil_box (s.nx + 1 + 1) 2 1 _ (St.set_same _ _ _) rfl ?_
        have h0 := WI.init2 s ((((s.push wz).set id (rdr (a :: b :: r) e)).set id (rdr (b :: r) eg)).set id (rdr r ef)) _ _ id hid 2 [n1, n2] (NC [n1, n2]) r ef rfl (St.set_same _ _ _) (by rw [St.set_ne _ _ _ _ (by omega), St.set_ne _ _ _ _ (by omega), St.set_ne _ _ _ _ (by omega)]; exact St.push_same s wz) (fun k h1 h2 => by rw [St.set_ne _ _ _ _ h2, St.set_ne _ _ _ _ h2, St.set_ne _ _ _ _ h2, St.push_ne s _ _ (by omega)]) rfl rfl rfl
        clear hnx hn1 hn2 hi hi2 hd
        refine aw_loop (fun m e' s' => ∃ q e1 S iS, m = q.length ∧ e'.n = 86 ∧ e'.m 0 = .ptr id 0 ∧ e'.m 2 = .ptr s.nx 0 ∧ e'.m 3 = .ptr (s.nx + 1 + 1) 0 ∧ e'.m 22 = .v (.int .i64 (S.length : Nat)) ∧ WI s s' id (s.nx + 1 + 1) (s.nx + 1) iS 2 [n1, n2] S q e1 ∧ stepsE r ef = stepsE q e1 ∧ (stepsE r ef = 0 → r.map stepV = S ++ q.map stepV) ∧ S.length + q.length = 5 ∧ (∀ w ∈ q, w ∈ r)) r.length ?_ ?_
        · refine ⟨r, ef, [], s.nx + 3, rfl, ?_, ?_, ?_, ?_, ?_, h0, rfl, fun _ => rfl, by rw [List.length_nil]; omega, fun _ h => h⟩
          all_goals ((first | refine rn rTI ?_ | exact rn0 rTI))
          all_goals trivial
        · rintro m e' s' ⟨q, e1, S, iS, rfl, h1, k0, k2, k3, k22, hW, hE, hS, hsl, hm⟩
          have gb : s'.get (s.nx + 1 + 1) = some [.v (.int .i64 2), .own (s.nx + 1) 0 2 2, .own iS 0 S.length 1] := hW.b
          have gz := hW.z
          obtain ⟨o1, o2, o3, o4, o5, o6, o7, o8, o9⟩ := hW.o
          clear h0
          match q with
          | [] =>
            have h5 : (S.length : Int) = 5 := by rw [List.length_nil] at hsl; omega
            refine go (cj rTI (cj @h1 (cj @k22 @h5))) ?_
            refine ifs ?_ ?_ <;> first | exact nope | intro hb
            refine go (cj rTI (cj @h1 (cj @k0 (cj @k2 (cj @k3 (cj @gb @gz)))))) ?_
            rw [List.map_nil, List.append_nil] at hS
            have hE' : stepsE r ef = e1 := hE
            rw [hE'] at hS ⊢
            exact ⟨⟨2, [n1, n2], S⟩, s.nx + 1, iS, fun h => by rw [hS h], rfl, by omega, by omega, o9, by rw [if_neg (by omega)]; exact hW.v, by rw [if_neg (by omega)]; exact hW.t, hW.r, fun k h1 h2 => by rw [if_neg (by omega)]; exact hW.fr k h1 h2⟩
          | a' :: q =>
            rw [List.length_cons] at hsl
            have h5 : (S.length : Int) < 5 := by omega
            have ha2 : By a' := hw a' (by have := hm a' (by simp); simp [this])
            have hal := hwl a' (by have := hm a' (by simp); simp [this])
            have hst := step_ax s' id a' q e1 ha2 hal hW.r (by omega) (by omega)
            have gt := hW.t
            have nl := il_len S
            have hEE : stepsE (a' :: q) e1 = stepsE q (stepE a' e1) := rfl
            rw [hEE] at hE
            clear hEE
            unfold iv at hst
            refine go (cj rTI (cj @h1 @k22)) ?_
            refine ifs ?_ ?_ <;> first | exact nope | intro hb
            refine aw_skip ?_
            refine go rTI ?_
            refine aw_drwR (.take 0 (.take 1 (.take 2 (.one 3 (.one 4 (.one 5 (.done))))))) 6 [7] [s.nx + 1 + 1] (by kernel_rfl) (by kernel_rfl) fun K hK => ?_; refine dt (cj rTI (cj @h1 (cj @k0 (cj @k3 (cj @gb (cj @gt @nl)))))) ?_; refine cont_go hst ?_; rintro x s1 ⟨⟨n, rfl, hn⟩, rfl⟩; refine dt (cj rTI (cj @h1 (cj @k0 (cj @k3 (cj @gb (cj @gt @nl)))))) ?_; refine hK _ _ ?_; clear hK K
            refine go (cj rTI (cj @h1 @k22)) ?_
            simp only [block_normal, loop_normal]
            have hW2 := hW.step (by omega) n q (stepE a' e1)
            have hS2 : stepsE r ef = 0 → List.map stepV r = (S ++ [n]) ++ List.map stepV q := fun h => by
              rw [hS h]
              rw [hE] at h
              rw [hn (steps_le _ _ h)]
              simp
            refine ⟨q.length, by rw [List.length_cons]; omega, q, stepE a' e1, S ++ [n], s'.nx + 1, rfl, ?_, ?_, ?_, ?_, ?_, hW2, hE, hS2, by rw [List.length_append]; simp; omega, fun w hw => hm w (List.mem_cons_of_mem _ hw)⟩
            all_goals ((first | refine rn (cj @h1 (cj @k0 (cj @k2 @k3))) ?_ | exact rn0 (cj @h1 (cj @k0 (cj @k2 @k3)))))
            all_goals first | trivial | (rw [List.length_append]; rfl)
    rw [decide_eq_false q1]
    refine ifs ?_ ?_ <;> first | exact nope | intro hb
    refine go (cj rTI @e3) ?_
    by_cases q2 : kw = sPwl
    · have hw1 : waveWords (kw :: r) = decide (2 ≤ r.length ∧ r.length % 2 = 0 ∧ r.length ≤ 32) := by
        show (if kw = sDc then _ else if kw = sPulse then _ else if kw = sPwl then _ else if kw = sTable then _ else _) = _
        rw [q2, if_neg (by decide), if_neg (by decide), if_pos rfl]
      have hr1 : waveR (kw :: r) e = (⟨3, (odds r).map numV, (evens r).map stepV⟩, pairsE r e) := by
        show (if kw = sPulse then _ else if kw = sPwl then _ else if kw = sTable then _ else _) = _
        rw [if_neg q1, if_pos q2]
      rw [hr1, decide_eq_true q2]
      rw [hw1, decide_eq_true_eq] at hv
      obtain ⟨hv1, hv2, hv3⟩ := hv
      clear e1 e2 e3 e4 hr1 hw1
      refine ifs ?_ ?_ <;> first | exact nope | intro hb
      refine aw_seq ?_
      refine aw_reg fun K hK => ?_; refine rn rTI ?_; refine cont_go (hnx _) ?_; rintro _ s1 ⟨rfl, rfl⟩; refine rn rTI ?_; refine hK _ _ ?_; clear hK K
      refine go rTI ?_
      refine aw_nil_box (s.nx + 1) 1 2 _ (St.set_same _ _ _) rfl ?_
      refine aw_nil_box (s.nx + 1) 2 1 _ (St.set_same _ _ _) rfl ?_
      have h0 := WI.init s id hid 3 r e _ _ _ rfl rfl rfl
      refine aw_loop (fun m e' s' => ∃ q e1 V S iV iS, m = q.length ∧ e'.n = 86 ∧ e'.m 0 = .ptr id 0 ∧ e'.m 2 = .ptr s.nx 0 ∧ e'.m 4 = .ptr (s.nx + 1) 0 ∧ WI s s' id (s.nx + 1) iV iS 3 V S q e1 ∧ pairsE r e = pairsE q e1 ∧ (odds r).map numV = V ++ (odds q).map numV ∧ (pairsE r e = 0 → (evens r).map stepV = S ++ (evens q).map stepV) ∧ q.length % 2 = 0 ∧ V.length + q.length ≤ 32 ∧ S.length + q.length ≤ 32 ∧ (∀ w ∈ q, w ∈ r)) r.length ?_ ?_
      · refine ⟨r, e, [], [], s.nx + 2, s.nx + 3, rfl, ?_, ?_, ?_, ?_, h0, rfl, rfl, fun _ => rfl, hv2, by simp; omega, by simp; omega, fun _ h => h⟩
        all_goals (exact rn0 rTI)
        all_goals trivial
      · rintro m e' s' ⟨q, e1, V, S, iV, iS, rfl, h1, k0, k2, k4, hW, hE, hV, hS, hm2, hvl, hsl, hm⟩
        have hr : s'.get id = some [.sl q.length (SL q), .v (.int .i64 e1)] := hW.r
        have gb : s'.get (s.nx + 1) = some [.v (.int .i64 3), .own iV 0 V.length 2, .own iS 0 S.length 1] := hW.b
        have gz := hW.z
        obtain ⟨o1, o2, o3, o4, o5, o6, o7, o8, o9⟩ := hW.o
        clear h0 hi hi2 hd hnx
        match q with
        | [] =>
          refine go (cj rTI (cj @h1 (cj @k0 @hr))) ?_
          refine ifs ?_ ?_ <;> first | exact nope | intro hb
          refine go (cj rTI (cj @h1 (cj @k0 (cj @k2 (cj @k4 (cj @hr (cj @gb @gz))))))) ?_
          have hV' : List.map numV (odds r) = V := by rw [hV]; simp [odds]
          have hS' : pairsE r e = 0 → List.map stepV (evens r) = S := fun h => by rw [hS h]; simp [evens]
          rw [hV']
          have hE' : pairsE r e = e1 := hE
          rw [hE'] at hS' ⊢
          exact ⟨⟨3, V, S⟩, iV, iS, fun h => by rw [hS' h], rfl, by omega, by omega, o9, by rw [if_neg (by omega)]; exact hW.v, by rw [if_neg (by omega)]; exact hW.t, rfl, fun k h1 h2 => by rw [if_neg (by omega)]; exact hW.fr k h1 h2⟩
        | [x] => simp at hm2
        | a :: b :: q =>
          have ha : By a := hw a (List.mem_cons_of_mem _ (hm a (by simp)))
          have hal := hwl a (List.mem_cons_of_mem _ (hm a (by simp)))
          have hb2 : By b := hw b (List.mem_cons_of_mem _ (hm b (by simp)))
          rw [List.length_cons, List.length_cons] at hm2 hvl hsl
          have hst := step_ax s' id a (b :: q) e1 ha hal hW.r (by omega) (by rw [List.length_cons]; omega)
          have gt := hW.t
          have nl := il_len S
          have hEE : pairsE (a :: b :: q) e1 = pairsE q (numE b (stepE a e1)) := rfl
          rw [hEE] at hE
          clear hEE
          refine go (cj rTI (cj @h1 (cj @k0 @hr))) ?_
          refine ifs ?_ ?_ <;> first | exact nope | intro hb
          refine aw_skip ?_
          refine go rTI ?_
          refine aw_only (fun e'' s'' => ∃ n iS', e''.n = 86 ∧ e''.m 0 = .ptr id 0 ∧ e''.m 2 = .ptr s.nx 0 ∧ e''.m 4 = .ptr (s.nx + 1) 0 ∧ WI s s'' id (s.nx + 1) iV iS' 3 V (S ++ [n]) (b :: q) (stepE a e1) ∧ (stepE a e1 = 0 → n = stepV a)) ?_ ?_
          · unfold iv at hst
            refine aw_drwR (.take 0 (.take 1 (.take 2 (.one 3 (.one 4 (.one 5 (.done))))))) 6 [7] [s.nx + 1] (by kernel_rfl) (by kernel_rfl) fun K hK => ?_; refine dt (cj rTI (cj @h1 (cj @k0 (cj @k4 (cj @gb (cj @gt @nl)))))) ?_; refine cont_go hst ?_; rintro x s1 ⟨⟨n, rfl, hn⟩, rfl⟩; refine dt (cj rTI (cj @h1 (cj @k0 (cj @k4 (cj @gb (cj @gt @nl)))))) ?_; refine hK _ _ ?_; clear hK K
            refine ⟨rfl, n, s'.nx + 1, ?_, ?_, ?_, ?_, hW.step (by omega) n (b :: q) (stepE a e1), hn⟩
            all_goals (exact rn0 (cj @h1 (cj @k0 (cj @k2 @k4))))
            all_goals trivial
          · clear hW hst gt nl gb gz h1 k0 k2 k4 o1 o2 o3 o4 o5 o6 o7 o8 o9 hr
            rintro e'' s'' ⟨n, iS', h1, k0, k2, k4, hW, hn⟩
            rw [then_normal]
            have hr : s''.get id = some [.sl (q.length + 1) (SL (b :: q)), .v (.int .i64 (stepE a e1))] := hW.r
            have gb : s''.get (s.nx + 1) = some [.v (.int .i64 3), .own iV 0 V.length 2, .own iS' 0 (S ++ [n]).length 1] := hW.b
            have gv := hW.v
            have nl := nc_len V
            obtain ⟨o1, o2, o3, o4, o5, o6, o7, o8, o9⟩ := hW.o
            have hnu := num_ax s'' id b q (stepE a e1) hb2 hW.r (by omega) (by omega)
            have hW2 := hW.num hid (numV b) q (numE b (stepE a e1))
            unfold NM at hnu
            have hS2 : pairsE r e = 0 → List.map stepV (evens r) = (S ++ [n]) ++ List.map stepV (evens q) := fun h => by
              rw [hS h]
              rw [hE] at h
              rw [hn (numE_le _ _ (pairs_le _ _ h))]
              simp [evens]
            have hV2 : List.map numV (odds r) = (V ++ [numV b]) ++ List.map numV (odds q) := by rw [hV]; simp [odds]
            have hsl2 : (S ++ [n]).length + q.length ≤ 32 := by rw [List.length_append]; simp; omega
            have hvl2 : (V ++ [numV b]).length + q.length ≤ 32 := by rw [List.length_append]; simp; omega
            clear hn hS hV hsl
            generalize numE b (stepE a e1) = e2 at *
            generalize numV b = n2 at *
            generalize S ++ [n] = S2 at *
            refine aw_drwR (.take 0 (.take 1 (.take 2 (.one 3 (.one 4 (.one 5 (.done))))))) 6 [7] [s.nx + 1] (by kernel_rfl) (by kernel_rfl) fun K hK => ?_; refine dt (cj rTI (cj @h1 (cj @k0 (cj @k4 (cj @gb (cj @gv (cj @nl @zr2))))))) ?_; refine cont_go hnu ?_; rintro _ s1 ⟨rfl, rfl⟩; refine dt (cj rTI (cj @h1 (cj @k0 (cj @k4 (cj @gb (cj @gv (cj @nl @zr2))))))) ?_; refine hK _ _ ?_; clear hK K
            simp only [block_normal, loop_normal]
            refine ⟨q.length, by rw [List.length_cons, List.length_cons]; omega, q, e2, V ++ [n2], S2, s''.nx + 1, iS', rfl, ?_, ?_, ?_, ?_, hW2, hE, hV2, hS2, by omega, hvl2, hsl2, fun w hw => hm w (List.mem_cons_of_mem _ (List.mem_cons_of_mem _ hw))⟩
            all_goals (exact rn0 (cj @h1 (cj @k0 (cj @k2 @k4))))
            all_goals trivial
    rw [decide_eq_false q2]
    refine ifs ?_ ?_ <;> first | exact nope | intro hb
    refine go (cj rTI @e4) ?_
    by_cases q3 : kw = sTable
    · have hr1 : waveR (kw :: r) e = (⟨4, r.map numV, []⟩, numsE r e) := by
        show (if kw = sPulse then _ else if kw = sPwl then _ else if kw = sTable then _ else _) = _
        rw [if_neg q1, if_neg q2, if_pos q3]
      rw [hr1, decide_eq_true q3]
      clear e1 e2 e3 e4 hr1 hv
      refine ifs ?_ ?_ <;> first | exact nope | intro hb
      refine aw_seq ?_
      refine aw_reg fun K hK => ?_; refine rn rTI ?_; refine cont_go (hnx _) ?_; rintro _ s1 ⟨rfl, rfl⟩; refine rn rTI ?_; refine hK _ _ ?_; clear hK K
      refine go rTI ?_
      refine aw_nil_box (s.nx + 1) 1 2 _ (St.set_same _ _ _) rfl ?_
      refine aw_nil_box (s.nx + 1) 2 1 _ (St.set_same _ _ _) rfl ?_
      have h0 := WI.init s id hid 4 r e _ _ _ rfl rfl rfl
      refine aw_loop (fun m e' s' => ∃ q e1 V iV, m = q.length ∧ e'.n = 86 ∧ e'.m 0 = .ptr id 0 ∧ e'.m 2 = .ptr s.nx 0 ∧ e'.m 5 = .ptr (s.nx + 1) 0 ∧ WI s s' id (s.nx + 1) iV (s.nx + 3) 4 V [] q e1 ∧ numsE r e = numsE q e1 ∧ r.map numV = V ++ q.map numV ∧ (∀ w ∈ q, w ∈ r)) r.length ?_ ?_
      · refine ⟨r, e, [], s.nx + 2, rfl, ?_, ?_, ?_, ?_, h0, rfl, rfl, fun _ h => h⟩
        all_goals (exact rn0 rTI)
        all_goals trivial
      · rintro m e' s' ⟨q, e1, V, iV, rfl, h1, k0, k2, k5, hW, hE, hV, hm⟩
        have hr : s'.get id = some [.sl q.length (SL q), .v (.int .i64 e1)] := hW.r
        have gb : s'.get (s.nx + 1) = some [.v (.int .i64 4), .own iV 0 V.length 2, .own (s.nx + 3) 0 0 1] := hW.b
        have gz := hW.z
        obtain ⟨o1, o2, o3, o4, o5, o6, o7, o8, o9⟩ := hW.o
        cases q with
        | nil =>
          refine go (cj rTI (cj @h1 (cj @k0 @hr))) ?_
          refine ifs ?_ ?_ <;> first | exact nope | intro hb
          refine go (cj rTI (cj @h1 (cj @k0 (cj @k2 (cj @k5 (cj @hr (cj @gb @gz))))))) ?_
          rw [List.map_nil, List.append_nil] at hV
          rw [hV, hE]
          exact ⟨⟨4, V, []⟩, iV, s.nx + 3, fun _ => rfl, rfl, by omega, by omega, o9, by rw [if_neg (by omega)]; exact hW.v, by rw [if_neg (by omega)]; exact hW.t, rfl, fun k h1 h2 => by rw [if_neg (by omega)]; exact hW.fr k h1 h2⟩
        | cons a q =>
          have ha : By a := hw a (List.mem_cons_of_mem _ (hm a (List.mem_cons_self ..)))
          have hlen := congrArg List.length hV
          rw [List.length_map, List.length_append, List.length_map, List.length_cons] at hlen
          rw [List.length_cons] at hl
          have hvl : V.length ≤ 10000 := by omega
          have hq : q.length < 9223372036854775807 := by omega
          clear hlen
          have hnu := num_ax s' id a q e1 ha hW.r (by omega) hq
          have hW2 := hW.num hid (numV a) q (numE a e1)
          rw [show numsE (a :: q) e1 = numsE q (numE a e1) from rfl] at hE
          rw [List.map_cons] at hV
          have gv := hW.v
          have nl := nc_len V
          generalize numE a e1 = e2 at *
          unfold NM at hnu
          generalize numV a = n at *
          refine go (cj rTI (cj @h1 (cj @k0 @hr))) ?_
          refine ifs ?_ ?_ <;> first | exact nope | intro hb
          refine aw_skip ?_
          refine go rTI ?_
          refine aw_drwR (.take 0 (.take 1 (.take 2 (.one 3 (.one 4 (.one 5 (.done))))))) 6 [7] [s.nx + 1] (by kernel_rfl) (by kernel_rfl) fun K hK => ?_; refine dt (cj rTI (cj @h1 (cj @k0 (cj @k5 (cj @gb (cj @gv (cj @nl @zr2))))))) ?_; refine cont_go hnu ?_; rintro _ s1 ⟨rfl, rfl⟩; refine dt (cj rTI (cj @h1 (cj @k0 (cj @k5 (cj @gb (cj @gv (cj @nl @zr2))))))) ?_; refine hK _ _ ?_; clear hK K
          simp only [block_normal, loop_normal]
          refine ⟨q.length, by rw [List.length_cons]; omega, q, e2, V ++ [n], s'.nx + 1, rfl, ?_, ?_, ?_, ?_, hW2, hE, by rw [hV]; simp, fun w hw => hm w (List.mem_cons_of_mem _ hw)⟩
          all_goals (exact rn0 (cj @h1 (cj @k0 (cj @k2 @k5))))
          all_goals trivial
    rw [decide_eq_false q3]
    refine ifs ?_ ?_ <;> first | exact nope | intro hb
    refine go (cj rTI @e1) ?_
    have hw1 : waveWords (kw :: r) = if kw = sDc then decide (r.length = 1) else decide (r.length = 0) := by
      show (if kw = sDc then _ else if kw = sPulse then _ else if kw = sPwl then _ else if kw = sTable then _ else _) = _
      rw [if_neg q1, if_neg q2, if_neg q3]
    have hr1 : waveR (kw :: r) e = if kw = sDc then (⟨1, r.map numV, []⟩, numsE r e) else (⟨1, [numV kw], []⟩, numE kw e) := by
      show (if kw = sPulse then _ else if kw = sPwl then _ else if kw = sTable then _ else _) = _
      rw [if_neg q1, if_neg q2, if_neg q3]
    rw [hw1] at hv
    rw [hr1]
    clear hw1 hr1 e1 e2 e3 e4 q1 q2 q3
    by_cases q4 : kw = sDc
    · rw [if_pos q4, decide_eq_true_eq] at hv
      rw [if_pos q4, decide_eq_true q4]
      match r, hv with
      | [a], _ =>
        have ha : By a := hw a (by simp)
        have hnu := fun zc => num_ax ((s.push zc).set id (rdr [a] e)) id a [] e ha (St.set_same _ _ _) (by rw [St.nx_set, St.nx_push]; omega) (by decide)
        rw [show numsE [a] e = numE a e from rfl]
        generalize numE a e = e' at *
        unfold NM at hnu
        rw [show List.map numV [a] = [numV a] from rfl]
        generalize numV a = n at *
        refine ifs ?_ ?_ <;> first | exact nope | intro hb
        refine aw_reg fun K hK => ?_; refine rn rTI ?_; refine cont_go (hnx _) ?_; rintro _ s1 ⟨rfl, rfl⟩; refine rn rTI ?_; refine hK _ _ ?_; clear hK K
        refine go rTI ?_
        refine aw_reg fun K hK => ?_; refine rn (cj rTI @zr2) ?_; refine cont_go (hnu _) ?_; rintro _ s1 ⟨rfl, rfl⟩; refine rn (cj rTI @zr2) ?_; refine hK _ _ ?_; clear hK K
        rw [then_normal]
        refine aw_nil_box s.nx 2 1 _ (St.set_same _ _ _) rfl ?_
        refine go rTI ?_
        exact ⟨⟨1, [n], []⟩, s.nx + 1, s.nx + 1 + 1, fun _ => rfl, rfl, by omega, by omega, by omega, by rw [if_neg (by omega), if_neg (by omega), if_pos rfl]; rfl, by rw [if_neg (by omega), if_pos rfl]; rfl, fun k h1 h2 => by rw [if_neg (by omega), if_neg (by omega), if_neg (by omega), if_neg (by omega)]⟩
    · rw [if_neg q4, decide_eq_true_eq] at hv
      rw [if_neg q4, decide_eq_false q4]
      match r, hv with
      | [], _ =>
        have hnu := fun zc => num_ax (s.push zc) id kw [] e hk (by rw [St.push_ne _ _ _ (by omega)]; exact hi) (by rw [St.nx_push]; omega) (by decide)
        generalize numE kw e = e' at *
        unfold NM at hnu
        generalize numV kw = n at *
        refine ifs ?_ ?_ <;> first | exact nope | intro hb
        refine go rTI ?_
        refine aw_reg fun K hK => ?_; refine rn (cj rTI @zr2) ?_; refine cont_go (hnu _) ?_; rintro _ s1 ⟨rfl, rfl⟩; refine rn (cj rTI @zr2) ?_; refine hK _ _ ?_; clear hK K
        rw [then_normal]
        refine aw_nil_box s.nx 2 1 _ (St.set_same _ _ _) rfl ?_
        refine go rTI ?_
        exact ⟨⟨1, [n], []⟩, s.nx + 1, s.nx + 1 + 1, fun _ => rfl, rfl, by omega, by omega, by omega, by rw [if_neg (by omega), if_neg (by omega), if_pos rfl]; rfl, by rw [if_neg (by omega), if_pos rfl]; rfl, fun k h1 h2 => by rw [if_neg (by omega), if_neg (by omega), if_neg (by omega), if_neg (by omega)]⟩
end Go.Proofs.YtfjelkjlfcafgaaGreatDoor.CardG
end
section
/- Cards: wave.Valid. -/
namespace Go.Proofs.YtfjelkjlfcafgaaGreatDoor.CardH
open Go Go.RowKit Go.Proofs.YtfjelkjlfcafgaaGreatDoor.Ax Go.Proofs.YtfjelkjlfcafgaaGreatDoor.Ti Go.Proofs.YtfjelkjlfcafgaaGreatDoor.NumS Go.Proofs.YtfjelkjlfcafgaaGreatDoor.NumT Go.Proofs.YtfjelkjlfcafgaaGreatDoor.CardS Go.Proofs.YtfjelkjlfcafgaaGreatDoor.CardP Go.Proofs.YtfjelkjlfcafgaaGreatDoor.CardA Go.Proofs.YtfjelkjlfcafgaaGreatDoor.CardB Go.Proofs.YtfjelkjlfcafgaaGreatDoor.CardC Go.Proofs.YtfjelkjlfcafgaaGreatDoor.CardD Go.Proofs.YtfjelkjlfcafgaaGreatDoor.CardE Go.Proofs.YtfjelkjlfcafgaaGreatDoor.CardF Go.Proofs.YtfjelkjlfcafgaaGreatDoor.CardG
open Go.Proofs.YtfjelkjlfcafgaaGreatDoor.NumA (NM valid_ax)
open Go.Proofs.YtfjelkjlfcafgaaGreatDoor.RefM (validN)
set_option linter.unusedSimpArgs false
set_option linter.unusedVariables false
set_option maxRecDepth 4000
set_option maxHeartbeats 2000000
theorem rTI : type_of% (cj @ti3 (cj @ti4 (cj @ti9 (cj @ti5 (cj @ti36 (cj @ti63 (cj @ti62 (cj @ti24 (cj @ti65 (cj @Nat.zero_add (cj @tz0 (cj @tz1 (cj @tz3 (cj @Nat.mul_one @Int.toNat_natCast)))))))))))))) := cj @ti3 (cj @ti4 (cj @ti9 (cj @ti5 (cj @ti36 (cj @ti63 (cj @ti62 (cj @ti24 (cj @ti65 (cj @Nat.zero_add (cj @tz0 (cj @tz1 (cj @tz3 (cj @Nat.mul_one @Int.toNat_natCast)))))))))))))
def okS (s : Int) : Bool := decide (0 ≤ s ∧ s ≤ 1000000000)
def kindOk (kd : Int) (V : List Num) (S : List Int) : Bool :=
  if kd = 1 then decide (V.length = 1 ∧ S.length = 0)
  else if kd = 2 then decide (V.length = 2 ∧ S.length = 5 ∧ 1 ≤ S.getD 4 0 ∧ S.getD 1 0 + S.getD 2 0 + S.getD 3 0 ≤ S.getD 4 0)
  else if kd = 3 then rising S && decide (V.length = S.length ∧ 1 ≤ V.length ∧ V.length ≤ 16)
  else if kd = 4 then decide (1 ≤ V.length ∧ V.length ≤ 16 ∧ S.length = 0) else false
theorem waveOk_eq (kd : Int) (V : List Num) (S : List Int) : waveOk ⟨kd, V, S⟩ = (V.all valid && S.all okS && kindOk kd V S) := rfl
theorem rising_of : ∀ (S : List Int), (∀ i, i + 1 < S.length → S.getD i 0 < S.getD (i + 1) 0) → rising S = true
  | [], _ => rfl
  | [_], _ => rfl
  | a :: b :: r, h => by
    have h0 := h 0 (by simp)
    have h1 := rising_of (b :: r) fun i hi => by
      have := h (i + 1) (by simp at hi ⊢; omega)
      simpa using this
    show (decide (a < b) && rising (b :: r)) = true
    rw [h1, decide_eq_true (by simpa using h0)]
    rfl
theorem rising_not : ∀ (S : List Int) (i : Nat), i + 1 < S.length → ¬ S.getD i 0 < S.getD (i + 1) 0 → rising S = false
  | [], i, h, _ => by simp at h
  | [_], i, h, _ => by simp at h
  | a :: b :: r, 0, h, hn => by
    show (decide (a < b) && rising (b :: r)) = false
    rw [decide_eq_false (by simpa using hn)]
    rfl
  | a :: b :: r, i + 1, h, hn => by
    show (decide (a < b) && rising (b :: r)) = false
    rw [rising_not (b :: r) i (by simp at h ⊢; omega) (by simpa using hn), Bool.and_false]
theorem wvalid_ax (w : Wv) (hv : w.vals.length ≤ 9223372036854775807) (hs : w.steps.length ≤ 9223372036854775807) : PCall Tryz.prog 96 [WA w] (.v (.bool (waveOk w))) := by
  refine pcall_of fun s => ?_
  obtain ⟨kd, V, S⟩ := w
  rw [waveOk_eq]
  simp only at hv hs
  unfold WA NV IV iv
  simp only
  refine acall_of Tryz.func96 rfl rfl (by simp [Tryz.ntmps96]) ?_; rw [Tryz.ntmps96, Tryz.results96]
  refine go rTI ?_
  refine aw_loop (fun m e s' => ∃ k, m = V.length - k ∧ k ≤ V.length ∧ e.n = 145 ∧ e.m 1 = .ptr s.nx 0 ∧ e.m 9 = .sl V.length (NC V) ∧ e.m 10 = .v (.int .i64 V.length) ∧ e.m 11 = .v (.int .i64 (k : Nat)) ∧ (V.take k).all valid = true ∧ s.nx < s'.nx ∧ s'.get s.nx = some [.v (.int .i64 kd), .sl V.length (NC V), .sl S.length (IL S)] ∧ ∀ i, i < s.nx → s'.get i = s.get i) V.length ?_ ?_
  · refine ⟨0, by omega, by omega, ?_⟩
    (repeat' refine And.intro ?_ ?_) <;> first | exact rfl | exact fnz rTI | skip
    exact Nat.lt_succ_self _
  · rintro m e s' ⟨k, rfl, hk, h1, k1, k9, k10, k11, ha, hn, gb, fr⟩
    by_cases hk2 : k < V.length
    · have f1 := nc_at V k hk2
      have f2 : 2 ≤ ((NC V).drop (k * 2)).length := by rw [List.length_drop, nc_len]; omega
      have hp : PCall Tryz.prog 18 [NM (V.getD k (0, 0)).1 (V.getD k (0, 0)).2] (.v (.bool (valid (V.getD k (0, 0))))) := valid_ax _ _
      have ht := take_all valid V (0, 0) k hk2 ha
      have hf := all_not valid V (0, 0) k hk2
      unfold iv at f1
      unfold NM at hp
      generalize V.getD k (0, 0) = n at *
      refine go (cj rTI (cj @h1 (cj @k10 @k11))) ?_
      refine ifs ?_ ?_ <;> first | exact nope | intro hb
      refine aw_skip ?_
      refine go (cj rTI (cj @h1 (cj @k9 (cj @k11 (cj @f1 @f2))))) ?_
      refine aw_reg fun K hK => ?_; refine rn rTI ?_; refine cont_pure hp ?_; refine rn rTI ?_; refine hK _ _ ?_; clear hK K
      cases hc : valid n with
      | false =>
        rw [hf hc]
        rw [Bool.false_and, Bool.false_and]
        refine ifs ?_ ?_ <;> first | exact nope | intro hb
        refine go (cj rTI @h1) ?_
        exact fun i hi => by rw [if_neg (by omega)]; exact fr i hi
      | true =>
        rw [hc] at ht
        refine ifs ?_ ?_ <;> first | exact nope | intro hb
        refine go (cj rTI (cj @h1 @k11)) ?_
        simp only [block_normal, loop_normal]
        refine ⟨V.length - (k + 1), by omega, k + 1, rfl, by omega, ?_, ?_, ?_, ?_, ?_, ht, ?_, ?_, ?_⟩
        all_goals ((first | refine rn (cj rTI (cj @h1 (cj @k1 (cj @k9 (cj @k10 @k11))))) ?_ | exact rn0 (cj rTI (cj @h1 (cj @k1 (cj @k9 (cj @k10 @k11)))))))
        all_goals (first | rfl | trivial | (rw [St.nx_push]; omega) | omega | (intro i hi; rw [if_neg (by omega)]; exact fr i hi))
    · obtain rfl : k = V.length := by omega
      rw [List.take_length] at ha
      rw [ha, Bool.true_and]
      refine go (cj rTI (cj @h1 (cj @k1 (cj @k10 (cj @k11 @gb))))) ?_
      refine ifs ?_ ?_ <;> first | exact nope | intro hb
      refine go (cj rTI (cj @h1 (cj @k1 (cj @k10 (cj @k11 @gb))))) ?_
      clear ha hk hk2 k9 k10 k11
      refine aw_loop (fun m e' s'' => ∃ k, m = S.length - k ∧ k ≤ S.length ∧ e'.n = 145 ∧ e'.m 1 = .ptr s.nx 0 ∧ e'.m 20 = .sl S.length (IL S) ∧ e'.m 21 = .v (.int .i64 S.length) ∧ e'.m 22 = .v (.int .i64 (k : Nat)) ∧ (S.take k).all okS = true ∧ s'' = s') S.length ?_ ?_
      · refine ⟨0, by omega, by omega, ?_⟩
        (repeat' refine And.intro ?_ ?_) <;> first | exact rfl | exact fnz (cj rTI (cj @h1 @k1)) | skip
      · clear h1 k1
        rintro m e' s'' ⟨k, rfl, hk, h1, k1, k20, k21, k22, ha, rfl⟩
        by_cases hk2 : k < S.length
        · have f1 := hd_IL S k hk2
          have ht := take_all okS S 0 k hk2 ha
          have hf := all_not okS S 0 k hk2
          unfold iv at f1
          generalize S.getD k 0 = n at *
          have hn2 : okS n = (decide (0 ≤ n) && decide (n ≤ 1000000000)) := by unfold okS; rw [Bool.decide_and]
          refine go (cj rTI (cj @h1 (cj @k21 @k22))) ?_
          refine ifs ?_ ?_ <;> first | exact nope | intro hb
          refine aw_skip ?_
          by_cases c1 : 0 ≤ n
          · by_cases c2 : n ≤ 1000000000
            · refine go (cj rTI (cj @h1 (cj @k20 (cj @k22 @f1)))) ?_
              refine ifs ?_ ?_ <;> first | exact nope | intro hb
              rw [hn2, decide_eq_true c1, decide_eq_true c2] at ht
              refine go (cj rTI (cj @h1 @k22)) ?_
              simp only [block_normal, loop_normal]
              refine ⟨S.length - (k + 1), by omega, k + 1, rfl, by omega, ?_, ?_, ?_, ?_, ?_, ht, trivial⟩
              all_goals ((first | refine rn (cj rTI (cj @h1 (cj @k1 (cj @k20 (cj @k21 @k22))))) ?_ | exact rn0 (cj rTI (cj @h1 (cj @k1 (cj @k20 (cj @k21 @k22)))))))
              all_goals rfl
            · rw [hf (by rw [hn2, decide_eq_false c2, Bool.and_false]), Bool.false_and]
              refine go (cj rTI (cj @h1 (cj @k20 (cj @k22 @f1)))) ?_
              refine ifs ?_ ?_ <;> first | exact nope | intro hb
              refine go (cj rTI @h1) ?_
              exact fr
          · rw [hf (by rw [hn2, decide_eq_false c1, Bool.false_and]), Bool.false_and]
            refine go (cj rTI (cj @h1 (cj @k20 (cj @k22 @f1)))) ?_
            refine ifs ?_ ?_ <;> first | exact nope | intro hb
            refine go (cj rTI @h1) ?_
            exact fr
        · obtain rfl : k = S.length := by omega
          rw [List.take_length] at ha
          rw [ha, Bool.true_and]
          clear hk hk2
          unfold kindOk
          by_cases q1 : kd = 1
          · rw [if_pos q1]
            subst q1
            by_cases c1 : V.length = 1
            · by_cases c2 : S.length = 0
              · rw [decide_eq_true (by exact ⟨c1, c2⟩)]
                refine go (cj rTI (cj @h1 (cj @k1 (cj @k21 (cj @k22 @gb))))) ?_
                refine ifs ?_ ?_ <;> first | exact nope | intro hb
                refine go (cj rTI (cj @h1 (cj @k1 (cj @k21 (cj @k22 @gb))))) ?_
                refine ifs ?_ ?_ <;> first | exact nope | intro hb
                refine go (cj rTI (cj @h1 (cj @k1 @gb))) ?_
                exact fr
              · rw [decide_eq_false (fun x => c2 x.2)]
                refine go (cj rTI (cj @h1 (cj @k1 (cj @k21 (cj @k22 @gb))))) ?_
                refine ifs ?_ ?_ <;> first | exact nope | intro hb
                refine go (cj rTI (cj @h1 (cj @k1 (cj @k21 (cj @k22 @gb))))) ?_
                refine ifs ?_ ?_ <;> first | exact nope | intro hb
                refine go (cj rTI (cj @h1 (cj @k1 @gb))) ?_
                exact fr
            · rw [decide_eq_false (fun x => c1 x.1)]
              refine go (cj rTI (cj @h1 (cj @k1 (cj @k21 (cj @k22 @gb))))) ?_
              refine ifs ?_ ?_ <;> first | exact nope | intro hb
              refine go (cj rTI (cj @h1 (cj @k1 (cj @k21 (cj @k22 @gb))))) ?_
              refine ifs ?_ ?_ <;> first | exact nope | intro hb
              refine go (cj rTI (cj @h1 (cj @k1 @gb))) ?_
              exact fr
          rw [if_neg q1]
          by_cases q2 : kd = 2
          · rw [if_pos q2]
            subst q2
            refine go (cj rTI (cj @h1 (cj @k1 (cj @k21 (cj @k22 @gb))))) ?_
            refine ifs ?_ ?_ <;> first | exact nope | intro hb
            refine go (cj rTI (cj @h1 (cj @k1 (cj @k21 (cj @k22 @gb))))) ?_
            refine ifs ?_ ?_ <;> first | exact nope | intro hb
            refine go (cj rTI @h1) ?_
            refine ifs ?_ ?_ <;> first | exact nope | intro hb
            by_cases c1 : V.length = 2
            · by_cases c2 : S.length = 5
              · match S, c2 with
                | [a, b, c, d, f], _ =>
                  have hb5 : ∀ x ∈ [a, b, c, d, f], 0 ≤ x ∧ x ≤ 1000000000 := fun x hx => by
                    have := List.all_eq_true.1 ha x hx
                    unfold okS at this
                    exact of_decide_eq_true this
                  have bb := hb5 b (by simp)
                  have bc := hb5 c (by simp)
                  have bd := hb5 d (by simp)
                  have bf := hb5 f (by simp)
                  have e5 : ([a, b, c, d, f].length : Int) = 5 := rfl
                  have n5 : [a, b, c, d, f].length = 5 := rfl
                  have t1 : Int.toNat 4 = 4 := rfl
                  have t2 : Int.toNat 2 = 2 := rfl
                  have i4 : ((IL [a, b, c, d, f]).drop 4).head? = some (.v (.int .i64 f)) := rfl
                  have i1 : ((IL [a, b, c, d, f]).drop 1).head? = some (.v (.int .i64 b)) := rfl
                  have i2 : ((IL [a, b, c, d, f]).drop 2).head? = some (.v (.int .i64 c)) := rfl
                  have i3 : ((IL [a, b, c, d, f]).drop 3).head? = some (.v (.int .i64 d)) := rfl
                  have hd5 : decide (V.length = 2 ∧ [a, b, c, d, f].length = 5 ∧ 1 ≤ [a, b, c, d, f].getD 4 0 ∧ [a, b, c, d, f].getD 1 0 + [a, b, c, d, f].getD 2 0 + [a, b, c, d, f].getD 3 0 ≤ [a, b, c, d, f].getD 4 0) = (decide (1 ≤ f) && decide (b + c + d ≤ f)) := by
                    rw [Bool.eq_iff_iff]
                    simp [c1]
                  rw [hd5]
                  clear hb5 hd5 ha
                  generalize [a, b, c, d, f] = S' at *
                  refine aw_seq ?_
                  by_cases c3 : 1 ≤ f
                  · rw [decide_eq_true c3, Bool.true_and]
                    by_cases c4 : b + c + d ≤ f
                    · rw [decide_eq_true c4]
                      refine aw_drw (.take 0 (.take 1 (.take 2 (.take 3 (.take 4 (.take 5 (.take 6 (.take 7 (.take 8 (.take 9 (.take 10 (.take 11 (.take 12 (.take 13 (.take 14 (.take 15 (.take 16 (.take 17 (.take 18 (.take 19 (.take 20 (.take 21 (.take 22 (.take 23 (.take 24 (.take 25 (.take 26 (.take 27 (.take 28 (.take 29 (.take 30 (.take 31 (.take 32 (.take 33 (.take 34 (.take 35 (.take 36 (.take 37 (.take 38 (.done)))))))))))))))))))))))))))))))))))))))) [s.nx] (by kernel_rfl) (by kernel_rfl) fun K hK => ?_; refine dr (cj rTI (cj @h1 (cj @k1 (cj @gb (cj @c1 (cj @e5 (cj @n5 (cj @t1 (cj @t2 (cj @i1 (cj @i2 (cj @i3 @i4)))))))))))) ?_; refine hK _ _ ?_; clear hK K
                      refine go (cj rTI @h1) ?_
                      exact fr
                    · rw [decide_eq_false c4]
                      refine aw_drw (.take 0 (.take 1 (.take 2 (.take 3 (.take 4 (.take 5 (.take 6 (.take 7 (.take 8 (.take 9 (.take 10 (.take 11 (.take 12 (.take 13 (.take 14 (.take 15 (.take 16 (.take 17 (.take 18 (.take 19 (.take 20 (.take 21 (.take 22 (.take 23 (.take 24 (.take 25 (.take 26 (.take 27 (.take 28 (.take 29 (.take 30 (.take 31 (.take 32 (.take 33 (.take 34 (.take 35 (.take 36 (.take 37 (.take 38 (.done)))))))))))))))))))))))))))))))))))))))) [s.nx] (by kernel_rfl) (by kernel_rfl) fun K hK => ?_; refine dr (cj rTI (cj @h1 (cj @k1 (cj @gb (cj @c1 (cj @e5 (cj @n5 (cj @t1 (cj @t2 (cj @i1 (cj @i2 (cj @i3 @i4)))))))))))) ?_; refine hK _ _ ?_; clear hK K
                      refine go (cj rTI @h1) ?_
                      exact fr
                  · rw [decide_eq_false c3, Bool.false_and]
                    refine aw_drw (.take 0 (.take 1 (.take 2 (.take 3 (.take 4 (.take 5 (.take 6 (.take 7 (.take 8 (.take 9 (.take 10 (.take 11 (.take 12 (.take 13 (.take 14 (.take 15 (.take 16 (.take 17 (.take 18 (.take 19 (.take 20 (.take 21 (.take 22 (.take 23 (.take 24 (.take 25 (.take 26 (.take 27 (.take 28 (.take 29 (.take 30 (.take 31 (.take 32 (.take 33 (.take 34 (.take 35 (.take 36 (.take 37 (.take 38 (.done)))))))))))))))))))))))))))))))))))))))) [s.nx] (by kernel_rfl) (by kernel_rfl) fun K hK => ?_; refine dr (cj rTI (cj @h1 (cj @k1 (cj @gb (cj @c1 (cj @e5 (cj @n5 (cj @t1 (cj @t2 (cj @i1 (cj @i2 (cj @i3 @i4)))))))))))) ?_; refine hK _ _ ?_; clear hK K
                    refine go (cj rTI @h1) ?_
                    exact fr
              · rw [decide_eq_false (fun x => c2 x.2.1)]
                refine aw_seq ?_
                refine aw_drw (.take 0 (.take 1 (.take 2 (.take 3 (.take 4 (.take 5 (.take 6 (.take 7 (.take 8 (.take 9 (.take 10 (.take 11 (.take 12 (.take 13 (.take 14 (.take 15 (.take 16 (.take 17 (.take 18 (.take 19 (.take 20 (.take 21 (.take 22 (.take 23 (.take 24 (.take 25 (.take 26 (.take 27 (.take 28 (.take 29 (.take 30 (.take 31 (.take 32 (.take 33 (.take 34 (.take 35 (.take 36 (.take 37 (.take 38 (.done)))))))))))))))))))))))))))))))))))))))) [s.nx] (by kernel_rfl) (by kernel_rfl) fun K hK => ?_; refine dr (cj rTI (cj @h1 (cj @k1 (cj @gb @c1)))) ?_; refine hK _ _ ?_; clear hK K
                refine go (cj rTI @h1) ?_
                exact fr
            · rw [decide_eq_false (fun x => c1 x.1)]
              refine aw_seq ?_
              refine aw_drw (.take 0 (.take 1 (.take 2 (.take 3 (.take 4 (.take 5 (.take 6 (.take 7 (.take 8 (.take 9 (.take 10 (.take 11 (.take 12 (.take 13 (.take 14 (.take 15 (.take 16 (.take 17 (.take 18 (.take 19 (.take 20 (.take 21 (.take 22 (.take 23 (.take 24 (.take 25 (.take 26 (.take 27 (.take 28 (.take 29 (.take 30 (.take 31 (.take 32 (.take 33 (.take 34 (.take 35 (.take 36 (.take 37 (.take 38 (.done)))))))))))))))))))))))))))))))))))))))) [s.nx] (by kernel_rfl) (by kernel_rfl) fun K hK => ?_; refine dr (cj rTI (cj @h1 (cj @k1 @gb))) ?_; refine hK _ _ ?_; clear hK K
              refine go (cj rTI @h1) ?_
              exact fr
          rw [if_neg q2]
          by_cases q3 : kd = 3
          · rw [if_pos q3]
            subst q3
            refine go (cj rTI (cj @h1 (cj @k1 (cj @k21 (cj @k22 @gb))))) ?_
            refine ifs ?_ ?_ <;> first | exact nope | intro hb
            refine go (cj rTI (cj @h1 (cj @k1 (cj @k21 (cj @k22 @gb))))) ?_
            refine ifs ?_ ?_ <;> first | exact nope | intro hb
            refine go (cj rTI @h1) ?_
            refine ifs ?_ ?_ <;> first | exact nope | intro hb
            refine go (cj rTI @h1) ?_
            refine ifs ?_ ?_ <;> first | exact nope | intro hb
            refine go (cj rTI @h1) ?_
            refine aw_loop (fun m e2 s2 => ∃ j, m = S.length - j ∧ j ≤ S.length ∧ e2.n = 145 ∧ e2.m 1 = .ptr s.nx 0 ∧ e2.m 7 = .v (.int .i64 ((j : Int) + 1)) ∧ (∀ i, i < j → i + 1 < S.length → S.getD i 0 < S.getD (i + 1) 0) ∧ s2 = s'') S.length ?_ ?_
            · refine ⟨0, by omega, by omega, ?_, ?_, ?_, fun i hi => by omega, ?_⟩
              all_goals ((first | refine rn (cj rTI (cj @h1 @k1)) ?_ | exact rn0 (cj rTI (cj @h1 @k1))))
              all_goals (first | rfl | trivial)
            · clear h1 k1 k20 k21 k22
              rintro m e2 s2 ⟨j, rfl, hj, h1, k1, k7, hr, rfl⟩
              by_cases hj2 : j + 1 < S.length
              · have f1 := hd_IL S (j + 1) hj2
                have f2 := hd_IL S j (by omega)
                have hnr := rising_not S j hj2
                have hpr : S.getD j 0 < S.getD (j + 1) 0 → ∀ i, i < j + 1 → i + 1 < S.length → S.getD i 0 < S.getD (i + 1) 0 := fun h i hi hi2 => by
                  by_cases q : i = j
                  · subst q; exact h
                  · exact hr i (by omega) hi2
                clear hr
                unfold iv at f1 f2
                generalize S.getD (j + 1) 0 = x1 at *
                generalize S.getD j 0 = x0 at *
                have hj3 : (j : Int) + 1 - 1 = (j : Int) := by omega
                have hj4 : ((j : Int) + 1).toNat = j + 1 := by omega
                refine go (cj rTI (cj @h1 (cj @k1 (cj @k7 @gb)))) ?_
                refine ifs ?_ ?_ <;> first | exact nope | intro hb
                refine aw_skip ?_
                refine go rTI ?_
                refine aw_drw (.take 0 (.take 1 (.take 2 (.take 3 (.take 4 (.take 5 (.take 6 (.take 7 (.take 8 (.take 9 (.take 10 (.take 11 (.done))))))))))))) [s.nx] (by kernel_rfl) (by kernel_rfl) fun K hK => ?_; refine dr (cj rTI (cj @h1 (cj @k1 (cj @k7 (cj @gb (cj @f1 (cj @f2 (cj @hj3 @hj4)))))))) ?_; refine hK _ _ ?_; clear hK K
                by_cases c : x1 ≤ x0
                · refine ifs ?_ ?_ <;> first | exact nope | intro hb
                  rw [hnr (by omega), Bool.false_and]
                  refine go (cj rTI @h1) ?_
                  exact fr
                · refine ifs ?_ ?_ <;> first | exact nope | intro hb
                  have hp2 := hpr (by omega)
                  refine go (cj rTI (cj @h1 @k7)) ?_
                  try simp only [block_normal, loop_normal]
                  refine ⟨S.length - (j + 1), by omega, j + 1, rfl, by omega, ?_, ?_, ?_, hp2, ?_⟩
                  all_goals ((first | refine rn (cj rTI (cj @h1 (cj @k1 @k7))) ?_ | exact rn0 (cj rTI (cj @h1 (cj @k1 @k7)))))
                  all_goals (first | rfl | trivial)
              · have hR : rising S = true := rising_of S fun i hi => hr i (by omega) hi
                rw [hR, Bool.true_and]
                refine go (cj rTI (cj @h1 (cj @k1 (cj @k7 @gb)))) ?_
                refine ifs ?_ ?_ <;> first | exact nope | intro hb
                have hb4 : decide (V.length = S.length ∧ 1 ≤ V.length ∧ V.length ≤ 16) = (decide (V.length = S.length) && (decide (1 ≤ V.length) && decide (V.length ≤ 16))) := by rw [Bool.decide_and, Bool.decide_and]
                rw [hb4]
                rcases (by omega : ¬ V.length = S.length ∨ (V.length = S.length ∧ V.length < 1) ∨ (V.length = S.length ∧ 16 < V.length) ∨ (V.length = S.length ∧ 1 ≤ V.length ∧ V.length ≤ 16)) with c | ⟨c1, c2⟩ | ⟨c1, c2⟩ | ⟨c1, c2, c3⟩
                · rw [decide_eq_false c, Bool.false_and]
                  refine go (cj rTI (cj @h1 (cj @k1 @gb))) ?_
                  exact fr
                · rw [decide_eq_true c1, decide_eq_false (by omega : ¬ 1 ≤ V.length), Bool.false_and, Bool.and_false]
                  refine go (cj rTI (cj @h1 (cj @k1 @gb))) ?_
                  exact fr
                · rw [decide_eq_true c1, decide_eq_false (by omega : ¬ V.length ≤ 16), Bool.and_false, Bool.and_false]
                  refine go (cj rTI (cj @h1 (cj @k1 @gb))) ?_
                  exact fr
                · rw [decide_eq_true c1, decide_eq_true c2, decide_eq_true c3]
                  refine go (cj rTI (cj @h1 (cj @k1 @gb))) ?_
                  exact fr
          rw [if_neg q3]
          by_cases q4 : kd = 4
          · rw [if_pos q4]
            subst q4
            have hb4 : decide (1 ≤ V.length ∧ V.length ≤ 16 ∧ S.length = 0) = (decide (1 ≤ V.length) && (decide (V.length ≤ 16) && decide (S.length = 0))) := by rw [Bool.decide_and, Bool.decide_and]
            rw [hb4]
            rcases (by omega : V.length < 1 ∨ 16 < V.length ∨ (1 ≤ V.length ∧ V.length ≤ 16 ∧ S.length = 0) ∨ (1 ≤ V.length ∧ V.length ≤ 16 ∧ ¬ S.length = 0)) with c | c | ⟨c1, c2, c3⟩ | ⟨c1, c2, c3⟩
            · rw [decide_eq_false (by omega : ¬ 1 ≤ V.length), Bool.false_and]
              refine go (cj rTI (cj @h1 (cj @k1 (cj @k21 (cj @k22 @gb))))) ?_
              refine ifs ?_ ?_ <;> first | exact nope | intro hb
              refine go (cj rTI (cj @h1 (cj @k1 (cj @k21 (cj @k22 @gb))))) ?_
              refine ifs ?_ ?_ <;> first | exact nope | intro hb
              refine go (cj rTI @h1) ?_
              refine ifs ?_ ?_ <;> first | exact nope | intro hb
              refine go (cj rTI @h1) ?_
              refine ifs ?_ ?_ <;> first | exact nope | intro hb
              refine go (cj rTI @h1) ?_
              refine ifs ?_ ?_ <;> first | exact nope | intro hb
              refine go (cj rTI (cj @h1 (cj @k1 @gb))) ?_
              exact fr
            · rw [decide_eq_false (by omega : ¬ V.length ≤ 16), Bool.false_and, Bool.and_false]
              refine go (cj rTI (cj @h1 (cj @k1 (cj @k21 (cj @k22 @gb))))) ?_
              refine ifs ?_ ?_ <;> first | exact nope | intro hb
              refine go (cj rTI (cj @h1 (cj @k1 (cj @k21 (cj @k22 @gb))))) ?_
              refine ifs ?_ ?_ <;> first | exact nope | intro hb
              refine go (cj rTI @h1) ?_
              refine ifs ?_ ?_ <;> first | exact nope | intro hb
              refine go (cj rTI @h1) ?_
              refine ifs ?_ ?_ <;> first | exact nope | intro hb
              refine go (cj rTI @h1) ?_
              refine ifs ?_ ?_ <;> first | exact nope | intro hb
              refine go (cj rTI (cj @h1 (cj @k1 @gb))) ?_
              exact fr
            · rw [decide_eq_true c1, decide_eq_true c2, decide_eq_true c3]
              refine go (cj rTI (cj @h1 (cj @k1 (cj @k21 (cj @k22 @gb))))) ?_
              refine ifs ?_ ?_ <;> first | exact nope | intro hb
              refine go (cj rTI (cj @h1 (cj @k1 (cj @k21 (cj @k22 @gb))))) ?_
              refine ifs ?_ ?_ <;> first | exact nope | intro hb
              refine go (cj rTI @h1) ?_
              refine ifs ?_ ?_ <;> first | exact nope | intro hb
              refine go (cj rTI @h1) ?_
              refine ifs ?_ ?_ <;> first | exact nope | intro hb
              refine go (cj rTI @h1) ?_
              refine ifs ?_ ?_ <;> first | exact nope | intro hb
              refine go (cj rTI (cj @h1 (cj @k1 @gb))) ?_
              exact fr
            · rw [decide_eq_true c1, decide_eq_true c2, decide_eq_false c3]
              refine go (cj rTI (cj @h1 (cj @k1 (cj @k21 (cj @k22 @gb))))) ?_
              refine ifs ?_ ?_ <;> first | exact nope | intro hb
              refine go (cj rTI (cj @h1 (cj @k1 (cj @k21 (cj @k22 @gb))))) ?_
              refine ifs ?_ ?_ <;> first | exact nope | intro hb
              refine go (cj rTI @h1) ?_
              refine ifs ?_ ?_ <;> first | exact nope | intro hb
              refine go (cj rTI @h1) ?_
              refine ifs ?_ ?_ <;> first | exact nope | intro hb
              refine go (cj rTI @h1) ?_
              refine ifs ?_ ?_ <;> first | exact nope | intro hb
              refine go (cj rTI (cj @h1 (cj @k1 @gb))) ?_
              exact fr
          rw [if_neg q4]
          refine go (cj rTI (cj @h1 (cj @k1 (cj @k21 (cj @k22 @gb))))) ?_
          refine ifs ?_ ?_ <;> first | exact nope | intro hb
          refine go (cj rTI (cj @h1 (cj @k1 (cj @k21 (cj @k22 @gb))))) ?_
          refine ifs ?_ ?_ <;> first | exact nope | intro hb
          refine go (cj rTI @h1) ?_
          refine ifs ?_ ?_ <;> first | exact nope | intro hb
          refine go (cj rTI @h1) ?_
          refine ifs ?_ ?_ <;> first | exact nope | intro hb
          refine go (cj rTI @h1) ?_
          refine ifs ?_ ?_ <;> first | exact nope | intro hb
          refine go (cj rTI @h1) ?_
          exact fr
end Go.Proofs.YtfjelkjlfcafgaaGreatDoor.CardH
end
section
/- Cards: Read. -/
namespace Go.Proofs.YtfjelkjlfcafgaaGreatDoor.CardI
open Go Go.RowKit Go.Proofs.YtfjelkjlfcafgaaGreatDoor.Ax Go.Proofs.YtfjelkjlfcafgaaGreatDoor.Ti Go.Proofs.YtfjelkjlfcafgaaGreatDoor.NumS Go.Proofs.YtfjelkjlfcafgaaGreatDoor.NumT Go.Proofs.YtfjelkjlfcafgaaGreatDoor.CardS Go.Proofs.YtfjelkjlfcafgaaGreatDoor.CardP Go.Proofs.YtfjelkjlfcafgaaGreatDoor.CardA Go.Proofs.YtfjelkjlfcafgaaGreatDoor.CardB Go.Proofs.YtfjelkjlfcafgaaGreatDoor.CardC Go.Proofs.YtfjelkjlfcafgaaGreatDoor.CardD Go.Proofs.YtfjelkjlfcafgaaGreatDoor.CardE Go.Proofs.YtfjelkjlfcafgaaGreatDoor.CardF Go.Proofs.YtfjelkjlfcafgaaGreatDoor.CardG Go.Proofs.YtfjelkjlfcafgaaGreatDoor.CardH
open Go.Proofs.YtfjelkjlfcafgaaGreatDoor.NumA (NM)
set_option linter.unusedSimpArgs false
set_option linter.unusedVariables false
set_option maxRecDepth 4000
set_option maxHeartbeats 2000000
theorem rTI : type_of% (cj @ti3 (cj @ti4 (cj @ti9 (cj @ti5 (cj @ti2 (cj @ti36 (cj @ti63 (cj @ti62 (cj @ti24 (cj @ti65 (cj @ti67 (cj @ti25 (cj @ti144 (cj @ti146 (cj @Nat.zero_add (cj @tz0 (cj @tz1 (cj @tz3 (cj @Nat.mul_one @Int.toNat_natCast))))))))))))))))))) := cj @ti3 (cj @ti4 (cj @ti9 (cj @ti5 (cj @ti2 (cj @ti36 (cj @ti63 (cj @ti62 (cj @ti24 (cj @ti65 (cj @ti67 (cj @ti25 (cj @ti144 (cj @ti146 (cj @Nat.zero_add (cj @tz0 (cj @tz1 (cj @tz3 (cj @Nat.mul_one @Int.toNat_natCast))))))))))))))))))
def CA (c : Crd) : AV := .ag [SV c.name, TV c.nodes, SV c.ref, iv c.value.1, iv c.value.2, iv c.wave.kind, NV c.wave.vals, IV c.wave.steps]
def RA (p : Crd × Int) : AV := .tp [CA p.1, iv p.2]
theorem ca_idf (c : Crd) : idf (CA c) = true := by
  show (true && (idf (TV c.nodes) && (true && (true && (true && (true && (idf.idfL (NC c.wave.vals) && (idf.idfL (IL c.wave.steps) && true)))))))) = true
  rw [nc_idf, il_idf, tv_idf]
  rfl
theorem ra_idf (p : Crd × Int) : idf (RA p) = true := by
  show (idf (CA p.1) && (true && true)) = true
  rw [ca_idf]
  rfl
def cz : List AV := [.v (.string ByteArray.empty), nilS, .v (.string ByteArray.empty), .v (.int .i64 0), .v (.int .i64 0), .v (.int .i64 0), nilS, nilS]
theorem ra_err (e : Int) : Le (.tp [.ag cz, .v (.int .i64 e)]) (RA (crd0, e)) := by
  refine Le.tp rfl fun j x y hx hy => ?_
  match j with
  | 0 =>
    simp at hx hy; subst hx hy
    refine Le.ag rfl fun j x y hx hy => ?_
    match j with
    | 0 => simp [cz] at hx hy; subst hx hy; exact Le.refl _
    | 1 => simp [cz, nilS] at hx hy; subst hx hy; exact Le.nil 0 0 rfl
    | 2 => simp [cz] at hx hy; subst hx hy; exact Le.refl _
    | 3 => simp [cz] at hx hy; subst hx hy; exact Le.refl _
    | 4 => simp [cz] at hx hy; subst hx hy; exact Le.refl _
    | 5 => simp [cz] at hx hy; subst hx hy; exact Le.refl _
    | 6 => simp [cz, nilS] at hx hy; subst hx hy; exact Le.nil 0 0 rfl
    | 7 => simp [cz, nilS] at hx hy; subst hx hy; exact Le.nil 0 0 rfl
    | j + 8 => simp [cz] at hx
  | 1 => simp at hx hy; subst hx hy; exact Le.refl _
  | j + 2 => simp at hx
theorem ra_le (c : Crd) (X Y : AV) (hX : Le X (NV c.wave.vals)) (hY : Le Y (IV c.wave.steps)) :
    Le (.tp [.ag [SV c.name, TV c.nodes, SV c.ref, .v (.int .i64 c.value.1), .v (.int .i64 c.value.2), .v (.int .i64 c.wave.kind), X, Y], .v (.int .i64 0)]) (RA (c, 0)) := by
  refine Le.tp rfl fun j x y hx hy => ?_
  match j with
  | 0 =>
    simp at hx hy; subst hx hy
    refine Le.ag rfl fun j x y hx hy => ?_
    match j with
    | 0 => simp at hx hy; subst hx hy; exact Le.refl _
    | 1 => simp at hx hy; subst hx hy; exact Le.refl _
    | 2 => simp at hx hy; subst hx hy; exact Le.refl _
    | 3 => simp at hx hy; subst hx hy; exact Le.refl _
    | 4 => simp at hx hy; subst hx hy; exact Le.refl _
    | 5 => simp at hx hy; subst hx hy; exact Le.refl _
    | 6 => simp at hx hy; subst hx hy; exact hX
    | 7 => simp at hx hy; subst hx hy; exact hY
    | j + 8 => simp at hx
  | 1 => simp at hx hy; subst hx hy; exact Le.refl _
  | j + 2 => simp at hx
theorem odds_len : ∀ (l : List Str), (odds l).length ≤ l.length
  | [] => Nat.le_refl _
  | [_] => Nat.zero_le _
  | _ :: b :: r => by
    show (b :: odds r).length ≤ _
    have := odds_len r
    rw [List.length_cons, List.length_cons, List.length_cons]
    omega
theorem evens_len : ∀ (l : List Str), (evens l).length ≤ l.length
  | [] => Nat.le_refl _
  | [_] => Nat.le_refl _
  | a :: _ :: r => by
    show (a :: evens r).length ≤ _
    have := evens_len r
    rw [List.length_cons, List.length_cons, List.length_cons]
    omega
theorem wave_len (ws : List Str) (e : Int) : (waveR ws e).1.vals.length ≤ ws.length + 1 ∧ (waveR ws e).1.steps.length ≤ ws.length := by
  cases ws with
  | nil => exact ⟨Nat.zero_le _, Nat.le_refl _⟩
  | cons k r =>
    have h1 := odds_len r
    have h2 := evens_len r
    unfold waveR
    simp only
    (repeat' split) <;> simp only [List.length_map, List.length_take, List.length_drop, List.length_cons, List.length_nil] <;> omega
structure CI (s s' : St) (c : List AV) : Prop where
  z : s'.get s.nx = some cz
  c : s'.get (s.nx + 1) = some c
  n : s.nx + 2 ≤ s'.nx
  fr : ∀ i, i < s.nx → s'.get i = s.get i
theorem ci_new (s : St) (z c : List AV) : CI s (((s.push cz).push z).set (s.nx + 1) c) c := by
  refine ⟨?_, St.set_same _ _ _, Nat.le_refl _, fun i hi => ?_⟩
  · rw [St.set_ne _ _ _ _ (by omega), St.push_ne (s.push cz) _ _ (by rw [St.nx_push]; omega)]
    exact St.push_same s cz
  · rw [St.set_ne _ _ _ _ (by omega), St.push_ne (s.push cz) _ _ (by rw [St.nx_push]; omega), St.push_ne s _ _ (by omega)]
structure CR (s s' : St) (b : Nat) (c : List AV) (ws : List Str) (e : Int) : Prop where
  z : s'.get s.nx = some cz
  c : s'.get (s.nx + 1) = some c
  r : s'.get b = some (rdr ws e)
  o : s.nx + 2 ≤ b ∧ b < s'.nx
  fr : ∀ i, i < s.nx → s'.get i = s.get i
theorem CR.of {s s' : St} {c : List AV} (h : CI s s' c) (ws : List Str) (e : Int) : CR s (s'.push (rdr ws e)) s'.nx c ws e := by
  have := h.n
  refine ⟨?_, ?_, St.push_same _ _, ⟨h.n, Nat.lt_succ_self _⟩, fun i hi => ?_⟩
  · rw [St.push_ne _ _ _ (by omega)]; exact h.z
  · rw [St.push_ne _ _ _ (by omega)]; exact h.c
  · rw [St.push_ne _ _ _ (by omega)]; exact h.fr i hi
theorem CR.upd {s s' : St} {b : Nat} {c : List AV} {ws : List Str} {e : Int} (h : CR s s' b c ws e) (ws2 : List Str) (e2 : Int) : CR s (s'.set b (rdr ws2 e2)) b c ws2 e2 := by
  have := h.o
  refine ⟨?_, ?_, St.set_same _ _ _, ⟨h.o.1, h.o.2⟩, fun i hi => ?_⟩
  · rw [St.set_ne _ _ _ _ (by omega)]; exact h.z
  · rw [St.set_ne _ _ _ _ (by omega)]; exact h.c
  · rw [St.set_ne _ _ _ _ (by omega)]; exact h.fr i hi
theorem CR.put {s s' : St} {b : Nat} {c : List AV} {ws : List Str} {e : Int} (h : CR s s' b c ws e) (c2 : List AV) : CR s (s'.set (s.nx + 1) c2) b c2 ws e := by
  have := h.o
  refine ⟨?_, St.set_same _ _ _, ?_, ⟨h.o.1, h.o.2⟩, fun i hi => ?_⟩
  · rw [St.set_ne _ _ _ _ (by omega)]; exact h.z
  · rw [St.set_ne _ _ _ _ (by omega)]; exact h.r
  · rw [St.set_ne _ _ _ _ (by omega)]; exact h.fr i hi
theorem shape_few (k : Nat) : (shapeK k).1 ≤ 4 := by unfold shapeK; (repeat' split) <;> decide
theorem counted_form (k : Nat) (w0 : Str) (r : List Str) (h : counted k (w0 :: r) = true) :
    (formOf k (r.length + 1)).1 + (if (formOf k (r.length + 1)).2.1 = true then 1 else 0) + (if (formOf k (r.length + 1)).2.2 = true then 1 else 0) ≤ r.length ∧ (formOf k (r.length + 1)).1 ≤ 8 ∧
    (srcC k = true → formOf k (r.length + 1) = (2, false, false) ∧ waveWords (r.drop 2) = true) := by
  unfold counted at h
  unfold formOf
  by_cases h1 : k = 120
  · rw [if_pos h1, decide_eq_true_eq, List.length_cons] at h
    rw [if_pos h1]
    refine ⟨by simp; omega, by simp; omega, fun hs => ?_⟩
    subst h1
    cases hs
  · rw [if_neg h1] at h
    rw [if_neg h1]
    by_cases h2 : k = 118 ∨ k = 105
    · rw [if_pos h2, Bool.and_eq_true, decide_eq_true_eq, List.length_cons] at h
      have hs : shapeK k = (2, false, false) := by rcases h2 with rfl | rfl <;> rfl
      rw [hs]
      exact ⟨by simp; omega, by decide, fun _ => ⟨rfl, h.2⟩⟩
    · rw [if_neg h2, decide_eq_true_eq, List.length_cons] at h
      have := shape_few k
      unfold want at h
      refine ⟨by omega, by omega, fun hs => ?_⟩
      unfold srcC at hs
      exact absurd (of_decide_eq_true hs) h2
theorem read_ax (ws : List Str) (hw : BL ws) (hwl : ∀ w ∈ ws, w.length ≤ 281474976710656) (hl : ws.length ≤ 10000) : PCall Tryz.prog 40 [TV ws] (RA (readC ws)) := by
  refine pcall_le fun s => ?_
  cases ws with
  | nil =>
    rw [show readC [] = (crd0, 70) from rfl]
    unfold TV
    refine acall_of Tryz.func40 rfl rfl (by simp [Tryz.ntmps40]) ?_; rw [Tryz.ntmps40, Tryz.results40]
    refine go rTI ?_
    refine ifs ?_ ?_ <;> first | exact nope | intro hb
    refine go rTI ?_
    exact ⟨ra_err 70, ra_idf _, fun i hi => if_neg (by omega)⟩
  | cons w0 r =>
    rw [show readC (w0 :: r) = readB w0 r (w0.getD 0 0) (formOf (w0.getD 0 0) (r.length + 1)) from rfl]
    have b0 : By w0 := hw w0 (List.mem_cons_self ..)
    have hd := dev_ax w0 b0 (by have := hwl w0 (List.mem_cons_self ..); omega)
    have hd0 : (SL (w0 :: r)).head? = some (.v (.string (bs w0))) := rfl
    have lS := bs_size w0
    have hg := bs_get w0 b0 0
    have hct := counted_ax (w0.getD 0 0) (w0 :: r) hw (by omega)
    have hz : (((r.length + 1 : Nat) : Int) == 0) = false := by simp; omega
    unfold TV SV at *
    rw [List.length_cons] at hct ⊢
    unfold readB
    cases hv : isDev w0 with
    | false =>
      rw [hv] at hd
      rw [Bool.false_and, if_neg Bool.false_ne_true]
      refine acall_of Tryz.func40 rfl rfl (by simp [Tryz.ntmps40]) ?_; rw [Tryz.ntmps40, Tryz.results40]
      refine go rTI ?_
      refine aw_reg fun K hK => ?_; refine rn (cj rTI (cj @hz @hd0)) ?_; refine cont_pure hd ?_; refine rn (cj rTI (cj @hz @hd0)) ?_; refine hK _ _ ?_; clear hK K
      refine ifs ?_ ?_ <;> first | exact nope | intro hb
      refine go rTI ?_
      exact ⟨ra_err 70, ra_idf _, fun i hi => if_neg (by omega)⟩
    | true =>
      rw [hv] at hd
      have hp : 0 < w0.length := name_pos w0 (by unfold isDev at hv; rw [Bool.and_eq_true] at hv; exact hv.1)
      cases hv2 : counted (w0.getD 0 0) (w0 :: r) with
      | false =>
        rw [hv2] at hct
        rw [Bool.and_false, if_neg Bool.false_ne_true]
        generalize w0.getD 0 0 = k at *
        refine acall_of Tryz.func40 rfl rfl (by simp [Tryz.ntmps40]) ?_; rw [Tryz.ntmps40, Tryz.results40]
        refine go rTI ?_
        refine aw_reg fun K hK => ?_; refine rn (cj rTI (cj @hz (cj @hd0 (cj @lS @hg)))) ?_; refine cont_pure hd ?_; refine rn (cj rTI (cj @hz (cj @hd0 (cj @lS @hg)))) ?_; refine cont_pure hct ?_; refine rn (cj rTI (cj @hz (cj @hd0 (cj @lS @hg)))) ?_; refine hK _ _ ?_; clear hK K
        refine ifs ?_ ?_ <;> first | exact nope | intro hb
        refine go rTI ?_
        exact ⟨ra_err 70, ra_idf _, fun i hi => if_neg (by omega)⟩
      | true =>
        rw [hv2] at hct
        rw [Bool.and_true, if_pos rfl]
        refine acall_of Tryz.func40 rfl rfl (by simp [Tryz.ntmps40]) ?_; rw [Tryz.ntmps40, Tryz.results40]
        refine go rTI ?_
        refine aw_reg fun K hK => ?_; refine rn (cj rTI (cj @hz (cj @hd0 (cj @lS @hg)))) ?_; refine cont_pure hd ?_; refine rn (cj rTI (cj @hz (cj @hd0 (cj @lS @hg)))) ?_; refine cont_pure hct ?_; refine rn (cj rTI (cj @hz (cj @hd0 (cj @lS @hg)))) ?_; refine hK _ _ ?_; clear hK K
        refine ifs ?_ ?_ <;> first | exact nope | intro hb
        refine go (cj rTI (cj @hd0 (cj @lS @hg))) ?_
        have hsh := shape_ax (w0.getD 0 0)
        unfold shapeV at hsh
        generalize w0.getD 0 0 = k at *
        refine aw_reg fun K hK => ?_; refine rn rTI ?_; refine cont_pure hsh ?_; refine rn rTI ?_; refine hK _ _ ?_; clear hK K
        refine go rTI ?_
        have hf : formOf k (r.length + 1) = if k = 120 then (r.length + 1 - 2, true, false) else shapeK k := rfl
        have h3 : k = 120 → 3 ≤ r.length + 1 := fun h => by
          unfold counted at hv2
          rw [if_pos h, decide_eq_true_eq] at hv2
          exact hv2.1
        have hcf := counted_form k w0 r hv2
        generalize formOf k (r.length + 1) = f at *
        obtain ⟨fa, fb, fc⟩ := f
        simp only at hcf
        refine aw_only (fun e' s' => e'.n = 151 ∧ e'.m 0 = .sl (r.length + 1) (SL (w0 :: r)) ∧ e'.m 2 = .ptr s.nx 0 ∧ e'.m 4 = .v (.int .u8 (k : Nat)) ∧ e'.m 5 = .v (.int .i64 (fa : Nat)) ∧ e'.m 6 = .v (.bool fb) ∧ e'.m 7 = .v (.bool fc) ∧ s' = s.push cz) ?_ ?_
        · by_cases hk : k = 120
          · rw [if_pos hk] at hf
            simp only [Prod.mk.injEq] at hf
            obtain ⟨rfl, rfl, rfl⟩ := hf
            subst hk
            have h4 := h3 rfl
            have e2 : ((r.length + 1 : Nat) : Int) - 2 = ((r.length + 1 - 2 : Nat) : Int) := by omega
            refine ifs ?_ ?_ <;> first | exact nope | intro hb
            refine go (cj rTI @e2) ?_
            (repeat' refine And.intro ?_ ?_) <;> first | exact rfl | exact fnz (cj rTI @e2) | skip
            all_goals (first | rfl | skip)
          · rw [if_neg hk] at hf
            rw [← hf] at hsh
            have hk2 : ¬ (k : Int) = 120 := by omega
            refine ifs ?_ ?_ <;> first | exact nope | intro hb
            refine go rTI ?_
            rw [← hf]
            exact ⟨rfl, rfl, rfl, rfl⟩
        · rintro e' s' ⟨h1, k0, k2, k4, k5, k6, k7, rfl⟩
          rw [then_normal]
          clear hsh hf h3 hd hct
          obtain ⟨c1, c2, c3⟩ := hcf
          have hcl3 := c1
          have hfa : fa ≤ r.length := by omega
          have hcl0 := clone_ax (r.take fa) (by rw [List.length_take]; omega)
          have htk : AV.sl fa ((SL r).take fa) = TV (r.take fa) := by
            unfold TV SL
            rw [← List.map_take, List.length_take, Nat.min_eq_left hfa]
          have hcl : PCall Tryz.prog 92 [AV.sl (fa + 1 - 1) ((SL r).take (fa + 1 - 1))] (.sl fa ((SL r).take fa)) := by
            rw [Nat.add_sub_cancel, htk]
            exact hcl0
          have hi1 : ((1 : Int) + (fa : Int)) = ((fa + 1 : Nat) : Int) := by omega
          have hdr : (SL (w0 :: r)).drop 1 = SL r := rfl
          refine aw_seq ?_
          refine aw_only (fun e2 s2 => e2.n = 151 ∧ e2.m 0 = .sl (r.length + 1) (SL (w0 :: r)) ∧ e2.m 2 = .ptr s.nx 0 ∧ e2.m 4 = .v (.int .u8 (k : Nat)) ∧ e2.m 5 = .v (.int .i64 (fa : Nat)) ∧ e2.m 6 = .v (.bool fb) ∧ e2.m 7 = .v (.bool fc) ∧ e2.m 8 = .ptr (s.nx + 1) 0 ∧ CI s s2 [.v (.string (bs w0)), .sl fa ((SL r).take fa), .v (.string ByteArray.empty), .v (.int .i64 0), .v (.int .i64 0), .v (.int .i64 0), nilS, nilS]) ?_ ?_
          · refine aw_drw (.take 0 (.take 1 (.take 2 (.take 3 (.take 4 (.take 5 (.take 6 (.two 7 (.take 8 (.one 9 (.one 10 (.done)))) 9 (.one 7 (.take 8 (.one 10 (.done)))))))))))) [] (by kernel_rfl) (by kernel_rfl) fun K hK => ?_; refine dr (cj rTI (cj @h1 (cj @k0 (cj @k5 (cj @hd0 (cj @hi1 @hdr)))))) ?_; refine ⟨cont_pure hcl ?_, cont_pure hcl ?_⟩; all_goals (refine dr (cj rTI (cj @h1 (cj @k0 (cj @k5 (cj @hd0 (cj @hi1 @hdr)))))) ?_; refine hK _ _ ⟨rfl, ?_, ?_, ?_, ?_, ?_, ?_, ?_, ?_, ?_⟩); all_goals (first | exact ci_new s _ _ | skip)
            all_goals (exact rn0 (cj @h1 (cj @k0 (cj @k2 (cj @k4 (cj @k5 (cj @k6 @k7)))))))
            all_goals trivial
          clear h1 k0 k2 k4 k5 k6 k7 hcl hcl0 hi1 hdr hd0 hg lS
          rintro e2 s2 ⟨h1, k0, k2, k4, k5, k6, k7, k8, hC⟩
          rw [then_normal]
          have gc := hC.c
          have gz : s2.get s.nx = some [.v (.string ByteArray.empty), .v (.slice none 0 0), .v (.string ByteArray.empty), .v (.int .i64 0), .v (.int .i64 0), .v (.int .i64 0), .v (.slice none 0 0), .v (.slice none 0 0)] := hC.z
          refine go (cj rTI (cj @h1 (cj @k8 @gc))) ?_
          refine aw_loop (fun m e3 s3 => ∃ j, m = fa - j ∧ j ≤ fa ∧ e3.n = 151 ∧ e3.m 0 = .sl (r.length + 1) (SL (w0 :: r)) ∧ e3.m 2 = .ptr s.nx 0 ∧ e3.m 4 = .v (.int .u8 (k : Nat)) ∧ e3.m 5 = .v (.int .i64 (fa : Nat)) ∧ e3.m 6 = .v (.bool fb) ∧ e3.m 7 = .v (.bool fc) ∧ e3.m 8 = .ptr (s.nx + 1) 0 ∧ e3.m 58 = .sl fa ((SL r).take fa) ∧ e3.m 59 = .v (.int .i64 (fa : Nat)) ∧ e3.m 60 = .v (.int .i64 (j : Nat)) ∧ ((r.take fa).take j).all isName = true ∧ s3 = s2) fa ?_ ?_
          · refine ⟨0, by omega, by omega, ?_⟩
            (repeat' refine And.intro ?_ ?_) <;> first | exact rfl | exact fnz (cj rTI (cj @h1 (cj @k0 (cj @k2 (cj @k4 (cj @k5 (cj @k6 (cj @k7 @k8)))))))) | skip
          · clear h1 k0 k2 k4 k5 k6 k7 k8
            rintro m e3 s3 ⟨j, rfl, hj, h1, k0, k2, k4, k5, k6, k7, k8, k58, k59, k60, ha, rfl⟩
            have hlt : (r.take fa).length = fa := by rw [List.length_take]; omega
            by_cases hj2 : j < fa
            · have f1 := hd_SL (r.take fa) j (by omega)
              rw [show SL (r.take fa) = (SL r).take fa from by unfold SL; rw [List.map_take]] at f1
              have hx : (r.take fa).getD j [] ∈ r := by
                rw [List.getD_eq_getElem?_getD, List.getElem?_eq_getElem (by omega)]
                exact List.mem_of_mem_take (List.getElem_mem _)
              have hnm := cname_ax ((r.take fa).getD j []) (hw _ (List.mem_cons_of_mem _ hx)) (by have := hwl _ (List.mem_cons_of_mem _ hx); omega)
              have ht := take_all isName (r.take fa) [] j (by omega) ha
              have hf := all_not isName (r.take fa) [] j (by omega)
              unfold SV at f1 hnm
              generalize (r.take fa).getD j [] = x at *
              refine go (cj rTI (cj @h1 (cj @k59 @k60))) ?_
              refine ifs ?_ ?_ <;> first | exact nope | intro hb
              refine aw_skip ?_
              refine go (cj rTI (cj @h1 (cj @k58 (cj @k60 @f1)))) ?_
              refine aw_reg fun K hK => ?_; refine rn rTI ?_; refine cont_pure hnm ?_; refine rn rTI ?_; refine hK _ _ ?_; clear hK K
              cases hc : isName x with
              | false =>
                rw [if_neg (by rw [hf hc]; exact Bool.false_ne_true)]
                refine ifs ?_ ?_ <;> first | exact nope | intro hb
                refine go (cj rTI (cj @h1 (cj @k2 @gz))) ?_
                exact ⟨ra_err 71, ra_idf _, fun i hi => by rw [if_neg (by omega)]; exact hC.fr i hi⟩
              | true =>
                rw [hc] at ht
                refine ifs ?_ ?_ <;> first | exact nope | intro hb
                refine go (cj rTI (cj @h1 @k60)) ?_
                simp only [block_normal, loop_normal]
                refine ⟨fa - (j + 1), by omega, j + 1, rfl, by omega, ?_, ?_, ?_, ?_, ?_, ?_, ?_, ?_, ?_, ?_, ?_, ht, trivial⟩
                all_goals ((first | refine rn (cj rTI (cj @h1 (cj @k0 (cj @k2 (cj @k4 (cj @k5 (cj @k6 (cj @k7 (cj @k8 (cj @k58 (cj @k59 @k60))))))))))) ?_ | exact rn0 (cj rTI (cj @h1 (cj @k0 (cj @k2 (cj @k4 (cj @k5 (cj @k6 (cj @k7 (cj @k8 (cj @k58 (cj @k59 @k60)))))))))))))
                all_goals (first | rfl | trivial)
            · obtain rfl : fa = j := by omega
              rw [List.take_of_length_le (by omega)] at ha
              rw [if_pos ha]
              refine go (cj rTI (cj @h1 (cj @k59 @k60))) ?_
              refine ifs ?_ ?_ <;> first | exact nope | intro hb
              clear hj hj2 k58 k59 k60 gc gz c1
              have htd : AV.sl (r.length + 1 - (1 + (fa : Int)).toNat) (((SL (w0 :: r)).drop (1 + (fa : Int)).toNat).take (r.length + 1 - (1 + (fa : Int)).toNat)) = TV (r.drop fa) := by
                have := TV_drop (w0 :: r) (fa + 1)
                rw [List.drop_succ_cons] at this
                rw [show (1 + (fa : Int)).toNat = fa + 1 by omega]
                exact this
              have hsrc : srcC k = true → fb = false ∧ fc = false ∧ waveWords (r.drop fa) = true := fun h => by
                obtain ⟨q1, q2⟩ := c3 h
                simp only [Prod.mk.injEq] at q1
                obtain ⟨rfl, rfl, rfl⟩ := q1
                exact ⟨rfl, rfl, q2⟩
              have hN : (SL r).take fa = SL (r.take fa) := by unfold SL; rw [List.map_take]
              have hNl : (r.take fa).length = fa := by rw [List.length_take]; omega
              have hbd : BL (r.drop fa) := fun w h => hw w (List.mem_cons_of_mem _ (List.mem_of_mem_drop h))
              have hbl : ∀ w ∈ r.drop fa, w.length ≤ 281474976710656 := fun w h => hwl w (List.mem_cons_of_mem _ (List.mem_of_mem_drop h))
              have hDl : (r.drop fa).length = r.length - fa := List.length_drop
              have hDn : (if fb = true then 1 else 0) + (if fc = true then 1 else 0) ≤ (r.drop fa).length := by rw [hDl]; omega
              have hDm : (r.drop fa).length ≤ 10000 := by rw [hDl]; rw [List.length_cons] at hl; omega
              have hR := CR.of hC (r.drop fa) 0
              unfold badRef errC wvC errV valC refC restC
              simp only
              rw [hN] at hR
              unfold rdr iv TV at hR
              unfold TV at htd
              refine go (cj rTI (cj @h1 (cj @k0 (cj @k5 (cj @k6 @htd))))) ?_
              clear htd hC
              generalize r.drop fa = D at *
              generalize r.take fa = N at *
              rw [then_normal]
              have hNN : AV.sl fa (SL N) = TV N := by unfold TV; rw [hNl]
              clear htk hlt hN hNl hDl
              generalize s3.push [AV.sl D.length (SL D), AV.v (.int .i64 0)] = s4 at *
              generalize s3.nx = b at *
              obtain ⟨ob1, ob2⟩ := hR.o
              have ob3 : s.nx + 1 ≠ b := by omega
              have ob4 : s.nx ≠ b := by omega
              generalize hrf : (if fb = true then D.headD [] else []) = rf
              generalize hD2 : (if fb = true then D.drop 1 else D) = D2
              generalize hbad : (fb && (!isName rf || decide (k = 102 ∨ k = 104) && decide (rf.getD 0 0 ≠ 118))) = bad
              refine aw_way (fun e4 s5 => e4.n = 151 ∧ e4.m 2 = .ptr s.nx 0 ∧ e4.m 4 = .v (.int .u8 (k : Nat)) ∧ e4.m 7 = .v (.bool fc) ∧ e4.m 8 = .ptr (s.nx + 1) 0 ∧ e4.m 11 = .ptr b 0 ∧ bad = false ∧ CR s s5 b [.v (.string (bs w0)), .sl fa (SL N), .v (.string (bs rf)), .v (.int .i64 0), .v (.int .i64 0), .v (.int .i64 0), nilS, nilS] D2 0) ?_ ?_
              · cases fb with
                | false =>
                  rw [if_neg Bool.false_ne_true] at hrf hD2
                  subst hrf hD2
                  refine ifs ?_ ?_ <;> first | exact nope | intro hb
                  refine aw_skip ?_
                  refine .inl ⟨rfl, ?_, ?_, ?_, ?_, ?_, ?_, hbad.symm, hR⟩
                  all_goals (exact rn0 (cj rTI (cj @h1 (cj @k2 (cj @k4 (cj @k7 @k8))))))
                  all_goals trivial
                | true =>
                  rw [if_pos rfl] at hrf hD2
                  rw [if_pos rfl] at hDn
                  match D, hDn with
                  | [], q => simp at q
                  | w :: D', hDn =>
                    have hwB : By w := hbd w (List.mem_cons_self ..)
                    have hnx := next_ax s4 b w D' 0 hR.r ob2 (by rw [List.length_cons] at hDm; omega)
                    have hnm := cname_ax w hwB (by have := hbl w (List.mem_cons_self ..); omega)
                    have gc := hR.c
                    have lS := bs_size w
                    have hg := bs_get w hwB 0
                    rw [show (w :: D').headD [] = w from rfl] at hrf
                    rw [show (w :: D').drop 1 = D' from rfl] at hD2
                    subst hrf hD2
                    have hR2 := (hR.upd D' 0).put [.v (.string (bs w0)), .sl fa (SL N), .v (.string (bs w)), .v (.int .i64 0), .v (.int .i64 0), .v (.int .i64 0), nilS, nilS]
                    have gz := hR.z
                    unfold cz at gz
                    unfold rdr iv TV at hnx hR2
                    unfold SV at hnx hnm
                    unfold nilS at *
                    rw [Bool.true_and] at hbad
                    cases hn : isName w with
                    | false =>
                      rw [hn, Bool.not_false, Bool.true_or] at hbad
                      rw [hn] at hnm
                      subst hbad
                      rw [if_pos rfl]
                      refine ifs ?_ ?_ <;> first | exact nope | intro hb
                      refine aw_seq ?_
                      refine aw_reg fun K hK => ?_; refine rn (cj rTI (cj @k8 @gc)) ?_; refine cont_go hnx ?_; rintro _ s5 ⟨rfl, rfl⟩; refine rn (cj rTI (cj @k8 @gc)) ?_; refine hK _ _ ?_; clear hK K
                      refine go (cj rTI (cj @k8 @gc)) ?_
                      refine aw_reg fun K hK => ?_; refine rn (cj rTI (cj @k4 (cj @k8 (cj @ob3 (cj @ob4 @gc))))) ?_; refine cont_pure hnm ?_; refine rn (cj rTI (cj @k4 (cj @k8 (cj @ob3 (cj @ob4 @gc))))) ?_; refine hK _ _ ?_; clear hK K
                      refine ifs ?_ ?_ <;> first | exact nope | intro hb
                      refine go (cj rTI (cj @h1 (cj @k2 (cj @k8 (cj @ob3 (cj @ob4 (cj @gc @gz))))))) ?_
                      exact .inr ⟨ra_err 71, ra_idf _, fun i hi => by rw [if_neg (by omega), if_neg (by omega), if_neg (by omega)]; exact hR.fr i hi⟩
                    | true =>
                      rw [hn, Bool.not_true, Bool.false_or] at hbad
                      rw [hn] at hnm
                      have hp2 := name_pos w hn
                      have hw1 : w.getD 0 0 < 256 := by_at w hwB 0 hp2
                      by_cases q1 : k = 102 ∨ k = 104
                      · rw [decide_eq_true q1, Bool.true_and] at hbad
                        by_cases q2 : w.getD 0 0 = 118
                        · have q3 : ((w.getD 0 0 : Nat) : Int) = 118 := by omega
                          rw [q2] at hbad
                          rcases q1 with rfl | rfl
                          · refine ifs ?_ ?_ <;> first | exact nope | intro hb
                            refine aw_seq ?_
                            refine aw_reg fun K hK => ?_; refine rn (cj rTI (cj @k8 @gc)) ?_; refine cont_go hnx ?_; rintro _ s5 ⟨rfl, rfl⟩; refine rn (cj rTI (cj @k8 @gc)) ?_; refine hK _ _ ?_; clear hK K
                            refine go (cj rTI (cj @k8 @gc)) ?_
                            refine aw_reg fun K hK => ?_; refine rn (cj rTI (cj @k4 (cj @k8 (cj @ob3 (cj @ob4 (cj @gc (cj @lS (cj @hg @q3)))))))) ?_; refine cont_pure hnm ?_; refine rn (cj rTI (cj @k4 (cj @k8 (cj @ob3 (cj @ob4 (cj @gc (cj @lS (cj @hg @q3)))))))) ?_; refine hK _ _ ?_; clear hK K
                            refine ifs ?_ ?_ <;> first | exact nope | intro hb
                            refine aw_skip ?_
                            refine .inl ⟨rfl, ?_, ?_, ?_, ?_, ?_, ?_, hbad.symm, hR2⟩
                            all_goals (exact rn0 (cj rTI (cj @h1 (cj @k2 (cj @k4 (cj @k7 @k8))))))
                            all_goals trivial
                          · refine ifs ?_ ?_ <;> first | exact nope | intro hb
                            refine aw_seq ?_
                            refine aw_reg fun K hK => ?_; refine rn (cj rTI (cj @k8 @gc)) ?_; refine cont_go hnx ?_; rintro _ s5 ⟨rfl, rfl⟩; refine rn (cj rTI (cj @k8 @gc)) ?_; refine hK _ _ ?_; clear hK K
                            refine go (cj rTI (cj @k8 @gc)) ?_
                            refine aw_reg fun K hK => ?_; refine rn (cj rTI (cj @k4 (cj @k8 (cj @ob3 (cj @ob4 (cj @gc (cj @lS (cj @hg @q3)))))))) ?_; refine cont_pure hnm ?_; refine rn (cj rTI (cj @k4 (cj @k8 (cj @ob3 (cj @ob4 (cj @gc (cj @lS (cj @hg @q3)))))))) ?_; refine hK _ _ ?_; clear hK K
                            refine ifs ?_ ?_ <;> first | exact nope | intro hb
                            refine aw_skip ?_
                            refine .inl ⟨rfl, ?_, ?_, ?_, ?_, ?_, ?_, hbad.symm, hR2⟩
                            all_goals (exact rn0 (cj rTI (cj @h1 (cj @k2 (cj @k4 (cj @k7 @k8))))))
                            all_goals trivial
                        · have q3 : ¬ ((w.getD 0 0 : Nat) : Int) = 118 := by omega
                          rw [decide_eq_true q2] at hbad
                          subst hbad
                          rw [if_pos rfl]
                          rcases q1 with rfl | rfl
                          · refine ifs ?_ ?_ <;> first | exact nope | intro hb
                            refine aw_seq ?_
                            refine aw_reg fun K hK => ?_; refine rn (cj rTI (cj @k8 @gc)) ?_; refine cont_go hnx ?_; rintro _ s5 ⟨rfl, rfl⟩; refine rn (cj rTI (cj @k8 @gc)) ?_; refine hK _ _ ?_; clear hK K
                            refine go (cj rTI (cj @k8 @gc)) ?_
                            refine aw_reg fun K hK => ?_; refine rn (cj rTI (cj @k4 (cj @k8 (cj @ob3 (cj @ob4 (cj @gc (cj @lS (cj @hg @q3)))))))) ?_; refine cont_pure hnm ?_; refine rn (cj rTI (cj @k4 (cj @k8 (cj @ob3 (cj @ob4 (cj @gc (cj @lS (cj @hg @q3)))))))) ?_; refine hK _ _ ?_; clear hK K
                            refine ifs ?_ ?_ <;> first | exact nope | intro hb
                            refine go (cj rTI (cj @h1 (cj @k2 (cj @k8 (cj @ob3 (cj @ob4 (cj @gc @gz))))))) ?_
                            exact .inr ⟨ra_err 71, ra_idf _, fun i hi => by rw [if_neg (by omega), if_neg (by omega), if_neg (by omega)]; exact hR.fr i hi⟩
                          · refine ifs ?_ ?_ <;> first | exact nope | intro hb
                            refine aw_seq ?_
                            refine aw_reg fun K hK => ?_; refine rn (cj rTI (cj @k8 @gc)) ?_; refine cont_go hnx ?_; rintro _ s5 ⟨rfl, rfl⟩; refine rn (cj rTI (cj @k8 @gc)) ?_; refine hK _ _ ?_; clear hK K
                            refine go (cj rTI (cj @k8 @gc)) ?_
                            refine aw_reg fun K hK => ?_; refine rn (cj rTI (cj @k4 (cj @k8 (cj @ob3 (cj @ob4 (cj @gc (cj @lS (cj @hg @q3)))))))) ?_; refine cont_pure hnm ?_; refine rn (cj rTI (cj @k4 (cj @k8 (cj @ob3 (cj @ob4 (cj @gc (cj @lS (cj @hg @q3)))))))) ?_; refine hK _ _ ?_; clear hK K
                            refine ifs ?_ ?_ <;> first | exact nope | intro hb
                            refine go (cj rTI (cj @h1 (cj @k2 (cj @k8 (cj @ob3 (cj @ob4 (cj @gc @gz))))))) ?_
                            exact .inr ⟨ra_err 71, ra_idf _, fun i hi => by rw [if_neg (by omega), if_neg (by omega), if_neg (by omega)]; exact hR.fr i hi⟩
                      · rw [decide_eq_false q1, Bool.false_and] at hbad
                        have q3 : ¬ (k : Int) = 102 := by omega
                        have q4 : ¬ (k : Int) = 104 := by omega
                        refine ifs ?_ ?_ <;> first | exact nope | intro hb
                        refine aw_seq ?_
                        refine aw_reg fun K hK => ?_; refine rn (cj rTI (cj @k8 @gc)) ?_; refine cont_go hnx ?_; rintro _ s5 ⟨rfl, rfl⟩; refine rn (cj rTI (cj @k8 @gc)) ?_; refine hK _ _ ?_; clear hK K
                        refine go (cj rTI (cj @k8 @gc)) ?_
                        refine aw_reg fun K hK => ?_; refine rn (cj rTI (cj @k4 (cj @k8 (cj @ob3 (cj @ob4 (cj @gc (cj @q3 @q4))))))) ?_; refine cont_pure hnm ?_; refine rn (cj rTI (cj @k4 (cj @k8 (cj @ob3 (cj @ob4 (cj @gc (cj @q3 @q4))))))) ?_; refine hK _ _ ?_; clear hK K
                        refine ifs ?_ ?_ <;> first | exact nope | intro hb
                        refine aw_skip ?_
                        refine .inl ⟨rfl, ?_, ?_, ?_, ?_, ?_, ?_, hbad.symm, hR2⟩
                        all_goals (exact rn0 (cj rTI (cj @h1 (cj @k2 (cj @k4 (cj @k7 @k8))))))
                        all_goals trivial
              · have hB2 : BL D2 := fun w h => by
                  rw [← hD2] at h
                  cases fb with
                  | false => exact hbd w h
                  | true => exact hbd w (List.mem_of_mem_drop h)
                have hbl2 : ∀ w ∈ D2, w.length ≤ 281474976710656 := fun w h => by
                  rw [← hD2] at h
                  cases fb with
                  | false => exact hbl w h
                  | true => exact hbl w (List.mem_of_mem_drop h)
                have hDl2 : (if fc = true then 1 else 0) ≤ D2.length ∧ D2.length ≤ 10000 := by
                  rw [← hD2]
                  cases fb with
                  | false => rw [if_neg Bool.false_ne_true] at hDn ⊢; omega
                  | true => rw [if_pos rfl] at hDn ⊢; rw [List.length_drop]; omega
                have hsrc2 : srcC k = true → fc = false ∧ waveWords D2 = true := fun h => by
                  obtain ⟨rfl, q1, q2⟩ := hsrc h
                  rw [if_neg Bool.false_ne_true] at hD2
                  rw [← hD2]
                  exact ⟨q1, q2⟩
                clear hsrc hbd hbl hDn hDm hrf hD2 h1 k2 k4 k5 k6 k7 k8 hR ob3 ob4
                rintro e4 s5 ⟨h1, k2, k4, k7, k8, k11, hb0, hR⟩
                rw [hb0, if_neg Bool.false_ne_true]
                clear hbad hb0
                rw [then_normal]
                refine aw_seq ?_
                refine go (cj rTI (cj @h1 @k7)) ?_
                generalize hval : (if fc = true then numV (D2.headD []) else (0, 0)) = val
                generalize hev : (if fc = true then numE (D2.headD []) 0 else 0) = ev
                refine aw_only (fun e5 s6 => e5.n = 151 ∧ e5.m 2 = .ptr s.nx 0 ∧ e5.m 4 = .v (.int .u8 (k : Nat)) ∧ e5.m 8 = .ptr (s.nx + 1) 0 ∧ e5.m 11 = .ptr b 0 ∧ ∃ ws2, (srcC k = true → ws2 = D2) ∧ CR s s6 b [.v (.string (bs w0)), .sl fa (SL N), .v (.string (bs rf)), .v (.int .i64 val.1), .v (.int .i64 val.2), .v (.int .i64 0), nilS, nilS] ws2 ev) ?_ ?_
                · obtain ⟨ob1, ob2⟩ := hR.o
                  have ob3 : s.nx + 1 ≠ b := by omega
                  cases fc with
                  | false =>
                    rw [if_neg Bool.false_ne_true] at hval hev
                    subst hval hev
                    refine ifs ?_ ?_ <;> first | exact nope | intro hb
                    refine aw_skip ?_
                    refine ⟨rfl, ?_, ?_, ?_, ?_, ?_, D2, fun _ => rfl, hR⟩
                    all_goals (exact rn0 (cj rTI (cj @h1 (cj @k2 (cj @k4 (cj @k8 @k11))))))
                    all_goals trivial
                  | true =>
                    rw [if_pos rfl] at hval hev hDl2
                    match D2, hDl2 with
                    | [], q => simp at q
                    | w :: D', hDl2 =>
                      rw [show (w :: D').headD [] = w from rfl] at hval hev
                      have hnu := num_ax s5 b w D' 0 (hB2 w (List.mem_cons_self ..)) hR.r ob2 (by rw [List.length_cons] at hDl2; omega)
                      subst hval hev
                      have gc := hR.c
                      have hR2 := (hR.upd D' (numE w 0)).put [.v (.string (bs w0)), .sl fa (SL N), .v (.string (bs rf)), .v (.int .i64 (numV w).1), .v (.int .i64 (numV w).2), .v (.int .i64 0), nilS, nilS]
                      unfold rdr iv TV at hnu hR2
                      unfold NM at hnu
                      unfold nilS at *
                      refine ifs ?_ ?_ <;> first | exact nope | intro hb
                      refine aw_reg fun K hK => ?_; refine rn (cj rTI (cj @h1 (cj @k8 (cj @k11 (cj @gc @ob3))))) ?_; refine cont_go hnu ?_; rintro _ s6 ⟨rfl, rfl⟩; refine rn (cj rTI (cj @h1 (cj @k8 (cj @k11 (cj @gc @ob3))))) ?_; refine hK _ _ ?_; clear hK K
                      refine go (cj rTI (cj @h1 (cj @k8 (cj @gc @ob3)))) ?_
                      refine ⟨rfl, ?_, ?_, ?_, ?_, ?_, D', fun h => absurd (hsrc2 h).1 (by decide), hR2⟩
                      all_goals (exact rn0 (cj rTI (cj @h1 (cj @k2 (cj @k4 (cj @k8 @k11))))))
                      all_goals trivial
                · clear h1 k2 k4 k7 k8 k11 hR
                  rintro e5 s6 ⟨h1, k2, k4, k8, k11, ws2, hws, hR⟩
                  rw [then_normal]
                  generalize hec : (if srcC k = true then (waveR D2 ev).2 else ev) = ec
                  generalize hwv : (if srcC k = true then (waveR D2 ev).1 else wv0) = wv
                  refine aw_seq ?_
                  refine aw_only (fun e6 s7 => e6.n = 151 ∧ e6.m 2 = .ptr s.nx 0 ∧ e6.m 4 = .v (.int .u8 (k : Nat)) ∧ e6.m 8 = .ptr (s.nx + 1) 0 ∧ e6.m 11 = .ptr b 0 ∧ e6.m 12 = .v (.bool (srcC k)) ∧ s7 = s6) ?_ ?_
                  · have hsk : srcC k = decide (k = 118 ∨ k = 105) := rfl
                    by_cases q1 : k = 118
                    · have q2 : (k : Int) = 118 := by omega
                      rw [hsk, decide_eq_true (.inl q1)]
                      refine go (cj rTI (cj @h1 (cj @k4 @q2))) ?_
                      (repeat' refine And.intro ?_ ?_) <;> first | exact rfl | exact fnz (cj rTI (cj @h1 (cj @k2 (cj @k4 (cj @k8 @k11))))) | skip
                    · have q2 : ¬ (k : Int) = 118 := by omega
                      by_cases q3 : k = 105
                      · have q4 : (k : Int) = 105 := by omega
                        rw [hsk, decide_eq_true (.inr q3)]
                        refine go (cj rTI (cj @h1 (cj @k4 @q4))) ?_
                        (repeat' refine And.intro ?_ ?_) <;> first | exact rfl | exact fnz (cj rTI (cj @h1 (cj @k2 (cj @k4 (cj @k8 @k11))))) | skip
                      · have q4 : ¬ (k : Int) = 105 := by omega
                        rw [hsk, decide_eq_false (by omega)]
                        refine go (cj rTI (cj @h1 (cj @k4 (cj @q2 @q4)))) ?_
                        (repeat' refine And.intro ?_ ?_) <;> first | exact rfl | exact fnz (cj rTI (cj @h1 (cj @k2 (cj @k4 (cj @k8 @k11))))) | skip
                  clear h1 k2 k4 k8 k11
                  rintro e6 s7 ⟨h1, k2, k4, k8, k11, k12, rfl⟩
                  rw [then_normal]
                  refine aw_seq ?_
                  refine aw_only (fun e7 s8 => e7.n = 151 ∧ e7.m 2 = .ptr s.nx 0 ∧ e7.m 4 = .v (.int .u8 (k : Nat)) ∧ e7.m 8 = .ptr (s.nx + 1) 0 ∧ e7.m 11 = .ptr b 0 ∧ e7.m 12 = .v (.bool (srcC k)) ∧ ∃ kd X Y ws3, CR s s8 b [.v (.string (bs w0)), .sl fa (SL N), .v (.string (bs rf)), .v (.int .i64 val.1), .v (.int .i64 val.2), .v (.int .i64 kd), X, Y] ws3 ec ∧ ((srcC k = true ∧ ∃ W, (ec = 0 → W = wv) ∧ kd = W.kind ∧ X = NV W.vals ∧ Y = IV W.steps) ∨ (srcC k = false ∧ kd = 0 ∧ X = nilS ∧ Y = nilS))) ?_ ?_
                  · have gc := hR.c
                    obtain ⟨ob1, ob2⟩ := hR.o
                    have ob3 : s.nx + 1 ≠ b := by omega
                    cases hs : srcC k with
                    | false =>
                      rw [hs, if_neg Bool.false_ne_true] at hec
                      subst hec
                      rw [hs] at k12
                      refine go (cj rTI (cj @h1 @k12)) ?_
                      refine ifs ?_ ?_ <;> first | exact nope | intro hb
                      refine aw_skip ?_
                      refine ⟨rfl, ?_, ?_, ?_, ?_, ?_, ?_, 0, nilS, nilS, ws2, hR, .inr ⟨rfl, rfl, rfl, rfl⟩⟩
                      all_goals (exact rn0 (cj rTI (cj @h1 (cj @k2 (cj @k4 (cj @k8 (cj @k11 @k12)))))))
                      all_goals trivial
                    | true =>
                      obtain ⟨rfl, hww⟩ := hsrc2 hs
                      obtain rfl := hws hs
                      rw [hs, if_pos rfl] at hec hwv
                      rw [if_neg Bool.false_ne_true] at hev
                      subst hev
                      have hwx := wave_ax s7 b ws2 0 hB2 hbl2 hR.r ob2 hDl2.2 hww
                      rw [hec, hwv] at hwx
                      rw [hs] at k12
                      unfold WA NV IV iv at hwx
                      unfold rdr TV iv at hwx
                      unfold nilS at *
                      refine go (cj rTI (cj @h1 @k12)) ?_
                      refine ifs ?_ ?_ <;> first | exact nope | intro hb
                      refine aw_reg fun K hK => ?_; refine rn (cj rTI (cj @h1 (cj @k8 (cj @k11 (cj @gc @ob3))))) ?_; refine cont_go hwx ?_; rintro _ s8 ⟨⟨W, hW, rfl⟩, rfl⟩; refine rn (cj rTI (cj @h1 (cj @k8 (cj @k11 (cj @gc @ob3))))) ?_; refine hK _ _ ?_; clear hK K
                      refine go (cj rTI (cj @h1 (cj @k8 (cj @gc @ob3)))) ?_
                      have hR2 := (hR.upd [] ec).put [.v (.string (bs w0)), .sl fa (SL N), .v (.string (bs rf)), .v (.int .i64 val.1), .v (.int .i64 val.2), .v (.int .i64 W.kind), NV W.vals, IV W.steps]
                      refine ⟨rfl, ?_, ?_, ?_, ?_, ?_, ?_, W.kind, NV W.vals, IV W.steps, [], hR2, .inl ⟨rfl, W, hW, rfl, rfl, rfl⟩⟩
                      all_goals (exact rn0 (cj rTI (cj @h1 (cj @k2 (cj @k4 (cj @k8 (cj @k11 @k12)))))))
                      all_goals trivial
                  clear h1 k2 k4 k8 k11 k12 hR hws
                  rintro e7 s8 ⟨h1, k2, k4, k8, k11, k12, kd, X, Y, ws3, hR, hXY⟩
                  rw [then_normal]
                  have gr := hR.r
                  have gc := hR.c
                  have gz := hR.z
                  obtain ⟨ob1, ob2⟩ := hR.o
                  have ob3 : s.nx + 1 ≠ b := by omega
                  have ob4 : s.nx ≠ b := by omega
                  unfold rdr iv at gr
                  unfold cz at gz
                  by_cases he0 : ec = 0
                  · rw [if_neg (fun h => h he0)]
                    refine go (cj rTI (cj @h1 (cj @k11 (cj @gr @he0)))) ?_
                    refine ifs ?_ ?_ <;> first | exact nope | intro hb
                    refine aw_seq ?_
                    refine aw_only (fun e9 s9 => e9.n = 151 ∧ e9.m 2 = .ptr s.nx 0 ∧ e9.m 4 = .v (.int .u8 (k : Nat)) ∧ e9.m 8 = .ptr (s.nx + 1) 0 ∧ e9.m 12 = .v (.bool (srcC k)) ∧ e9.m 123 = .v (.bool (decide (val.1 = 0 ∧ zeroK k = true))) ∧ s9 = s8) ?_ ?_
                    · by_cases hv0 : val.1 = 0
                      · by_cases q1 : k = 114
                        · have q2 : (k : Int) = 114 := by omega
                          rw [decide_eq_true (show val.1 = 0 ∧ zeroK k = true from ⟨hv0, decide_eq_true (.inl q1)⟩)]
                          refine go (cj rTI (cj @h1 (cj @k4 (cj @k8 (cj @gc (cj @hv0 @q2)))))) ?_
                          (repeat' refine And.intro ?_ ?_) <;> first | exact rfl | exact fnz (cj rTI (cj @h1 (cj @k2 (cj @k4 (cj @k8 @k12))))) | skip
                        · have q2 : ¬ (k : Int) = 114 := by omega
                          by_cases q3 : k = 99
                          · have q4 : (k : Int) = 99 := by omega
                            rw [decide_eq_true (show val.1 = 0 ∧ zeroK k = true from ⟨hv0, decide_eq_true (.inr (.inl q3))⟩)]
                            refine go (cj rTI (cj @h1 (cj @k4 (cj @k8 (cj @gc (cj @hv0 @q4)))))) ?_
                            (repeat' refine And.intro ?_ ?_) <;> first | exact rfl | exact fnz (cj rTI (cj @h1 (cj @k2 (cj @k4 (cj @k8 @k12))))) | skip
                          · have q4 : ¬ (k : Int) = 99 := by omega
                            by_cases q5 : k = 108
                            · have q6 : (k : Int) = 108 := by omega
                              rw [decide_eq_true (show val.1 = 0 ∧ zeroK k = true from ⟨hv0, decide_eq_true (.inr (.inr q5))⟩)]
                              refine go (cj rTI (cj @h1 (cj @k4 (cj @k8 (cj @gc (cj @hv0 @q6)))))) ?_
                              (repeat' refine And.intro ?_ ?_) <;> first | exact rfl | exact fnz (cj rTI (cj @h1 (cj @k2 (cj @k4 (cj @k8 @k12))))) | skip
                            · have q6 : ¬ (k : Int) = 108 := by omega
                              rw [decide_eq_false (show ¬ (val.1 = 0 ∧ zeroK k = true) from fun h => by have := of_decide_eq_true h.2; omega)]
                              refine go (cj rTI (cj @h1 (cj @k4 (cj @k8 (cj @gc (cj @hv0 (cj @q2 (cj @q4 @q6)))))))) ?_
                              (repeat' refine And.intro ?_ ?_) <;> first | exact rfl | exact fnz (cj rTI (cj @h1 (cj @k2 (cj @k4 (cj @k8 @k12))))) | skip
                      · rw [decide_eq_false (show ¬ (val.1 = 0 ∧ zeroK k = true) from fun h => hv0 h.1)]
                        refine go (cj rTI (cj @h1 (cj @k4 (cj @k8 (cj @gc @hv0))))) ?_
                        (repeat' refine And.intro ?_ ?_) <;> first | exact rfl | exact fnz (cj rTI (cj @h1 (cj @k2 (cj @k4 (cj @k8 @k12))))) | skip
                    clear h1 k2 k4 k8 k11 k12
                    rintro e9 s9 ⟨h1, k2, k4, k8, k12, k123, rfl⟩
                    rw [then_normal]
                    by_cases hz0 : val.1 = 0 ∧ zeroK k = true
                    · rw [decide_eq_true hz0] at k123
                      rw [if_pos hz0]
                      refine aw_cond (b := true) k123 (fun _ => ?_) (fun h => by cases h)
                      refine go (cj rTI (cj @h1 (cj @k2 @gz))) ?_
                      exact ⟨ra_err 11, ra_idf _, fun i hi => by rw [if_neg (by omega)]; exact hR.fr i hi⟩
                    · rw [decide_eq_false hz0] at k123
                      rw [if_neg hz0]
                      rcases hXY with ⟨hs, W, hW, rfl, rfl, rfl⟩ | ⟨hs, rfl, rfl, rfl⟩
                      · obtain rfl := hW he0
                        have hvl : W.vals.length ≤ D2.length + 1 ∧ W.steps.length ≤ D2.length := by
                          rw [hs, if_pos rfl] at hwv
                          rw [← hwv]
                          exact wave_len D2 ev
                        have hwx := wvalid_ax W (by omega) (by omega)
                        rw [hs] at k12
                        unfold WA at hwx
                        unfold NV IV iv at *
                        cases hok : waveOk W with
                        | false =>
                          rw [hok] at hwx
                          rw [if_pos ⟨hs, rfl⟩]
                          refine aw_cond (b := false) k123 (fun h => by cases h) (fun _ => ?_)
                          refine aw_seq ?_
                          refine aw_reg fun K hK => ?_; refine rn (cj rTI (cj @h1 (cj @k8 (cj @k12 @gc)))) ?_; refine cont_pure hwx ?_; refine rn (cj rTI (cj @h1 (cj @k8 (cj @k12 @gc)))) ?_; refine hK _ _ ?_; clear hK K
                          refine ifs ?_ ?_ <;> first | exact nope | intro hb
                          refine go (cj rTI (cj @h1 (cj @k2 @gz))) ?_
                          exact ⟨ra_err 40, ra_idf _, fun i hi => by rw [if_neg (by omega)]; exact hR.fr i hi⟩
                        | true =>
                          rw [hok] at hwx
                          rw [if_neg (fun h => by cases h.2)]
                          refine aw_cond (b := false) k123 (fun h => by cases h) (fun _ => ?_)
                          refine aw_seq ?_
                          refine aw_reg fun K hK => ?_; refine rn (cj rTI (cj @h1 (cj @k8 (cj @k12 @gc)))) ?_; refine cont_pure hwx ?_; refine rn (cj rTI (cj @h1 (cj @k8 (cj @k12 @gc)))) ?_; refine hK _ _ ?_; clear hK K
                          refine ifs ?_ ?_ <;> first | exact nope | intro hb
                          refine go (cj rTI (cj @h1 (cj @k2 (cj @k8 (cj @gc @gz))))) ?_
                          refine ⟨?_, ra_idf _, fun i hi => by rw [if_neg (by omega)]; exact hR.fr i hi⟩
                          rw [hNN]
                          exact ra_le ⟨w0, N, rf, val, W⟩ _ _ (Le.refl _) (Le.refl _)
                      · rw [hs] at k12
                        rw [if_neg (fun h => by rw [hs] at h; cases h.1)]
                        unfold nilS at *
                        refine aw_cond (b := false) k123 (fun h => by cases h) (fun _ => ?_)
                        refine go (cj rTI (cj @h1 @k12)) ?_
                        refine ifs ?_ ?_ <;> first | exact nope | intro hb
                        refine go (cj rTI (cj @h1 (cj @k2 (cj @k8 (cj @gc @gz))))) ?_
                        refine ⟨?_, ra_idf _, fun i hi => by rw [if_neg (by omega)]; exact hR.fr i hi⟩
                        rw [hs, if_neg Bool.false_ne_true] at hwv
                        subst hwv
                        rw [hNN]
                        exact ra_le ⟨w0, N, rf, val, wv0⟩ _ _ (Le.nil 0 0 rfl) (Le.nil 0 0 rfl)
                  · rw [if_pos he0]
                    refine go (cj rTI (cj @h1 (cj @k11 (cj @gr @he0)))) ?_
                    refine ifs ?_ ?_ <;> first | exact nope | intro hb
                    refine aw_seq ?_
                    refine aw_drw (.take 0 (.take 1 (.take 2 (.take 3 (.take 4 (.one 5 (.take 6 (.done)))))))) [b] (by kernel_rfl) (by kernel_rfl) fun K hK => ?_; refine dr (cj rTI (cj @h1 (cj @k2 (cj @k11 (cj @gr (cj @gz @ob4)))))) ?_; refine hK _ _ ?_; clear hK K
                    rw [then_normal]
                    refine go (cj rTI (cj @h1 (cj @k2 @gz))) ?_
                    exact ⟨ra_err ec, ra_idf _, fun i hi => by rw [if_neg (by omega)]; exact hR.fr i hi⟩
end Go.Proofs.YtfjelkjlfcafgaaGreatDoor.CardI
end
section
/- Cards: text, sameWave, writeWave. -/
namespace Go.Proofs.YtfjelkjlfcafgaaGreatDoor.CardJ
open Go Go.RowKit Go.Proofs.YtfjelkjlfcafgaaGreatDoor.Ax Go.Proofs.YtfjelkjlfcafgaaGreatDoor.Ti Go.Proofs.YtfjelkjlfcafgaaGreatDoor.NumS Go.Proofs.YtfjelkjlfcafgaaGreatDoor.NumT Go.Proofs.YtfjelkjlfcafgaaGreatDoor.CardS Go.Proofs.YtfjelkjlfcafgaaGreatDoor.CardP Go.Proofs.YtfjelkjlfcafgaaGreatDoor.CardA Go.Proofs.YtfjelkjlfcafgaaGreatDoor.CardB Go.Proofs.YtfjelkjlfcafgaaGreatDoor.CardC Go.Proofs.YtfjelkjlfcafgaaGreatDoor.CardD Go.Proofs.YtfjelkjlfcafgaaGreatDoor.CardE Go.Proofs.YtfjelkjlfcafgaaGreatDoor.CardF Go.Proofs.YtfjelkjlfcafgaaGreatDoor.CardG Go.Proofs.YtfjelkjlfcafgaaGreatDoor.CardH
open Go.Proofs.YtfjelkjlfcafgaaGreatDoor.NumA (NM)
set_option linter.unusedSimpArgs false
set_option linter.unusedVariables false
set_option maxRecDepth 4000
set_option maxHeartbeats 2000000
theorem rTI : type_of% (cj @ti3 (cj @ti4 (cj @ti9 (cj @ti5 (cj @ti2 (cj @ti36 (cj @ti63 (cj @ti62 (cj @ti24 (cj @ti65 (cj @ti67 (cj @ti25 (cj @Nat.zero_add (cj @tz0 (cj @tz1 (cj @tz3 (cj @Nat.mul_one @Int.toNat_natCast))))))))))))))))) := cj @ti3 (cj @ti4 (cj @ti9 (cj @ti5 (cj @ti2 (cj @ti36 (cj @ti63 (cj @ti62 (cj @ti24 (cj @ti65 (cj @ti67 (cj @ti25 (cj @Nat.zero_add (cj @tz0 (cj @tz1 (cj @tz3 (cj @Nat.mul_one @Int.toNat_natCast))))))))))))))))
theorem ctext_ax (n : Num) : PCall Tryz.prog 82 [NM n.1 n.2] (SV (textN n)) := by
  refine pcall_of fun s => ?_
  have ht := NumG.text_all n.1 n.2
  unfold NumX.textV NumA.validN at ht
  unfold NM at ht ⊢
  unfold SV textN valid
  generalize RefM.validN n.1 n.2 = b at *
  cases b with
  | true =>
    rw [if_pos rfl] at ht
    rw [if_pos rfl]
    refine acall_of Tryz.func82 rfl rfl (by simp [Tryz.ntmps82]) ?_; rw [Tryz.ntmps82, Tryz.results82]
    refine go rTI ?_
    refine aw_reg fun K hK => ?_; refine rn rTI ?_; refine cont_pure ht ?_; refine rn rTI ?_; refine hK _ _ ?_; clear hK K
    refine go rTI ?_
    refine ifs ?_ ?_ <;> first | exact nope | intro hb
    refine go rTI ?_
    exact fun i hi => by rw [if_neg (by omega)]
  | false =>
    rw [if_neg Bool.false_ne_true] at ht
    rw [if_neg Bool.false_ne_true]
    refine acall_of Tryz.func82 rfl rfl (by simp [Tryz.ntmps82]) ?_; rw [Tryz.ntmps82, Tryz.results82]
    refine go rTI ?_
    refine aw_reg fun K hK => ?_; refine rn rTI ?_; refine cont_pure ht ?_; refine rn rTI ?_; refine hK _ _ ?_; clear hK K
    refine go rTI ?_
    refine ifs ?_ ?_ <;> first | exact nope | intro hb
    refine go rTI ?_
    exact ⟨rfl, fun i hi => by rw [if_neg (by omega)]⟩
theorem sameW_ax (a b : Wv) (h1 : a.vals.length ≤ 9223372036854775807) (h2 : a.steps.length ≤ 9223372036854775807) (h3 : b.vals.length ≤ 9223372036854775807) (h4 : b.steps.length ≤ 9223372036854775807) :
    PCall Tryz.prog 85 [WA a, WA b] (.v (.bool (sameW a b))) := by
  refine pcall_of fun s => ?_
  have hv := equalN_ax a.vals b.vals h1 h3
  have hs := equalI_ax a.steps b.steps h2 h4
  have hW : sameW a b = (decide (a.kind = b.kind) && (decide (a.vals = b.vals) && decide (a.steps = b.steps))) := by unfold sameW; rw [Bool.decide_and, Bool.decide_and]
  rw [hW]
  unfold WA NV IV iv at *
  by_cases hk : a.kind = b.kind
  · rw [decide_eq_true hk, Bool.true_and]
    generalize decide (a.vals = b.vals) = c1 at *
    generalize decide (a.steps = b.steps) = c2 at *
    cases c1 with
    | false =>
      rw [Bool.false_and]
      refine acall_of Tryz.func85 rfl rfl (by simp [Tryz.ntmps85]) ?_; rw [Tryz.ntmps85, Tryz.results85]
      refine go rTI ?_
      refine aw_reg fun K hK => ?_; refine rn (cj rTI @hk) ?_; refine cont_pure hv ?_; refine rn (cj rTI @hk) ?_; refine hK _ _ ?_; clear hK K
      refine go rTI ?_
      exact fun i hi => by rw [if_neg (by omega), if_neg (by omega)]
    | true =>
      rw [Bool.true_and]
      refine acall_of Tryz.func85 rfl rfl (by simp [Tryz.ntmps85]) ?_; rw [Tryz.ntmps85, Tryz.results85]
      refine go rTI ?_
      refine aw_reg fun K hK => ?_; refine rn (cj rTI @hk) ?_; refine cont_pure hv ?_; refine rn (cj rTI @hk) ?_; refine cont_pure hs ?_; refine rn (cj rTI @hk) ?_; refine hK _ _ ?_; clear hK K
      refine go rTI ?_
      exact fun i hi => by rw [if_neg (by omega), if_neg (by omega)]
  · rw [decide_eq_false hk, Bool.false_and]
    refine acall_of Tryz.func85 rfl rfl (by simp [Tryz.ntmps85]) ?_; rw [Tryz.ntmps85, Tryz.results85]
    refine go (cj rTI @hk) ?_
    exact fun i hi => by rw [if_neg (by omega), if_neg (by omega)]
structure LI (s s' : St) (c : List AV) (id : Nat) (L : List Str) : Prop where
  b : s'.get s.nx = some c
  l : s'.get id = some (SL L)
  o : s.nx < id ∧ id < s'.nx
  fr : ∀ k, k < s.nx → s'.get k = s.get k
theorem LI.app {s s' : St} {c : List AV} {id : Nat} {L : List Str} (h : LI s s' c id L) (s1 : St) (hn : s'.nx ≤ s1.nx) (hg : ∀ k, k < s'.nx → s1.get k = s'.get k) (ws : List Str) :
    LI s ((s1.kill id).push (SL L ++ SL ws)) c s1.nx (L ++ ws) := by
  obtain ⟨o1, o2⟩ := h.o
  refine ⟨?_, ?_, ⟨by omega, Nat.lt_succ_self _⟩, fun k hk => ?_⟩
  · rw [St.push_ne (s1.kill id) _ _ (show s.nx ≠ s1.nx by omega), St.kill_ne _ _ _ (by omega), hg _ (by omega)]
    exact h.b
  · rw [show SL (L ++ ws) = SL L ++ SL ws from List.map_append]
    exact St.push_same (s1.kill id) _
  · rw [St.push_ne (s1.kill id) _ _ (show k ≠ s1.nx by omega), St.kill_ne _ _ _ (by omega), hg _ (by omega)]
    exact h.fr k hk
theorem zip_take : ∀ (S : List Int) (V : List Num) (j : Nat), j < S.length → j < V.length → zipW (S.take (j + 1)) (V.take (j + 1)) = zipW (S.take j) (V.take j) ++ [decS (S.getD j 0), textN (V.getD j (0, 0))]
  | [], _, _, h, _ => absurd h (Nat.not_lt_zero _)
  | _ :: _, [], _, _, h => absurd h (Nat.not_lt_zero _)
  | a :: S, b :: V, 0, _, _ => by
    simp [zipW]
  | a :: S, b :: V, j + 1, h1, h2 => by
    have := zip_take S V j (Nat.lt_of_succ_lt_succ h1) (Nat.lt_of_succ_lt_succ h2)
    rw [List.take_succ_cons, List.take_succ_cons, List.take_succ_cons, List.take_succ_cons, List.getD_cons_succ, List.getD_cons_succ]
    show decS a :: textN b :: zipW _ _ = decS a :: textN b :: zipW _ _ ++ _
    rw [this]
    rfl
theorem zip_all : ∀ (S : List Int) (V : List Num) (j : Nat), (j = S.length ∨ j = V.length) → zipW (S.take j) (V.take j) = zipW S V
  | [], _, _, _ => by simp [zipW]
  | _ :: _, [], _, _ => by simp [zipW]
  | a :: S, b :: V, 0, h => by simp at h
  | a :: S, b :: V, j + 1, h => by
    rw [List.take_succ_cons, List.take_succ_cons]
    show decS a :: textN b :: zipW _ _ = decS a :: textN b :: zipW _ _
    rw [zip_all S V j (by simpa using h)]
theorem map_take {α : Type} (f : α → Str) (l : List α) (d : α) (k : Nat) (h : k < l.length) : (l.take (k + 1)).map f = (l.take k).map f ++ [f (l.getD k d)] := by
  rw [List.take_succ_eq_append_getElem h, List.map_append, List.getD_eq_getElem?_getD, List.getElem?_eq_getElem h]
  rfl
theorem frz_SL (id : Nat) (L : List Str) : frz id (SL L) (.own id 0 L.length 1) = TV L := by
  have e2 := sl_take L
  rw [frz_own, List.drop_zero, e2]
  rfl
theorem zip_len : ∀ (S : List Int) (V : List Num), S.length = V.length → (zipW S V).length = 2 * S.length
  | [], [], _ => rfl
  | a :: S, b :: V, h => by
    show (zipW S V).length + 1 + 1 = _
    rw [zip_len S V (by simpa using h), List.length_cons]
    omega
  | [], _ :: _, h => by simp at h
  | _ :: _, [], h => by simp at h
def preW (k : Int) : List Str := if k = 1 then [sDc] else if k = 2 then [sPulse] else if k = 4 then [sTable] else []
theorem writeW_ax (w : Wv) (h1 : w.vals.length ≤ 10000) (h2 : w.steps.length ≤ 10000) (h3 : ∀ z ∈ w.steps, -9223372036854775808 ≤ z ∧ z ≤ 9223372036854775807) :
    PCall Tryz.prog 83 [WA w] (TV (waveT w)) := by
  refine pcall_own (tv_idf _) fun s => ?_
  obtain ⟨kd, V, S⟩ := w
  simp only at h1 h2 h3
  unfold WA NV IV iv
  simp only
  refine acall_of Tryz.func83 rfl rfl (by simp [Tryz.ntmps83]) ?_; rw [Tryz.ntmps83, Tryz.results83]
  refine aw_seq ?_
  refine aw_reg fun K hK => ?_; refine rn rTI ?_; refine hK _ _ ?_; clear hK K
  refine aw_seq ?_
  refine aw_reg fun K hK => ?_; refine rn rTI ?_; refine hK _ _ ?_; clear hK K
  refine aw_nil 3 1 rfl rfl ?_
  have hL : LI s ((s.push [.v (.int .i64 kd), .sl V.length (NC V), .sl S.length (IL S)]).push []) [.v (.int .i64 kd), .sl V.length (NC V), .sl S.length (IL S)] (s.nx + 1) [] := by
    refine ⟨?_, St.push_same _ _, ⟨Nat.lt_succ_self _, Nat.lt_succ_self _⟩, fun k hk => ?_⟩
    · rw [St.push_ne (s.push _) _ _ (show s.nx ≠ s.nx + 1 by omega)]
      exact St.push_same _ _
    · rw [St.push_ne (s.push _) _ _ (show k ≠ s.nx + 1 by omega), St.push_ne s _ _ (by omega)]
  generalize hs1 : (s.push [.v (.int .i64 kd), .sl V.length (NC V), .sl S.length (IL S)]).push [] = s1 at *
  by_cases k3 : kd = 3
  · subst k3
    rw [show waveT ⟨3, V, S⟩ = sPwl :: zipW S V from rfl]
    have gb := hL.b
    have gl := hL.l
    have hA := hL.app (s1.push [SV sPwl]) (Nat.le_succ _) (fun k hk => St.push_ne s1 _ _ (by omega)) [sPwl]
    obtain ⟨o1, o2⟩ := hL.o
    rw [show SL ([] : List Str) = [] from rfl] at gl
    refine go (cj rTI @gb) ?_
    refine ifs ?_ ?_ <;> first | exact nope | intro hb
    refine go (cj rTI @gb) ?_
    refine ifs ?_ ?_ <;> first | exact nope | intro hb
    refine go (cj rTI @gb) ?_
    refine ifs ?_ ?_ <;> first | exact nope | intro hb
    refine go (cj rTI (cj @gb @gl)) ?_
    clear hL hs1
    refine aw_loop (fun m e2 s2 => ∃ k id, m = V.length - k ∧ k ≤ V.length ∧ k ≤ S.length ∧ e2.n = 85 ∧ e2.m 1 = .ptr s.nx 0 ∧ e2.m 3 = .own id 0 (sPwl :: zipW (S.take k) (V.take k)).length 1 ∧ e2.m 4 = .v (.int .i64 (k : Nat)) ∧ LI s s2 [.v (.int .i64 3), .sl V.length (NC V), .sl S.length (IL S)] id (sPwl :: zipW (S.take k) (V.take k))) V.length ?_ ?_
    · refine ⟨0, s1.nx + 1, by omega, by omega, by omega, ?_, ?_, ?_, ?_, hA⟩
      all_goals ((first | refine rn rTI ?_ | exact rn0 rTI))
      all_goals (first | trivial | rfl)
    · clear hA gb gl
      rintro m e2 s2 ⟨k, id, rfl, hk, hk1, h1, q1, q3, q4, hL⟩
      have gb := hL.b
      obtain ⟨o1, o2⟩ := hL.o
      by_cases hk2 : k < V.length ∧ k < S.length
      · obtain ⟨hk3, hk4⟩ := hk2
        have f1 := nc_at V k hk3
        have f2 : 2 ≤ ((NC V).drop (k * 2)).length := by rw [List.length_drop, nc_len]; omega
        have f3 := hd_IL S k hk4
        have hp := ctext_ax (V.getD k (0, 0))
        have ht := zip_take S V k hk4 hk3
        have hz : -9223372036854775808 ≤ S.getD k 0 ∧ S.getD k 0 ≤ 9223372036854775807 := h3 _ (by rw [List.getD_eq_getElem?_getD, List.getElem?_eq_getElem hk4]; exact List.getElem_mem _)
        generalize S.getD k 0 = z at *
        have hp2 := itoa_ax z hz.1 hz.2
        generalize V.getD k (0, 0) = n at *
        have gl := hL.l
        have ll := sl_len (sPwl :: zipW (S.take k) (V.take k))
        have hA := hL.app (s2.push [SV (decS z), SV (textN n)]) (Nat.le_succ _) (fun k hk => St.push_ne s2 _ _ (by omega)) [decS z, textN n]
        have hb0 : (sPwl :: zipW (S.take k) (V.take k)).length ≤ 20001 := by rw [List.length_cons, zip_len _ _ (by rw [List.length_take, List.length_take]; omega), List.length_take]; omega
        rw [List.cons_append, ← ht] at hA
        have hln : (sPwl :: zipW (S.take (k + 1)) (V.take (k + 1))).length = (sPwl :: zipW (S.take k) (V.take k)).length + 2 := by rw [ht, List.length_cons, List.length_append, List.length_cons]; rfl
        generalize hL0 : sPwl :: zipW (S.take k) (V.take k) = L0 at *
        unfold iv at f1 f3
        unfold NM SV at hp
        unfold SV at hp2 hA
        refine go (cj rTI (cj @h1 (cj @q1 (cj @q4 @gb)))) ?_
        refine ifs ?_ ?_ <;> first | exact nope | intro hb
        refine aw_skip ?_
        refine go (cj rTI @h1) ?_
        refine aw_drw (.take 0 (.take 1 (.take 2 (.take 3 (.take 4 (.take 5 (.take 7 (.take 8 (.take 9 (.take 10 (.take 11 (.one 6 (.one 12 (.one 13 (.one 14 (.take 15 (.done))))))))))))))))) [s.nx] (by kernel_rfl) (by kernel_rfl) fun K hK => ?_; refine dr (cj rTI (cj @h1 (cj @q1 (cj @q3 (cj @q4 (cj @gb (cj @gl (cj @ll (cj @f1 (cj @f2 @f3)))))))))) ?_; refine cont_pure hp2 ?_; refine dr (cj rTI (cj @h1 (cj @q1 (cj @q3 (cj @q4 (cj @gb (cj @gl (cj @ll (cj @f1 (cj @f2 @f3)))))))))) ?_; refine cont_pure hp ?_; refine dr (cj rTI (cj @h1 (cj @q1 (cj @q3 (cj @q4 (cj @gb (cj @gl (cj @ll (cj @f1 (cj @f2 @f3)))))))))) ?_; refine hK _ _ ?_; clear hK K
        refine go (cj rTI (cj @h1 @q4)) ?_
        simp only [block_normal, loop_normal]
        refine ⟨V.length - (k + 1), by omega, k + 1, s2.nx + 1, rfl, by omega, by omega, ?_, ?_, ?_, ?_, hA⟩
        all_goals ((first | refine rn (cj rTI (cj @h1 (cj @q1 (cj @q3 @q4)))) ?_ | exact rn0 (cj rTI (cj @h1 (cj @q1 (cj @q3 @q4))))))
        all_goals (first | rfl | trivial | (rw [← hln]; rfl))
      · have hk5 : k = S.length ∨ k = V.length := by omega
        rw [zip_all S V k hk5] at hL q3
        by_cases hm : V.length < S.length
        · refine go (cj rTI (cj @h1 (cj @q1 (cj @q4 @gb)))) ?_
          refine ifs ?_ ?_ <;> first | exact nope | intro hb
          refine go (cj rTI (cj @h1 @q3)) ?_
          exact ⟨id, _, by omega, hL.l, frz_SL _ _, hL.fr⟩
        · refine go (cj rTI (cj @h1 (cj @q1 (cj @q4 @gb)))) ?_
          refine ifs ?_ ?_ <;> first | exact nope | intro hb
          refine go (cj rTI (cj @h1 @q3)) ?_
          exact ⟨id, _, by omega, hL.l, frz_SL _ _, hL.fr⟩
  · rw [show waveT ⟨kd, V, S⟩ = preW kd ++ V.map textN ++ S.map decS from if_neg k3]
    refine aw_seq ?_
    refine aw_only (fun e' s' => e'.n = 85 ∧ e'.m 1 = .ptr s.nx 0 ∧ ∃ id, e'.m 3 = .own id 0 (preW kd).length 1 ∧ LI s s' [.v (.int .i64 kd), .sl V.length (NC V), .sl S.length (IL S)] id (preW kd)) ?_ ?_
    · have gb := hL.b
      have gl := hL.l
      obtain ⟨o1, o2⟩ := hL.o
      rw [show SL ([] : List Str) = [] from rfl] at gl
      have hA := fun x => hL.app (s1.push [SV x]) (Nat.le_succ _) (fun k hk => St.push_ne s1 _ _ (by omega)) [x]
      by_cases k1 : kd = 1
      · subst k1
        refine go (cj rTI @gb) ?_
        refine ifs ?_ ?_ <;> first | exact nope | intro hb
        refine go (cj rTI (cj @gb @gl)) ?_
        exact ⟨rfl, rfl, rfl, s1.nx + 1, rfl, hA sDc⟩
      · by_cases k2 : kd = 2
        · subst k2
          refine go (cj rTI @gb) ?_
          refine ifs ?_ ?_ <;> first | exact nope | intro hb
          refine go (cj rTI (cj @gb @gl)) ?_
          refine ifs ?_ ?_ <;> first | exact nope | intro hb
          refine go (cj rTI (cj @gb @gl)) ?_
          exact ⟨rfl, rfl, rfl, s1.nx + 1, rfl, hA sPulse⟩
        · by_cases k4 : kd = 4
          · subst k4
            refine go (cj rTI @gb) ?_
            refine ifs ?_ ?_ <;> first | exact nope | intro hb
            refine go (cj rTI (cj @gb @gl)) ?_
            refine ifs ?_ ?_ <;> first | exact nope | intro hb
            refine go (cj rTI (cj @gb @gl)) ?_
            refine ifs ?_ ?_ <;> first | exact nope | intro hb
            refine go (cj rTI (cj @gb @gl)) ?_
            refine ifs ?_ ?_ <;> first | exact nope | intro hb
            refine go (cj rTI (cj @gb @gl)) ?_
            exact ⟨rfl, rfl, rfl, s1.nx + 1, rfl, hA sTable⟩
          · have hp : preW kd = [] := by unfold preW; rw [if_neg k1, if_neg k2, if_neg k4]
            rw [hp]
            refine go (cj rTI (cj @gb @k1)) ?_
            refine ifs ?_ ?_ <;> first | exact nope | intro hb
            refine go (cj rTI (cj @gb @k2)) ?_
            refine ifs ?_ ?_ <;> first | exact nope | intro hb
            refine go (cj rTI (cj @gb @k3)) ?_
            refine ifs ?_ ?_ <;> first | exact nope | intro hb
            refine go (cj rTI (cj @gb @k4)) ?_
            refine ifs ?_ ?_ <;> first | exact nope | intro hb
            refine go rTI ?_
            exact ⟨s.nx + 1, rfl, hL⟩
    · clear hL hs1
      have hpl : (preW kd).length ≤ 1 := by unfold preW; (repeat' split) <;> decide
      generalize preW kd = pre at *
      rintro e' s' ⟨h1, q1, id, q3, hL⟩
      have gb := hL.b
      rw [then_normal]
      refine go (cj rTI (cj @h1 (cj @q1 @gb))) ?_
      refine aw_loop (fun m e2 s2 => ∃ k id, m = V.length - k ∧ k ≤ V.length ∧ e2.n = 85 ∧ e2.m 1 = .ptr s.nx 0 ∧ e2.m 3 = .own id 0 (pre ++ (V.take k).map textN).length 1 ∧ e2.m 59 = .sl V.length (NC V) ∧ e2.m 60 = .v (.int .i64 V.length) ∧ e2.m 61 = .v (.int .i64 (k : Nat)) ∧ LI s s2 [.v (.int .i64 kd), .sl V.length (NC V), .sl S.length (IL S)] id (pre ++ (V.take k).map textN)) V.length ?_ ?_
      · refine ⟨0, id, by omega, by omega, ?_, ?_, ?_, ?_, ?_, ?_, ?_⟩
        all_goals ((first | refine rn (cj rTI (cj @h1 (cj @q1 @q3))) ?_ | exact rn0 (cj rTI (cj @h1 (cj @q1 @q3)))))
        all_goals (first | trivial | (simp; done) | (simp; exact hL))
      · clear h1 q1 q3 hL gb
        rintro m e2 s2 ⟨k, id, rfl, hk, h1, q1, q3, q59, q60, q61, hL⟩
        have gb := hL.b
        obtain ⟨o1, o2⟩ := hL.o
        by_cases hk2 : k < V.length
        · have f1 := nc_at V k hk2
          have f2 : 2 ≤ ((NC V).drop (k * 2)).length := by rw [List.length_drop, nc_len]; omega
          have hp := ctext_ax (V.getD k (0, 0))
          have ht := map_take textN V (0, 0) k hk2
          generalize V.getD k (0, 0) = n at *
          have gl := hL.l
          have ll := sl_len (pre ++ (V.take k).map textN)
          have hA := hL.app (((s2.push [.v (.int .i64 0), .v (.int .i64 0)]).set s2.nx [.v (.int .i64 n.1), .v (.int .i64 n.2)]).push [SV (textN n)]) (by show _ ≤ s2.nx + 1 + 1; omega) (fun k hk => by rw [St.push_ne ((s2.push _).set _ _) _ _ (show k ≠ s2.nx + 1 by omega), St.set_ne _ _ _ _ (by omega), St.push_ne s2 _ _ (by omega)]) [textN n]
          have hb0 : (pre ++ (V.take k).map textN).length ≤ 10001 := by rw [List.length_append, List.length_map, List.length_take]; omega
          rw [List.append_assoc, ← ht] at hA
          have hln : (pre ++ (V.take (k + 1)).map textN).length = (pre ++ (V.take k).map textN).length + 1 := by rw [ht, ← List.append_assoc, List.length_append]; rfl
          generalize hL0 : pre ++ (V.take k).map textN = L0 at *
          unfold iv at f1
          unfold NM SV at hp
          unfold SV at hA
          refine go (cj rTI (cj @h1 (cj @q60 @q61))) ?_
          refine ifs ?_ ?_ <;> first | exact nope | intro hb
          refine aw_skip ?_
          refine go (cj rTI (cj @h1 (cj @q59 (cj @q61 (cj @f1 @f2))))) ?_
          refine aw_reg fun K hK => ?_; refine rn (cj rTI (cj @h1 (cj @q3 (cj @gl @ll)))) ?_; refine cont_pure hp ?_; refine rn (cj rTI (cj @h1 (cj @q3 (cj @gl @ll)))) ?_; refine hK _ _ ?_; clear hK K
          refine go (cj rTI (cj @h1 @q61)) ?_
          simp only [block_normal, loop_normal]
          refine ⟨V.length - (k + 1), by omega, k + 1, s2.nx + 1 + 1, rfl, by omega, ?_, ?_, ?_, ?_, ?_, ?_, hA⟩
          all_goals ((first | refine rn (cj rTI (cj @h1 (cj @q1 (cj @q3 (cj @q59 (cj @q60 @q61)))))) ?_ | exact rn0 (cj rTI (cj @h1 (cj @q1 (cj @q3 (cj @q59 (cj @q60 @q61))))))))
          all_goals (first | rfl | trivial | rw [hln])
        · obtain rfl : k = V.length := by omega
          rw [List.take_length] at hL q3
          clear hk hk2 q59
          refine go (cj rTI (cj @h1 (cj @q1 (cj @q60 (cj @q61 @gb))))) ?_
          refine ifs ?_ ?_ <;> first | exact nope | intro hb
          refine go (cj rTI (cj @h1 (cj @q1 (cj @q60 (cj @q61 @gb))))) ?_
          have hpl2 : (pre ++ V.map textN).length ≤ 10001 := by rw [List.length_append, List.length_map]; omega
          generalize pre ++ V.map textN = pr2 at *
          clear hpl gb o1 o2 q60 q61
          refine aw_loop (fun m e3 s3 => ∃ k id, m = S.length - k ∧ k ≤ S.length ∧ e3.n = 85 ∧ e3.m 3 = .own id 0 (pr2 ++ (S.take k).map decS).length 1 ∧ e3.m 72 = .sl S.length (IL S) ∧ e3.m 73 = .v (.int .i64 S.length) ∧ e3.m 74 = .v (.int .i64 (k : Nat)) ∧ LI s s3 [.v (.int .i64 kd), .sl V.length (NC V), .sl S.length (IL S)] id (pr2 ++ (S.take k).map decS)) S.length ?_ ?_
          · refine ⟨0, id, by omega, by omega, ?_, ?_, ?_, ?_, ?_, ?_⟩
            all_goals ((first | refine rn (cj rTI (cj @h1 (cj @q1 @q3))) ?_ | exact rn0 (cj rTI (cj @h1 (cj @q1 @q3)))))
            all_goals (first | trivial | (simp; done) | (simp; exact hL))
          · clear h1 q1 q3 hL
            rintro m e3 s3 ⟨k, id, rfl, hk, h1, q3, q72, q73, q74, hL⟩
            obtain ⟨o1, o2⟩ := hL.o
            by_cases hk2 : k < S.length
            · have f1 := hd_IL S k hk2
              have ht := map_take decS S 0 k hk2
              have hz : -9223372036854775808 ≤ S.getD k 0 ∧ S.getD k 0 ≤ 9223372036854775807 := h3 _ (by rw [List.getD_eq_getElem?_getD, List.getElem?_eq_getElem hk2]; exact List.getElem_mem _)
              generalize S.getD k 0 = n at *
              have hp := itoa_ax n hz.1 hz.2
              have gl := hL.l
              have ll := sl_len (pr2 ++ (S.take k).map decS)
              have hA := hL.app (s3.push [SV (decS n)]) (Nat.le_succ _) (fun k hk => St.push_ne s3 _ _ (by omega)) [decS n]
              have hb0 : (pr2 ++ (S.take k).map decS).length ≤ 20001 := by rw [List.length_append, List.length_map, List.length_take]; omega
              rw [List.append_assoc, ← ht] at hA
              have hln : (pr2 ++ (S.take (k + 1)).map decS).length = (pr2 ++ (S.take k).map decS).length + 1 := by rw [ht, ← List.append_assoc, List.length_append]; rfl
              generalize hL0 : pr2 ++ (S.take k).map decS = L0 at *
              unfold iv at f1
              unfold SV at hp hA
              refine go (cj rTI (cj @h1 (cj @q73 @q74))) ?_
              refine ifs ?_ ?_ <;> first | exact nope | intro hb
              refine aw_skip ?_
              refine go (cj rTI (cj @h1 (cj @q72 (cj @q74 @f1)))) ?_
              refine aw_reg fun K hK => ?_; refine rn (cj rTI (cj @h1 (cj @q3 (cj @gl @ll)))) ?_; refine cont_pure hp ?_; refine rn (cj rTI (cj @h1 (cj @q3 (cj @gl @ll)))) ?_; refine hK _ _ ?_; clear hK K
              refine go (cj rTI (cj @h1 @q74)) ?_
              simp only [block_normal, loop_normal]
              refine ⟨S.length - (k + 1), by omega, k + 1, s3.nx + 1, rfl, by omega, ?_, ?_, ?_, ?_, ?_, hA⟩
              all_goals ((first | refine rn (cj rTI (cj @h1 (cj @q3 (cj @q72 (cj @q73 @q74))))) ?_ | exact rn0 (cj rTI (cj @h1 (cj @q3 (cj @q72 (cj @q73 @q74)))))))
              all_goals (first | rfl | trivial | rw [hln])
            · obtain rfl : k = S.length := by omega
              rw [List.take_length] at hL q3
              clear hk hk2 q72
              refine go (cj rTI (cj @h1 (cj @q73 @q74))) ?_
              refine ifs ?_ ?_ <;> first | exact nope | intro hb
              refine go (cj rTI (cj @h1 @q3)) ?_
              exact ⟨id, _, by omega, hL.l, frz_SL _ _, hL.fr⟩
end Go.Proofs.YtfjelkjlfcafgaaGreatDoor.CardJ
end
section
/- Cards: Write. -/
namespace Go.Proofs.YtfjelkjlfcafgaaGreatDoor.CardK
open Go Go.RowKit Go.Proofs.YtfjelkjlfcafgaaGreatDoor.Ax Go.Proofs.YtfjelkjlfcafgaaGreatDoor.Ti Go.Proofs.YtfjelkjlfcafgaaGreatDoor.NumS Go.Proofs.YtfjelkjlfcafgaaGreatDoor.NumT Go.Proofs.YtfjelkjlfcafgaaGreatDoor.CardS Go.Proofs.YtfjelkjlfcafgaaGreatDoor.CardP Go.Proofs.YtfjelkjlfcafgaaGreatDoor.CardA Go.Proofs.YtfjelkjlfcafgaaGreatDoor.CardB Go.Proofs.YtfjelkjlfcafgaaGreatDoor.CardC Go.Proofs.YtfjelkjlfcafgaaGreatDoor.CardD Go.Proofs.YtfjelkjlfcafgaaGreatDoor.CardE Go.Proofs.YtfjelkjlfcafgaaGreatDoor.CardF Go.Proofs.YtfjelkjlfcafgaaGreatDoor.CardG Go.Proofs.YtfjelkjlfcafgaaGreatDoor.CardH Go.Proofs.YtfjelkjlfcafgaaGreatDoor.CardI Go.Proofs.YtfjelkjlfcafgaaGreatDoor.CardJ
open Go.Proofs.YtfjelkjlfcafgaaGreatDoor.NumA (NM)
set_option linter.unusedSimpArgs false
set_option linter.unusedVariables false
set_option maxRecDepth 4000
set_option maxHeartbeats 2000000
theorem rTI : type_of% (cj @ti3 (cj @ti4 (cj @ti9 (cj @ti5 (cj @ti2 (cj @ti36 (cj @ti63 (cj @ti62 (cj @ti24 (cj @ti65 (cj @ti67 (cj @ti25 (cj @Nat.zero_add (cj @tz0 (cj @tz1 (cj @tz3 (cj @Nat.mul_one @Int.toNat_natCast))))))))))))))))) := cj @ti3 (cj @ti4 (cj @ti9 (cj @ti5 (cj @ti2 (cj @ti36 (cj @ti63 (cj @ti62 (cj @ti24 (cj @ti65 (cj @ti67 (cj @ti25 (cj @Nat.zero_add (cj @tz0 (cj @tz1 (cj @tz3 (cj @Nat.mul_one @Int.toNat_natCast))))))))))))))))
def PA (p : List Str × Int) : AV := .tp [TV p.1, iv p.2]
theorem pa_idf (p : List Str × Int) : idf (PA p) = true := by
  show (idf (TV p.1) && (true && true)) = true
  rw [tv_idf]
  rfl
theorem pa_err (e : Int) : Le (.tp [.v (.slice none 0 0), .v (.int .i64 e)]) (PA ([], e)) := by
  refine Le.tp rfl fun j x y hx hy => ?_
  match j with
  | 0 => simp at hx hy; subst hx hy; exact Le.nil 0 0 rfl
  | 1 => simp at hx hy; subst hx hy; exact Le.refl _
  | j + 2 => simp at hx
theorem read_by (ws : List Str) (h : BL ws) : By (readC ws).1.ref ∧ BL (readC ws).1.nodes ∧ (readC ws).1.nodes.length ≤ ws.length ∧ (readC ws).1.wave.vals.length ≤ ws.length + 1 ∧ (readC ws).1.wave.steps.length ≤ ws.length := by
  have h0 : By crd0.ref ∧ BL crd0.nodes ∧ crd0.nodes.length ≤ ws.length ∧ crd0.wave.vals.length ≤ ws.length + 1 ∧ crd0.wave.steps.length ≤ ws.length :=
    ⟨fun c hc => (by cases hc), fun c hc => (by cases hc), Nat.zero_le _, Nat.zero_le _, Nat.zero_le _⟩
  cases ws with
  | nil => exact h0
  | cons w0 r =>
    have hr : BL r := fun w hw => h w (List.mem_cons_of_mem _ hw)
    have hh : ∀ l : List Str, BL l → By (l.headD []) := fun l hl => by
      cases l with
      | nil => exact fun c hc => by cases hc
      | cons a l => exact hl a (List.mem_cons_self ..)
    rw [read_eq]
    generalize w0.getD 0 0 = k
    generalize formOf k (r.length + 1) = f
    unfold readB
    split
    · split
      · split
        · exact h0
        · split
          · exact h0
          · split
            · exact h0
            · split
              · exact h0
              · obtain ⟨fa, fb, fc⟩ := f
                refine ⟨?_, fun w hw => hr w (List.mem_of_mem_take hw), ?_, ?_⟩
                · show By (refC (fa, fb, fc) r)
                  unfold refC
                  simp only
                  split
                  · exact hh _ fun w hw => hr w (List.mem_of_mem_drop hw)
                  · exact fun c hc => by cases hc
                · show (r.take fa).length ≤ _
                  rw [List.length_take, List.length_cons]
                  omega
                · show (wvC k (fa, fb, fc) r).vals.length ≤ _ ∧ (wvC k (fa, fb, fc) r).steps.length ≤ _
                  unfold wvC
                  split
                  · have h1 := wave_len (restC (fa, fb, fc) r) (errV (fa, fb, fc) r)
                    have h2 : (restC (fa, fb, fc) r).length ≤ r.length := by
                      unfold restC
                      simp only
                      split <;> simp only [List.length_drop] <;> omega
                    rw [List.length_cons]
                    omega
                  · exact ⟨Nat.zero_le _, Nat.zero_le _⟩
      · exact h0
    · exact h0
def refW (c : Crd) (k : Nat) (f : Nat × Bool × Bool) : List Str := if f.2.1 = true ∨ k = 120 then [c.ref] else []
def valW (c : Crd) (k : Nat) (f : Nat × Bool × Bool) : List Str := if f.2.2 = true ∧ k ≠ 120 then [textN c.value] else []
def wavW (c : Crd) (k : Nat) : List Str := if k = 118 ∨ k = 105 then waveT c.wave else []
theorem wordsC_eq (c : Crd) : wordsC c = c.name :: c.nodes ++ refW c (c.name.getD 0 0) (shapeK (c.name.getD 0 0)) ++ valW c (c.name.getD 0 0) (shapeK (c.name.getD 0 0)) ++ wavW c (c.name.getD 0 0) := rfl
structure CW (c : Crd) : Prop where
  n : By c.name ∧ c.name.length ≤ 281474976710656
  d : BL c.nodes ∧ (∀ w ∈ c.nodes, w.length ≤ 281474976710656) ∧ c.nodes.length ≤ 9223372036854775807
  r : By c.ref ∧ c.ref.length ≤ 281474976710656
  v : c.wave.vals.length ≤ 9223372036854775807
  t : c.wave.steps.length ≤ 9223372036854775807
  z : ∀ z ∈ c.wave.steps, -9223372036854775808 ≤ z ∧ z ≤ 9223372036854775807
theorem textN_by (n : Num) : By (textN n) ∧ (textN n).length ≤ 20 := by
  unfold textN
  split
  · rename_i h
    exact ⟨NumH.textS_by _ _, Nat.le_trans (text_len _ _ ((NumH.ok_valid _ _).1 h)) (by decide)⟩
  · exact ⟨by_lit _ rfl, by decide⟩
theorem decS_le (z : Int) (h0 : -9223372036854775808 ≤ z) (h1 : z ≤ 9223372036854775807) : (decS z).length ≤ 20 := by
  unfold decS
  split
  · decide
  · have := decN_len z.natAbs 19 (by omega)
    rw [List.length_append]
    split
    · rw [List.length_cons, List.length_nil]; omega
    · rw [List.length_nil]; omega
theorem zip_mem : ∀ (S : List Int) (V : List Num) (x : Str), x ∈ zipW S V → (∃ z ∈ S, x = decS z) ∨ ∃ v ∈ V, x = textN v
  | [], _, x, h => by simp [zipW] at h
  | _ :: _, [], x, h => by simp [zipW] at h
  | a :: S, b :: V, x, h => by
    have h' : x ∈ decS a :: textN b :: zipW S V := h
    rcases List.mem_cons.1 h' with rfl | h'
    · exact .inl ⟨a, List.mem_cons_self .., rfl⟩
    · rcases List.mem_cons.1 h' with rfl | h'
      · exact .inr ⟨b, List.mem_cons_self .., rfl⟩
      · rcases zip_mem S V x h' with ⟨z, hz, e⟩ | ⟨v, hv, e⟩
        · exact .inl ⟨z, List.mem_cons_of_mem _ hz, e⟩
        · exact .inr ⟨v, List.mem_cons_of_mem _ hv, e⟩
theorem zip_le : ∀ (S : List Int) (V : List Num), (zipW S V).length ≤ 2 * V.length
  | [], _ => Nat.zero_le _
  | _ :: _, [] => Nat.zero_le _
  | a :: S, b :: V => by
    show (zipW S V).length + 1 + 1 ≤ _
    have := zip_le S V
    rw [List.length_cons]
    omega
theorem waveT_by (w : Wv) (hz : ∀ z ∈ w.steps, -9223372036854775808 ≤ z ∧ z ≤ 9223372036854775807) : (waveT w).length ≤ 1 + 2 * (w.vals.length + w.steps.length) ∧ ∀ x ∈ waveT w, By x ∧ x.length ≤ 20 := by
  have hd : ∀ z ∈ w.steps, By (decS z) ∧ (decS z).length ≤ 20 := fun z h => ⟨decS_by z, decS_le z (hz z h).1 (hz z h).2⟩
  unfold waveT
  split
  · refine ⟨?_, fun x hx => ?_⟩
    · have := zip_le w.steps w.vals
      rw [List.length_cons]
      omega
    · rcases List.mem_cons.1 hx with rfl | hx
      · exact ⟨by_lit _ rfl, by decide⟩
      · rcases zip_mem _ _ _ hx with ⟨z, h, rfl⟩ | ⟨v, _, rfl⟩
        · exact hd z h
        · exact textN_by v
  · refine ⟨?_, fun x hx => ?_⟩
    · have : (if w.kind = 1 then [sDc] else if w.kind = 2 then [sPulse] else if w.kind = 4 then [sTable] else []).length ≤ 1 := by (repeat' split) <;> decide
      rw [List.length_append, List.length_append, List.length_map, List.length_map]
      omega
    · rcases List.mem_append.1 hx with hx | hx
      · rcases List.mem_append.1 hx with hx | hx
        · have : x = sDc ∨ x = sPulse ∨ x = sTable := by
            split at hx
            · exact .inl (List.mem_singleton.1 hx)
            · split at hx
              · exact .inr (.inl (List.mem_singleton.1 hx))
              · split at hx
                · exact .inr (.inr (List.mem_singleton.1 hx))
                · cases hx
          rcases this with rfl | rfl | rfl
          · exact ⟨by_lit _ rfl, by decide⟩
          · exact ⟨by_lit _ rfl, by decide⟩
          · exact ⟨by_lit _ rfl, by decide⟩
        · obtain ⟨v, _, rfl⟩ := List.mem_map.1 hx
          exact textN_by v
      · obtain ⟨z, h, rfl⟩ := List.mem_map.1 hx
        exact hd z h
theorem words_by (c : Crd) (hc : CW c) : ∀ x ∈ wordsC c, By x ∧ x.length ≤ 281474976710656 := by
  intro x hx
  rw [wordsC_eq] at hx
  rcases List.mem_append.1 hx with hx | hx
  · rcases List.mem_append.1 hx with hx | hx
    · rcases List.mem_append.1 hx with hx | hx
      · rcases List.mem_cons.1 hx with rfl | hx
        · exact hc.n
        · exact ⟨hc.d.1 x hx, hc.d.2.1 x hx⟩
      · unfold refW at hx
        split at hx
        · rw [List.mem_singleton.1 hx]; exact hc.r
        · cases hx
    · unfold valW at hx
      split at hx
      · rw [List.mem_singleton.1 hx]; exact ⟨(textN_by _).1, Nat.le_trans (textN_by _).2 (by decide)⟩
      · cases hx
  · unfold wavW at hx
    split at hx
    · have := (waveT_by c.wave hc.z).2 x hx
      exact ⟨this.1, Nat.le_trans this.2 (by decide)⟩
    · cases hx
theorem write_ax (c : Crd) (hc : CW c) : PCall Tryz.prog 31 [CA c] (PA (writeC c)) := by
  refine pcall_le fun s => ?_
  have hd := dev_ax c.name hc.n.1 (by have := hc.n.2; omega)
  have hno : ∀ q : ¬ (isDev c.name = true ∧ c.nodes.length ≤ 8 ∧ c.wave.vals.length ≤ 16 ∧ c.wave.steps.length ≤ 16), writeC c = ([], 70) := fun q => if_neg q
  obtain ⟨h1, h2, h3, h4, h5, h6⟩ := hc
  unfold CA TV NV IV iv
  unfold SV at hd ⊢
  by_cases q1 : isDev c.name = true
  · rw [q1] at hd
    by_cases q2 : c.nodes.length ≤ 8
    · by_cases q3 : c.wave.vals.length ≤ 16
      · by_cases q4 : c.wave.steps.length ≤ 16
        · refine acall_of Tryz.func31 rfl rfl (by simp [Tryz.ntmps31]) ?_; rw [Tryz.ntmps31, Tryz.results31]
          refine go rTI ?_
          refine aw_reg fun K hK => ?_; refine rn rTI ?_; refine cont_pure hd ?_; refine rn rTI ?_; refine hK _ _ ?_; clear hK K
          refine ifs ?_ ?_ <;> first | exact nope | intro hb
          have e1 := sl_len c.nodes
          have e2 := sl_take c.nodes
          have e3 := sl_one c.nodes
          refine go (cj rTI (cj @e1 (cj @e2 @e3))) ?_
          have hL : LI s ((((s.push [.v (.string (bs c.name)), .sl c.nodes.length (SL c.nodes), .v (.string (bs c.ref)), .v (.int .i64 c.value.1), .v (.int .i64 c.value.2), .v (.int .i64 c.wave.kind), .sl c.wave.vals.length (NC c.wave.vals), .sl c.wave.steps.length (IL c.wave.steps)]).push [.v (.string (bs c.name))]).kill (s.nx + 1)).push ([.v (.string (bs c.name))] ++ SL c.nodes)) [.v (.string (bs c.name)), .sl c.nodes.length (SL c.nodes), .v (.string (bs c.ref)), .v (.int .i64 c.value.1), .v (.int .i64 c.value.2), .v (.int .i64 c.wave.kind), .sl c.wave.vals.length (NC c.wave.vals), .sl c.wave.steps.length (IL c.wave.steps)] (s.nx + 1 + 1) (c.name :: c.nodes) := by
            refine ⟨?_, St.push_same _ _, ⟨by omega, Nat.lt_succ_self _⟩, fun k hk => ?_⟩
            · rw [St.push_ne (((s.push _).push _).kill _) _ _ (show s.nx ≠ s.nx + 1 + 1 by omega), St.kill_ne _ _ _ (by omega), St.push_ne (s.push _) _ _ (show s.nx ≠ s.nx + 1 by omega)]
              exact St.push_same _ _
            · rw [St.push_ne (((s.push _).push _).kill _) _ _ (show k ≠ s.nx + 1 + 1 by omega), St.kill_ne _ _ _ (by omega), St.push_ne (s.push _) _ _ (show k ≠ s.nx + 1 by omega), St.push_ne s _ _ (by omega)]
          generalize (((s.push [.v (.string (bs c.name)), .sl c.nodes.length (SL c.nodes), .v (.string (bs c.ref)), .v (.int .i64 c.value.1), .v (.int .i64 c.value.2), .v (.int .i64 c.wave.kind), .sl c.wave.vals.length (NC c.wave.vals), .sl c.wave.steps.length (IL c.wave.steps)]).push [.v (.string (bs c.name))]).kill (s.nx + 1)).push ([.v (.string (bs c.name))] ++ SL c.nodes) = s1 at *
          have hp : 0 < c.name.length := name_pos c.name (by unfold isDev at q1; rw [Bool.and_eq_true] at q1; exact q1.1)
          have lS := bs_size c.name
          have hg := bs_get c.name h1.1 0
          have gb := hL.b
          have hln : (c.name :: c.nodes).length = 1 + c.nodes.length := by rw [List.length_cons]; omega
          have hww := wordsC_eq c
          have hsh := shape_ax (c.name.getD 0 0)
          unfold shapeV at hsh
          refine go (cj rTI (cj @gb (cj @lS @hg))) ?_
          rw [← hln]
          have hl0 : (c.name :: c.nodes).length ≤ 9 := by omega
          generalize hL0 : c.name :: c.nodes = L0 at *
          generalize shapeK (c.name.getD 0 0) = f at *
          generalize hk0 : c.name.getD 0 0 = k at *
          obtain ⟨fa, fb, fc⟩ := f
          refine aw_reg fun K hK => ?_; refine rn rTI ?_; refine cont_pure hsh ?_; refine rn rTI ?_; refine hK _ _ ?_; clear hK K
          refine aw_seq ?_
          refine aw_only (fun e' s' => e'.n = 120 ∧ e'.m 1 = .ptr s.nx 0 ∧ e'.m 5 = .v (.int .u8 (k : Nat)) ∧ e'.m 8 = .v (.bool fc) ∧ ∃ id, e'.m 4 = .own id 0 (L0 ++ refW c k (fa, fb, fc)).length 1 ∧ LI s s' [.v (.string (bs c.name)), .sl c.nodes.length (SL c.nodes), .v (.string (bs c.ref)), .v (.int .i64 c.value.1), .v (.int .i64 c.value.2), .v (.int .i64 c.wave.kind), .sl c.wave.vals.length (NC c.wave.vals), .sl c.wave.steps.length (IL c.wave.steps)] id (L0 ++ refW c k (fa, fb, fc))) ?_ ?_
          · have gl := hL.l
            obtain ⟨o1, o2⟩ := hL.o
            have ll := sl_len L0
            have hA := hL.app (s1.push [SV c.ref]) (Nat.le_succ _) (fun k hk => St.push_ne s1 _ _ (by omega)) [c.ref]
            have hA2 : L0.length + 1 = (L0 ++ [c.ref]).length := by rw [List.length_append]; rfl
            unfold SV at hA
            cases fb with
            | true =>
              rw [show refW c k (fa, true, fc) = [c.ref] from if_pos (.inl rfl)]
              refine go rTI ?_
              refine ifs ?_ ?_ <;> first | exact nope | intro hb
              refine go (cj rTI (cj @gb (cj @gl @ll))) ?_
              refine ⟨rfl, ?_, ?_, ?_, ?_, s1.nx + 1, ?_, hA⟩
              all_goals ((first | refine rn rTI ?_ | exact rn0 rTI))
              all_goals (first | trivial | rfl | rw [hA2] | rw [hk2])
            | false =>
              by_cases hk : k = 120
              · have hk2 : (k : Int) = 120 := by omega
                rw [show refW c k (fa, false, fc) = [c.ref] from if_pos (.inr hk)]
                refine go (cj rTI @hk2) ?_
                refine ifs ?_ ?_ <;> first | exact nope | intro hb
                refine go (cj rTI (cj @gb (cj @gl @ll))) ?_
                refine ⟨rfl, ?_, ?_, ?_, ?_, s1.nx + 1, ?_, hA⟩
                all_goals ((first | refine rn rTI ?_ | exact rn0 rTI))
                all_goals (first | trivial | rfl | rw [hA2] | rw [hk2])
              · have hk2 : ¬ (k : Int) = 120 := by omega
                rw [show refW c k (fa, false, fc) = [] from if_neg (fun h => by rcases h with h | h; · cases h
                                                                                · exact hk h), List.append_nil]
                refine go (cj rTI @hk2) ?_
                refine ifs ?_ ?_ <;> first | exact nope | intro hb
                refine go rTI ?_
                exact ⟨s.nx + 1 + 1, rfl, hL⟩
          · clear hL gb e1 e2 e3 lS hg hsh
            have hl1 : (L0 ++ refW c k (fa, fb, fc)).length ≤ 10 := by
              rw [List.length_append]
              have : (refW c k (fa, fb, fc)).length ≤ 1 := by unfold refW; split <;> simp
              omega
            generalize L0 ++ refW c k (fa, fb, fc) = L1 at *
            rintro e2 s2 ⟨n1, p1, p5, p8, id, p4, hL⟩
            rw [then_normal]
            refine aw_seq ?_
            refine aw_only (fun e' s' => e'.n = 120 ∧ e'.m 1 = .ptr s.nx 0 ∧ e'.m 5 = .v (.int .u8 (k : Nat)) ∧ ∃ id, e'.m 4 = .own id 0 (L1 ++ valW c k (fa, fb, fc)).length 1 ∧ LI s s' [.v (.string (bs c.name)), .sl c.nodes.length (SL c.nodes), .v (.string (bs c.ref)), .v (.int .i64 c.value.1), .v (.int .i64 c.value.2), .v (.int .i64 c.wave.kind), .sl c.wave.vals.length (NC c.wave.vals), .sl c.wave.steps.length (IL c.wave.steps)] id (L1 ++ valW c k (fa, fb, fc))) ?_ ?_
            · have gb := hL.b
              have gl := hL.l
              obtain ⟨o1, o2⟩ := hL.o
              have ll := sl_len L1
              have hA := hL.app (s2.push [SV (textN c.value)]) (Nat.le_succ _) (fun k hk => St.push_ne s2 _ _ (by omega)) [textN c.value]
              have hA2 : L1.length + 1 = (L1 ++ [textN c.value]).length := by rw [List.length_append]; rfl
              have hp := ctext_ax c.value
              unfold NM SV at hp
              unfold SV at hA
              by_cases hk : fc = true ∧ k ≠ 120
              · obtain ⟨rfl, hk⟩ := hk
                have hk2 : ¬ (k : Int) = 120 := by omega
                rw [show valW c k (fa, fb, true) = [textN c.value] from if_pos ⟨rfl, hk⟩]
                refine go (cj rTI (cj @n1 (cj @p5 (cj @p8 @hk2)))) ?_
                refine ifs ?_ ?_ <;> first | exact nope | intro hb
                refine aw_reg fun K hK => ?_; refine rn (cj rTI (cj @p1 (cj @p4 (cj @gb (cj @gl @ll))))) ?_; refine cont_pure hp ?_; refine rn (cj rTI (cj @p1 (cj @p4 (cj @gb (cj @gl @ll))))) ?_; refine hK _ _ ?_; clear hK K
                refine go (cj rTI (cj @n1 (cj @p1 @p5))) ?_
                refine ⟨rfl, ?_, ?_, ?_, s2.nx + 1, ?_, hA⟩
                all_goals ((first | refine rn (cj @n1 (cj @p1 (cj @p4 @p5))) ?_ | exact rn0 (cj @n1 (cj @p1 (cj @p4 @p5)))))
                all_goals (first | trivial | rfl | rw [hA2] | rw [hk2])
              · rw [show valW c k (fa, fb, fc) = [] from if_neg hk, List.append_nil]
                cases fc with
                | false =>
                  refine go (cj rTI (cj @n1 (cj @p5 @p8))) ?_
                  refine ifs ?_ ?_ <;> first | exact nope | intro hb
                  refine go (cj rTI (cj @n1 (cj @p1 (cj @p5 @p4)))) ?_
                  exact ⟨id, rfl, hL⟩
                | true =>
                  have hk2 : (k : Int) = 120 := by
                    have : ¬ k ≠ 120 := fun h => hk ⟨rfl, h⟩
                    omega
                  refine go (cj rTI (cj @n1 (cj @p5 (cj @p8 @hk2)))) ?_
                  refine ifs ?_ ?_ <;> first | exact nope | intro hb
                  refine go (cj rTI (cj @n1 (cj @p1 (cj @p5 @p4)))) ?_
                  exact ⟨id, rfl, hL⟩
            · clear hL n1 p1 p4 p5 p8
              have hl2 : (L1 ++ valW c k (fa, fb, fc)).length ≤ 11 := by
                rw [List.length_append]
                have : (valW c k (fa, fb, fc)).length ≤ 1 := by unfold valW; split <;> simp
                omega
              generalize L1 ++ valW c k (fa, fb, fc) = L2 at *
              rintro e3 s3 ⟨n1, p1, p5, id2, p4, hL⟩
              rw [then_normal]
              refine aw_seq ?_
              refine aw_only (fun e' s' => e'.n = 120 ∧ e'.m 1 = .ptr s.nx 0 ∧ ∃ id, e'.m 4 = .own id 0 (L2 ++ wavW c k).length 1 ∧ LI s s' [.v (.string (bs c.name)), .sl c.nodes.length (SL c.nodes), .v (.string (bs c.ref)), .v (.int .i64 c.value.1), .v (.int .i64 c.value.2), .v (.int .i64 c.wave.kind), .sl c.wave.vals.length (NC c.wave.vals), .sl c.wave.steps.length (IL c.wave.steps)] id (L2 ++ wavW c k)) ?_ ?_
              · have gb := hL.b
                have gl := hL.l
                obtain ⟨o1, o2⟩ := hL.o
                have ll := sl_len L2
                have hA := hL.app s3 (Nat.le_refl _) (fun _ _ => rfl) (waveT c.wave)
                have hA2 : L2.length + (waveT c.wave).length = (L2 ++ waveT c.wave).length := by rw [List.length_append]
                have hp := writeW_ax c.wave (by omega) (by omega) h6
                have hwl := (waveT_by c.wave h6).1
                have e1 := sl_len (waveT c.wave)
                have e2 := sl_take (waveT c.wave)
                have e3 := sl_one (waveT c.wave)
                unfold WA NV IV iv TV at hp
                generalize hT : waveT c.wave = T at *
                by_cases hk : k = 118
                · have hk2 : (k : Int) = 118 := by omega
                  rw [show wavW c k = T from (if_pos (.inl hk)).trans hT]
                  refine go (cj rTI (cj @n1 (cj @p5 @hk2))) ?_
                  refine ifs ?_ ?_ <;> first | exact nope | intro hb
                  refine aw_reg fun K hK => ?_; refine rn (cj rTI (cj @p1 (cj @p4 (cj @gb (cj @gl (cj @ll (cj @e1 (cj @e2 @e3)))))))) ?_; refine cont_pure hp ?_; refine rn (cj rTI (cj @p1 (cj @p4 (cj @gb (cj @gl (cj @ll (cj @e1 (cj @e2 @e3)))))))) ?_; refine hK _ _ ?_; clear hK K
                  refine go (cj rTI (cj @n1 @p1)) ?_
                  refine ⟨rfl, ?_, ?_, s3.nx, ?_, hA⟩
                  all_goals ((first | refine rn (cj @n1 (cj @p1 (cj @p4 @p5))) ?_ | exact rn0 (cj @n1 (cj @p1 (cj @p4 @p5)))))
                  all_goals (first | trivial | rfl | rw [hA2])
                · have hk2 : ¬ (k : Int) = 118 := by omega
                  by_cases hk3 : k = 105
                  · have hk4 : (k : Int) = 105 := by omega
                    rw [show wavW c k = T from (if_pos (.inr hk3)).trans hT]
                    refine go (cj rTI (cj @n1 (cj @p5 @hk4))) ?_
                    refine ifs ?_ ?_ <;> first | exact nope | intro hb
                    refine aw_reg fun K hK => ?_; refine rn (cj rTI (cj @p1 (cj @p4 (cj @gb (cj @gl (cj @ll (cj @e1 (cj @e2 @e3)))))))) ?_; refine cont_pure hp ?_; refine rn (cj rTI (cj @p1 (cj @p4 (cj @gb (cj @gl (cj @ll (cj @e1 (cj @e2 @e3)))))))) ?_; refine hK _ _ ?_; clear hK K
                    refine go (cj rTI (cj @n1 @p1)) ?_
                    refine ⟨rfl, ?_, ?_, s3.nx, ?_, hA⟩
                    all_goals ((first | refine rn (cj @n1 (cj @p1 (cj @p4 @p5))) ?_ | exact rn0 (cj @n1 (cj @p1 (cj @p4 @p5)))))
                    all_goals (first | trivial | rfl | rw [hA2])
                  · have hk4 : ¬ (k : Int) = 105 := by omega
                    rw [show wavW c k = [] from if_neg (fun h => h.elim hk hk3), List.append_nil]
                    refine go (cj rTI (cj @n1 (cj @p5 (cj @hk2 @hk4)))) ?_
                    refine ifs ?_ ?_ <;> first | exact nope | intro hb
                    refine go (cj rTI (cj @n1 (cj @p1 @p4))) ?_
                    exact ⟨id2, rfl, hL⟩
              · clear hL n1 p1 p4 p5
                rintro e4 s4 ⟨n1, p1, id3, p4, hL⟩
                rw [then_normal]
                rw [← hww] at hL p4
                obtain ⟨o1, o2⟩ := hL.o
                have hwl : (wordsC c).length ≤ 100 := by
                  rw [hww, List.length_append]
                  have : (wavW c k).length ≤ 65 := by
                    unfold wavW
                    split
                    · have := (waveT_by c.wave h6).1
                      omega
                    · exact Nat.zero_le _
                  omega
                have hwb := words_by c ⟨h1, h2, h3, h4, h5, h6⟩
                have hrd := read_ax (wordsC c) (fun x hx => (hwb x hx).1) (fun x hx => (hwb x hx).2) (by omega)
                have hrb := read_by (wordsC c) (fun x hx => (hwb x hx).1)
                have hwr : writeC c = if (readC (wordsC c)).2 = 0 ∧ (readC (wordsC c)).1.ref = c.ref ∧ (readC (wordsC c)).1.value = c.value ∧ (readC (wordsC c)).1.nodes = c.nodes ∧ sameW (readC (wordsC c)).1.wave c.wave = true then (wordsC c, 0) else ([], 70) := if_pos ⟨q1, q2, q3, q4⟩
                rw [hwr]
                clear hwr hww hwb hno hln hl0 hl1 hl2 hL0
                generalize readC (wordsC c) = d at *
                generalize wordsC c = W at *
                obtain ⟨d, er⟩ := d
                simp only at hrb ⊢
                refine aw_freeze2 id3 _ hL.l (fun _ => false) fun e5 s5 f1 f2 f3 f4 => ?_
                have m1 : e5.n = 120 := f1.trans n1
                have m2 : e5.m 1 = .ptr s.nx 0 := by rw [f2, p1, frz_ptr_ne _ _ _ _ (by omega)]
                have m4 : e5.m 4 = .sl W.length (SL W) := by rw [f2, p4, frz_SL]; rfl
                have gb : s5.get s.nx = some [.v (.string (bs c.name)), .sl c.nodes.length (SL c.nodes), .v (.string (bs c.ref)), .v (.int .i64 c.value.1), .v (.int .i64 c.value.2), .v (.int .i64 c.wave.kind), .sl c.wave.vals.length (NC c.wave.vals), .sl c.wave.steps.length (IL c.wave.steps)] := by
                  rw [f4, if_neg (by omega), if_neg Bool.false_ne_true]
                  exact hL.b
                have fr : ∀ i, i < s.nx → s5.get i = s.get i := fun i hi => by
                  rw [f4, if_neg (by omega), if_neg Bool.false_ne_true]
                  exact hL.fr i hi
                have hnx : s.nx < s5.nx := by rw [f3]; omega
                clear f1 f2 f3 f4 n1 p1 p4 hL
                unfold RA CA SV TV NV IV iv at hrd
                simp only at hrd
                refine go (cj rTI (cj @m1 @m4)) ?_
                refine aw_reg fun K hK => ?_; refine rn (cj rTI (cj @m1 @m4)) ?_; refine cont_pure hrd ?_; refine rn (cj rTI (cj @m1 @m4)) ?_; refine hK _ _ ?_; clear hK K
                have hrr := str_ne d.ref c.ref hrb.1 h3.1
                have hf5 : eqOk Tryz.prog 24 = true := by kernel_rfl
                have hf6 : (d.value.1 == c.value.1 && d.value.2 == c.value.2) = decide (d.value = c.value) := by rw [Bool.eq_iff_iff, decide_eq_true_eq, Prod.ext_iff]; simp
                have hnd := equalS_ax d.nodes c.nodes hrb.2.1 h2.1 (by omega) h2.2.2
                have hsw := sameW_ax d.wave c.wave (by omega) (by omega) h4 h5
                unfold TV at hnd
                unfold WA NV IV iv at hsw
                by_cases x1 : er = 0
                · by_cases x2 : d.ref = c.ref
                  · rw [decide_eq_true x2] at hrr
                    by_cases x3 : d.value = c.value
                    · rw [decide_eq_true x3] at hf6
                      by_cases x4 : d.nodes = c.nodes
                      · rw [decide_eq_true x4] at hnd
                        generalize sameW d.wave c.wave = x5 at *
                        cases x5 with
                        | true =>
                          rw [if_pos ⟨x1, x2, x3, x4, rfl⟩]
                          rw [then_normal]
                          refine aw_seq ?_
                          refine aw_seq ?_
                          refine aw_reg fun K hK => ?_; refine rn (cj rTI (cj @m1 (cj @m2 (cj @gb (cj @hnx (cj @x1 (cj @hrr (cj @hf5 @hf6)))))))) ?_; refine cont_pure hnd ?_; refine rn (cj rTI (cj @m1 (cj @m2 (cj @gb (cj @hnx (cj @x1 (cj @hrr (cj @hf5 @hf6)))))))) ?_; refine cont_pure hsw ?_; refine rn (cj rTI (cj @m1 (cj @m2 (cj @gb (cj @hnx (cj @x1 (cj @hrr (cj @hf5 @hf6)))))))) ?_; refine hK _ _ ?_; clear hK K
                          refine ifs ?_ ?_ <;> first | exact nope | intro hb
                          refine go (cj rTI (cj @m1 @m4)) ?_
                          exact ⟨Le.refl _, pa_idf _, fun i hi => by rw [if_neg (by omega)]; exact fr i hi⟩
                        | false =>
                          rw [if_neg fun h => by cases h.2.2.2.2]
                          rw [then_normal]
                          refine aw_seq ?_
                          refine aw_seq ?_
                          refine aw_reg fun K hK => ?_; refine rn (cj rTI (cj @m1 (cj @m2 (cj @gb (cj @hnx (cj @x1 (cj @hrr (cj @hf5 @hf6)))))))) ?_; refine cont_pure hnd ?_; refine rn (cj rTI (cj @m1 (cj @m2 (cj @gb (cj @hnx (cj @x1 (cj @hrr (cj @hf5 @hf6)))))))) ?_; refine cont_pure hsw ?_; refine rn (cj rTI (cj @m1 (cj @m2 (cj @gb (cj @hnx (cj @x1 (cj @hrr (cj @hf5 @hf6)))))))) ?_; refine hK _ _ ?_; clear hK K
                          refine ifs ?_ ?_ <;> first | exact nope | intro hb
                          refine go (cj rTI @m1) ?_
                          exact ⟨pa_err 70, pa_idf _, fun i hi => by rw [if_neg (by omega)]; exact fr i hi⟩
                      · rw [decide_eq_false x4] at hnd
                        rw [if_neg fun h => x4 h.2.2.2.1]
                        rw [then_normal]
                        refine aw_seq ?_
                        refine aw_seq ?_
                        refine aw_reg fun K hK => ?_; refine rn (cj rTI (cj @m1 (cj @m2 (cj @gb (cj @hnx (cj @x1 (cj @hrr (cj @hf5 @hf6)))))))) ?_; refine cont_pure hnd ?_; refine rn (cj rTI (cj @m1 (cj @m2 (cj @gb (cj @hnx (cj @x1 (cj @hrr (cj @hf5 @hf6)))))))) ?_; refine hK _ _ ?_; clear hK K
                        refine ifs ?_ ?_ <;> first | exact nope | intro hb
                        refine go (cj rTI @m1) ?_
                        exact ⟨pa_err 70, pa_idf _, fun i hi => by rw [if_neg (by omega)]; exact fr i hi⟩
                    · rw [decide_eq_false x3] at hf6
                      rw [if_neg fun h => x3 h.2.2.1]
                      rw [then_normal]
                      refine aw_seq ?_
                      refine aw_seq ?_
                      refine go (cj rTI (cj @m1 (cj @m2 (cj @gb (cj @hnx (cj @x1 (cj @hrr (cj @hf5 @hf6)))))))) ?_
                      refine ifs ?_ ?_ <;> first | exact nope | intro hb
                      refine go (cj rTI @m1) ?_
                      exact ⟨pa_err 70, pa_idf _, fun i hi => by rw [if_neg (by omega)]; exact fr i hi⟩
                  · rw [decide_eq_false x2] at hrr
                    rw [if_neg fun h => x2 h.2.1]
                    rw [then_normal]
                    refine aw_seq ?_
                    refine aw_seq ?_
                    refine go (cj rTI (cj @m1 (cj @m2 (cj @gb (cj @hnx (cj @x1 @hrr)))))) ?_
                    refine ifs ?_ ?_ <;> first | exact nope | intro hb
                    refine go (cj rTI @m1) ?_
                    exact ⟨pa_err 70, pa_idf _, fun i hi => by rw [if_neg (by omega)]; exact fr i hi⟩
                · rw [if_neg fun h => x1 h.1]
                  rw [then_normal]
                  refine aw_seq ?_
                  refine aw_seq ?_
                  refine go (cj rTI (cj @m1 (cj @m2 (cj @gb (cj @hnx @x1))))) ?_
                  refine ifs ?_ ?_ <;> first | exact nope | intro hb
                  refine go (cj rTI @m1) ?_
                  exact ⟨pa_err 70, pa_idf _, fun i hi => by rw [if_neg (by omega)]; exact fr i hi⟩
        · rw [hno fun h => q4 h.2.2.2]
          refine acall_of Tryz.func31 rfl rfl (by simp [Tryz.ntmps31]) ?_; rw [Tryz.ntmps31, Tryz.results31]
          refine go rTI ?_
          refine aw_reg fun K hK => ?_; refine rn rTI ?_; refine cont_pure hd ?_; refine rn rTI ?_; refine hK _ _ ?_; clear hK K
          refine ifs ?_ ?_ <;> first | exact nope | intro hb
          refine go rTI ?_
          exact ⟨pa_err 70, pa_idf _, fun i hi => if_neg (by omega)⟩
      · rw [hno fun h => q3 h.2.2.1]
        refine acall_of Tryz.func31 rfl rfl (by simp [Tryz.ntmps31]) ?_; rw [Tryz.ntmps31, Tryz.results31]
        refine go rTI ?_
        refine aw_reg fun K hK => ?_; refine rn rTI ?_; refine cont_pure hd ?_; refine rn rTI ?_; refine hK _ _ ?_; clear hK K
        refine ifs ?_ ?_ <;> first | exact nope | intro hb
        refine go rTI ?_
        exact ⟨pa_err 70, pa_idf _, fun i hi => if_neg (by omega)⟩
    · rw [hno fun h => q2 h.2.1]
      refine acall_of Tryz.func31 rfl rfl (by simp [Tryz.ntmps31]) ?_; rw [Tryz.ntmps31, Tryz.results31]
      refine go rTI ?_
      refine aw_reg fun K hK => ?_; refine rn rTI ?_; refine cont_pure hd ?_; refine rn rTI ?_; refine hK _ _ ?_; clear hK K
      refine ifs ?_ ?_ <;> first | exact nope | intro hb
      refine go rTI ?_
      exact ⟨pa_err 70, pa_idf _, fun i hi => if_neg (by omega)⟩
  · rw [hno fun h => q1 h.1]
    rw [Bool.eq_false_iff.2 q1] at hd
    refine acall_of Tryz.func31 rfl rfl (by simp [Tryz.ntmps31]) ?_; rw [Tryz.ntmps31, Tryz.results31]
    refine go rTI ?_
    refine aw_reg fun K hK => ?_; refine rn rTI ?_; refine cont_pure hd ?_; refine rn rTI ?_; refine hK _ _ ?_; clear hK K
    refine ifs ?_ ?_ <;> first | exact nope | intro hb
    refine go rTI ?_
    exact ⟨pa_err 70, pa_idf _, fun i hi => if_neg (by omega)⟩
end Go.Proofs.YtfjelkjlfcafgaaGreatDoor.CardK
end
section
/- Models: Valid. -/
namespace Go.Proofs.YtfjelkjlfcafgaaGreatDoor.CardL
open Go Go.RowKit Go.Proofs.YtfjelkjlfcafgaaGreatDoor.Ax Go.Proofs.YtfjelkjlfcafgaaGreatDoor.Ti Go.Proofs.YtfjelkjlfcafgaaGreatDoor.NumS Go.Proofs.YtfjelkjlfcafgaaGreatDoor.NumT Go.Proofs.YtfjelkjlfcafgaaGreatDoor.CardS Go.Proofs.YtfjelkjlfcafgaaGreatDoor.CardP Go.Proofs.YtfjelkjlfcafgaaGreatDoor.CardA Go.Proofs.YtfjelkjlfcafgaaGreatDoor.CardB Go.Proofs.YtfjelkjlfcafgaaGreatDoor.CardC Go.Proofs.YtfjelkjlfcafgaaGreatDoor.CardD Go.Proofs.YtfjelkjlfcafgaaGreatDoor.CardE Go.Proofs.YtfjelkjlfcafgaaGreatDoor.CardF Go.Proofs.YtfjelkjlfcafgaaGreatDoor.CardG Go.Proofs.YtfjelkjlfcafgaaGreatDoor.CardH Go.Proofs.YtfjelkjlfcafgaaGreatDoor.CardI Go.Proofs.YtfjelkjlfcafgaaGreatDoor.CardJ Go.Proofs.YtfjelkjlfcafgaaGreatDoor.CardK
open Go.Proofs.YtfjelkjlfcafgaaGreatDoor.NumA (NM)
set_option linter.unusedSimpArgs false
set_option linter.unusedVariables false
set_option maxRecDepth 4000
set_option maxHeartbeats 2000000
theorem rTI : type_of% (cj @ti3 (cj @ti4 (cj @ti9 (cj @ti5 (cj @ti2 (cj @ti36 (cj @ti63 (cj @ti62 (cj @ti191 (cj @ti24 (cj @ti82 (cj @ti25 (cj @Nat.zero_add (cj @tz0 (cj @tz1 (cj @tz3 (cj @Nat.mul_one @Int.toNat_natCast))))))))))))))))) := cj @ti3 (cj @ti4 (cj @ti9 (cj @ti5 (cj @ti2 (cj @ti36 (cj @ti63 (cj @ti62 (cj @ti191 (cj @ti24 (cj @ti82 (cj @ti25 (cj @Nat.zero_add (cj @tz0 (cj @tz1 (cj @tz3 (cj @Nat.mul_one @Int.toNat_natCast))))))))))))))))
def MA (m : Mdl) : AV := .ag [SV m.name, .v (.int .u8 m.kind), NV m.g, NV m.v]
theorem risingN_of : ∀ (S : List Num), (∀ i, i + 1 < S.length → sLess (S.getD i (0, 0)) (S.getD (i + 1) (0, 0)) = true) → risingN S = true
  | [], _ => rfl
  | [_], _ => rfl
  | a :: b :: r, h => by
    show (sLess a b && risingN (b :: r)) = true
    rw [Bool.and_eq_true]
    refine ⟨h 0 (by simp), risingN_of (b :: r) fun i hi => ?_⟩
    have := h (i + 1) (by simpa using hi)
    simpa using this
theorem risingN_not : ∀ (S : List Num) (i : Nat), i + 1 < S.length → sLess (S.getD i (0, 0)) (S.getD (i + 1) (0, 0)) = false → risingN S = false
  | [], _, h, _ => by simp at h
  | [_], _, h, _ => by simp at h
  | a :: b :: r, 0, h, q => by
    show (sLess a b && risingN (b :: r)) = false
    have : sLess a b = false := q
    rw [this, Bool.false_and]
  | a :: b :: r, i + 1, h, q => by
    show (sLess a b && risingN (b :: r)) = false
    rw [risingN_not (b :: r) i (by simpa using h) (by simpa using q), Bool.and_false]
def kindM (k : Int) (g v : List Num) : Bool := if k = 115 then decide (g.length = 2 ∧ v.length = 1) else if k = 100 then decide (1 ≤ g.length ∧ g.length ≤ 4 ∧ v.length + 1 = g.length) && risingN v else false
theorem modelOk_eq (n : Str) (k : Int) (g v : List Num) : modelOk ⟨n, k, g, v⟩ = (isName n && g.all valid && v.all valid && kindM k g v) := rfl
theorem mvalid_ax (m : Mdl) (hn : By m.name ∧ m.name.length ≤ 281474976710656) (hg : m.g.length ≤ 9223372036854775807) (hv : m.v.length ≤ 9223372036854775807) : PCall Tryz.prog 98 [MA m] (.v (.bool (modelOk m))) := by
  refine pcall_of fun s => ?_
  obtain ⟨nm, kd, G, V⟩ := m
  rw [modelOk_eq]
  simp only at hn hg hv
  have hnm := name_ax nm hn.1 (by have := hn.2; omega)
  unfold MA NV
  unfold SV at hnm ⊢
  simp only
  cases hc : isName nm with
  | false =>
    rw [hc] at hnm
    rw [Bool.false_and, Bool.false_and, Bool.false_and]
    refine acall_of Tryz.func98 rfl rfl (by simp [Tryz.ntmps98]) ?_; rw [Tryz.ntmps98, Tryz.results98]
    refine go rTI ?_
    refine aw_reg fun K hK => ?_; refine rn rTI ?_; refine cont_pure hnm ?_; refine rn rTI ?_; refine hK _ _ ?_; clear hK K
    refine ifs ?_ ?_ <;> first | exact nope | intro hb
    refine go rTI ?_
    exact fun i hi => if_neg (by omega)
  | true =>
    rw [hc] at hnm
    rw [Bool.true_and]
    refine acall_of Tryz.func98 rfl rfl (by simp [Tryz.ntmps98]) ?_; rw [Tryz.ntmps98, Tryz.results98]
    refine go rTI ?_
    refine aw_reg fun K hK => ?_; refine rn rTI ?_; refine cont_pure hnm ?_; refine rn rTI ?_; refine hK _ _ ?_; clear hK K
    refine ifs ?_ ?_ <;> first | exact nope | intro hb
    refine go rTI ?_
    refine aw_loop (fun m e s' => ∃ j, m = 2 - j ∧ j ≤ 2 ∧ e.n = 93 ∧ e.m 1 = .ptr s.nx 0 ∧ e.m 18 = .ag [.sl G.length (NC G), .sl V.length (NC V)] ∧ e.m 19 = .v (.int .i64 (j : Nat)) ∧ (1 ≤ j → G.all valid = true) ∧ (2 ≤ j → V.all valid = true) ∧ s.nx < s'.nx ∧ s'.get s.nx = some [.v (.string (bs nm)), .v (.int .u8 kd), .sl G.length (NC G), .sl V.length (NC V)] ∧ ∀ i, i < s.nx → s'.get i = s.get i) 2 ?_ ?_
    · refine ⟨0, by omega, by omega, ?_, ?_, ?_, ?_, fun h => by omega, fun h => by omega, Nat.lt_succ_self _, St.push_same _ _, fun i hi => St.push_ne s _ _ (by omega)⟩
      all_goals ((first | refine rn rTI ?_ | exact rn0 rTI))
      all_goals (first | rfl | trivial)
    · rintro m e s' ⟨j, rfl, hj, h1, k1, k18, k19, hG, hV, hn2, gb, fr⟩
      by_cases hj2 : j < 2
      · obtain ⟨L, hh, hbad, hok, hL⟩ : ∃ L : List Num, ([AV.sl G.length (NC G), AV.sl V.length (NC V)].drop j).head? = some (.sl L.length (NC L)) ∧ (L.all valid = false → (G.all valid && V.all valid && kindM kd G V) = false) ∧ (L.all valid = true → (1 ≤ j + 1 → G.all valid = true) ∧ (2 ≤ j + 1 → V.all valid = true)) ∧ L.length ≤ 9223372036854775807 := by
          match j, hj2 with
          | 0, _ => exact ⟨G, rfl, fun h => by rw [h, Bool.false_and, Bool.false_and], fun h => ⟨fun _ => h, fun q => by omega⟩, hg⟩
          | 1, _ => exact ⟨V, rfl, fun h => by rw [h, Bool.and_false, Bool.false_and], fun h => ⟨fun _ => hG (by omega), fun _ => h⟩, hv⟩
        refine go (cj rTI (cj @h1 @k19)) ?_
        refine ifs ?_ ?_ <;> first | exact nope | intro hb
        refine aw_skip ?_
        refine go (cj rTI (cj @h1 (cj @k18 (cj @k19 @hh)))) ?_
        clear hG hV hh
        refine aw_loop (fun m e2 s2 => ∃ k, m = L.length - k ∧ k ≤ L.length ∧ e2.n = 93 ∧ e2.m 1 = .ptr s.nx 0 ∧ e2.m 18 = .ag [.sl G.length (NC G), .sl V.length (NC V)] ∧ e2.m 19 = .v (.int .i64 (j : Nat)) ∧ e2.m 22 = .sl L.length (NC L) ∧ e2.m 23 = .v (.int .i64 L.length) ∧ e2.m 24 = .v (.int .i64 (k : Nat)) ∧ (L.take k).all valid = true ∧ s.nx < s2.nx ∧ s2.get s.nx = some [.v (.string (bs nm)), .v (.int .u8 kd), .sl G.length (NC G), .sl V.length (NC V)] ∧ ∀ i, i < s.nx → s2.get i = s.get i) L.length ?_ ?_
        · refine ⟨0, by omega, by omega, ?_, ?_, ?_, ?_, ?_, ?_, ?_, rfl, hn2, gb, fr⟩
          all_goals ((first | refine rn (cj rTI (cj @h1 (cj @k1 (cj @k18 @k19)))) ?_ | exact rn0 (cj rTI (cj @h1 (cj @k1 (cj @k18 @k19))))))
          all_goals (first | rfl | trivial)
        · clear h1 k1 k18 k19 hn2 gb fr
          rintro m e2 s2 ⟨k, rfl, hk, h1, k1, k18, k19, k22, k23, k24, ha, hn2, gb, fr⟩
          by_cases hk2 : k < L.length
          · have f1 := nc_at L k hk2
            have f2 : 2 ≤ ((NC L).drop (k * 2)).length := by rw [List.length_drop, nc_len]; omega
            have hp : PCall Tryz.prog 18 [NM (L.getD k (0, 0)).1 (L.getD k (0, 0)).2] (.v (.bool (valid (L.getD k (0, 0))))) := NumA.valid_ax _ _
            have ht := take_all valid L (0, 0) k hk2 ha
            have hf := all_not valid L (0, 0) k hk2
            unfold iv at f1
            unfold NM at hp
            generalize L.getD k (0, 0) = n at *
            refine go (cj rTI (cj @h1 (cj @k23 @k24))) ?_
            refine ifs ?_ ?_ <;> first | exact nope | intro hb
            refine aw_skip ?_
            refine go (cj rTI (cj @h1 (cj @k22 (cj @k24 (cj @f1 @f2))))) ?_
            refine aw_reg fun K hK => ?_; refine rn rTI ?_; refine cont_pure hp ?_; refine rn rTI ?_; refine hK _ _ ?_; clear hK K
            cases hc : valid n with
            | false =>
              rw [hbad (hf hc)]
              refine ifs ?_ ?_ <;> first | exact nope | intro hb
              refine go (cj rTI @h1) ?_
              exact fun i hi => by rw [if_neg (by omega)]; exact fr i hi
            | true =>
              rw [hc] at ht
              refine ifs ?_ ?_ <;> first | exact nope | intro hb
              refine go (cj rTI (cj @h1 @k24)) ?_
              simp only [block_normal, loop_normal]
              refine ⟨L.length - (k + 1), by omega, k + 1, rfl, by omega, ?_, ?_, ?_, ?_, ?_, ?_, ?_, ht, ?_, ?_, ?_⟩
              all_goals ((first | refine rn (cj rTI (cj @h1 (cj @k1 (cj @k18 (cj @k19 (cj @k22 (cj @k23 @k24))))))) ?_ | exact rn0 (cj rTI (cj @h1 (cj @k1 (cj @k18 (cj @k19 (cj @k22 (cj @k23 @k24)))))))))
              all_goals (first | rfl | trivial | (rw [St.nx_push]; omega) | omega | (intro i hi; rw [if_neg (by omega)]; exact fr i hi) | skip)
          · obtain rfl : k = L.length := by omega
            rw [List.take_length] at ha
            obtain ⟨hG, hV⟩ := hok ha
            refine go (cj rTI (cj @h1 (cj @k19 (cj @k23 @k24)))) ?_
            refine ifs ?_ ?_ <;> first | exact nope | intro hb
            refine go (cj rTI (cj @h1 @k19)) ?_
            simp only [block_normal, loop_normal]
            refine ⟨2 - (j + 1), by omega, j + 1, rfl, by omega, ?_, ?_, ?_, ?_, hG, hV, hn2, gb, fr⟩
            all_goals ((first | refine rn (cj rTI (cj @h1 (cj @k1 (cj @k18 @k19)))) ?_ | exact rn0 (cj rTI (cj @h1 (cj @k1 (cj @k18 @k19))))))
            all_goals (first | rfl | trivial)
      · obtain rfl : j = 2 := by omega
        have hVa : ∀ i, i < V.length → valid (V.getD i (0, 0)) = true := fun i hi => by
          rw [List.getD_eq_getElem?_getD, List.getElem?_eq_getElem hi]
          exact List.all_eq_true.1 (hV (by omega)) _ (List.getElem_mem _)
        rw [hG (by omega), hV (by omega), Bool.true_and, Bool.true_and]
        clear hG hV hj hj2
        unfold kindM
        by_cases q1 : kd = 115
        · rw [if_pos q1]
          subst q1
          have hd2 : decide (G.length = 2 ∧ V.length = 1) = (decide (G.length = 2) && decide (V.length = 1)) := by rw [Bool.decide_and]
          rw [hd2]
          refine go (cj rTI (cj @h1 (cj @k1 (cj @k19 @gb)))) ?_
          refine ifs ?_ ?_ <;> first | exact nope | intro hb
          refine go (cj rTI (cj @h1 (cj @k1 @gb))) ?_
          refine ifs ?_ ?_ <;> first | exact nope | intro hb
          by_cases c1 : G.length = 2
          · by_cases c2 : V.length = 1
            · rw [decide_eq_true c1, decide_eq_true c2]
              refine go (cj rTI (cj @h1 (cj @k1 @gb))) ?_
              exact fr
            · rw [decide_eq_true c1, decide_eq_false c2]
              refine go (cj rTI (cj @h1 (cj @k1 @gb))) ?_
              exact fr
          · rw [decide_eq_false c1, Bool.false_and]
            refine go (cj rTI (cj @h1 (cj @k1 @gb))) ?_
            exact fr
        rw [if_neg q1]
        by_cases q2 : kd = 100
        · rw [if_pos q2]
          subst q2
          refine go (cj rTI (cj @h1 (cj @k1 (cj @k19 @gb)))) ?_
          refine ifs ?_ ?_ <;> first | exact nope | intro hb
          refine go (cj rTI (cj @h1 (cj @k1 @gb))) ?_
          refine ifs ?_ ?_ <;> first | exact nope | intro hb
          refine go (cj rTI (cj @h1 (cj @k1 @gb))) ?_
          refine ifs ?_ ?_ <;> first | exact nope | intro hb
          rcases (by omega : G.length < 1 ∨ (1 ≤ G.length ∧ 4 < G.length) ∨ (1 ≤ G.length ∧ G.length ≤ 4 ∧ ¬ V.length + 1 = G.length) ∨ (1 ≤ G.length ∧ G.length ≤ 4 ∧ V.length + 1 = G.length)) with c | ⟨c1, c2⟩ | ⟨c1, c2, c3⟩ | ⟨c1, c2, c3⟩
          · rw [decide_eq_false (fun h => by omega), Bool.false_and]
            refine go (cj rTI (cj @h1 (cj @k1 @gb))) ?_
            refine ifs ?_ ?_ <;> first | exact nope | intro hb
            refine go (cj rTI @h1) ?_
            exact fr
          · rw [decide_eq_false (fun h => by omega), Bool.false_and]
            refine go (cj rTI (cj @h1 (cj @k1 @gb))) ?_
            refine ifs ?_ ?_ <;> first | exact nope | intro hb
            refine go (cj rTI @h1) ?_
            exact fr
          · rw [decide_eq_false (fun h => by omega), Bool.false_and]
            refine go (cj rTI (cj @h1 (cj @k1 @gb))) ?_
            refine ifs ?_ ?_ <;> first | exact nope | intro hb
            refine go (cj rTI @h1) ?_
            exact fr
          · rw [decide_eq_true ⟨c1, c2, c3⟩, Bool.true_and]
            refine go (cj rTI (cj @h1 (cj @k1 @gb))) ?_
            refine ifs ?_ ?_ <;> first | exact nope | intro hb
            refine go (cj rTI @h1) ?_
            refine aw_loop (fun m e2 s2 => ∃ j, m = V.length - j ∧ j ≤ V.length ∧ e2.n = 93 ∧ e2.m 1 = .ptr s.nx 0 ∧ e2.m 7 = .v (.int .i64 ((j : Int) + 1)) ∧ (∀ i, i < j → i + 1 < V.length → sLess (V.getD i (0, 0)) (V.getD (i + 1) (0, 0)) = true) ∧ s2 = s') V.length ?_ ?_
            · refine ⟨0, by omega, by omega, ?_, ?_, ?_, fun i hi => by omega, ?_⟩
              all_goals ((first | refine rn (cj rTI (cj @h1 @k1)) ?_ | exact rn0 (cj rTI (cj @h1 @k1))))
              all_goals (first | rfl | trivial)
            · clear h1 k1 k18 k19
              rintro m e2 s2 ⟨j, rfl, hj, h1, k1, k7, hr, rfl⟩
              by_cases hj2 : j + 1 < V.length
              · have f1 := nc_at V j (by omega)
                have f2 : 2 ≤ ((NC V).drop (j * 2)).length := by rw [List.length_drop, nc_len]; omega
                have f3 := nc_at V (j + 1) hj2
                have f4 : 2 ≤ ((NC V).drop ((j + 1) * 2)).length := by rw [List.length_drop, nc_len]; omega
                have hcm := NumB.cmp_ax (V.getD j (0, 0)).1 (V.getD j (0, 0)).2 (V.getD (j + 1) (0, 0)).1 (V.getD (j + 1) (0, 0)).2
                rw [NumB.cmpNN_eq, if_pos ⟨hVa j (by omega), hVa (j + 1) hj2⟩, show @BigI.sgn = @RefC.sgn from rfl] at hcm
                have hnr := risingN_not V j hj2
                have hpr : sLess (V.getD j (0, 0)) (V.getD (j + 1) (0, 0)) = true → ∀ i, i < j + 1 → i + 1 < V.length → sLess (V.getD i (0, 0)) (V.getD (i + 1) (0, 0)) = true := fun h i hi hi2 => by
                  by_cases q : i = j
                  · subst q; exact h
                  · exact hr i (by omega) hi2
                have hsl : sLess (V.getD j (0, 0)) (V.getD (j + 1) (0, 0)) = decide (RefC.sgn ((RefM.ofN (V.getD j (0, 0)).1 (V.getD j (0, 0)).2).1 * (RefM.ofN (V.getD (j + 1) (0, 0)).1 (V.getD (j + 1) (0, 0)).2).2 - (RefM.ofN (V.getD (j + 1) (0, 0)).1 (V.getD (j + 1) (0, 0)).2).1 * (RefM.ofN (V.getD j (0, 0)).1 (V.getD j (0, 0)).2).2) < 0) := rfl
                rw [hsl] at hnr hpr
                clear hr hsl
                generalize hz : RefC.sgn ((RefM.ofN (V.getD j (0, 0)).1 (V.getD j (0, 0)).2).1 * (RefM.ofN (V.getD (j + 1) (0, 0)).1 (V.getD (j + 1) (0, 0)).2).2 - (RefM.ofN (V.getD (j + 1) (0, 0)).1 (V.getD (j + 1) (0, 0)).2).1 * (RefM.ofN (V.getD j (0, 0)).1 (V.getD j (0, 0)).2).2) = z at hcm hnr hpr
                clear hz
                unfold iv at f1 f3
                unfold NM at hcm
                generalize V.getD (j + 1) (0, 0) = x1 at *
                generalize V.getD j (0, 0) = x0 at *
                have hj3 : (j : Int) + 1 - 1 = (j : Int) := by omega
                have hj4 : ((j : Int) + 1).toNat = j + 1 := by omega
                refine go (cj rTI (cj @h1 (cj @k1 (cj @k7 @gb)))) ?_
                refine ifs ?_ ?_ <;> first | exact nope | intro hb
                refine aw_skip ?_
                refine go rTI ?_
                refine aw_drw (.take 0 (.take 1 (.take 2 (.take 3 (.take 4 (.take 5 (.take 6 (.take 7 (.take 8 (.take 9 (.take 10 (.one 11 (.take 12 (.take 13 (.take 14 (.take 15 (.take 16 (.done)))))))))))))))))) [s.nx] (by kernel_rfl) (by kernel_rfl) fun K hK => ?_; refine dr (cj rTI (cj @h1 (cj @k1 (cj @k7 (cj @gb (cj @f1 (cj @f2 (cj @f3 (cj @f4 (cj @hj3 @hj4)))))))))) ?_; refine cont_pure hcm ?_; refine dr (cj rTI (cj @h1 (cj @k1 (cj @k7 (cj @gb (cj @f1 (cj @f2 (cj @f3 (cj @f4 (cj @hj3 @hj4)))))))))) ?_; refine hK _ _ ?_; clear hK K
                by_cases c : z < 0
                · refine go (cj rTI @h1) ?_
                  refine ifs ?_ ?_ <;> first | exact nope | intro hb
                  have hp2 := hpr (decide_eq_true c)
                  refine go (cj rTI (cj @h1 @k7)) ?_
                  try simp only [block_normal, loop_normal]
                  refine ⟨V.length - (j + 1), by omega, j + 1, rfl, by omega, ?_, ?_, ?_, hp2, ?_⟩
                  all_goals ((first | refine rn (cj rTI (cj @h1 (cj @k1 @k7))) ?_ | exact rn0 (cj rTI (cj @h1 (cj @k1 @k7)))))
                  all_goals (first | rfl | trivial)
                · refine go (cj rTI @h1) ?_
                  refine ifs ?_ ?_ <;> first | exact nope | intro hb
                  rw [hnr (decide_eq_false c)]
                  refine go (cj rTI @h1) ?_
                  exact fr
              · have hR : risingN V = true := risingN_of V fun i hi => hr i (by omega) hi
                rw [hR]
                refine go (cj rTI (cj @h1 (cj @k1 (cj @k7 @gb)))) ?_
                refine ifs ?_ ?_ <;> first | exact nope | intro hb
                refine go (cj rTI @h1) ?_
                exact fr
        · rw [if_neg q2]
          refine go (cj rTI (cj @h1 (cj @k1 (cj @k19 @gb)))) ?_
          refine ifs ?_ ?_ <;> first | exact nope | intro hb
          refine go (cj rTI (cj @h1 (cj @k1 @gb))) ?_
          refine ifs ?_ ?_ <;> first | exact nope | intro hb
          refine go (cj rTI (cj @h1 (cj @k1 @gb))) ?_
          refine ifs ?_ ?_ <;> first | exact nope | intro hb
          refine go (cj rTI @h1) ?_
          exact fr
end Go.Proofs.YtfjelkjlfcafgaaGreatDoor.CardL
end
section
/- The document: the same texts, the same numbers, the same steps. (Made by gen_cardr.py.) -/
namespace Go.Proofs.YtfjelkjlfcafgaaGreatDoor.CardR
open Go Go.RowKit Go.Proofs.YtfjelkjlfcafgaaGreatDoor.Ax Go.Proofs.YtfjelkjlfcafgaaGreatDoor.Ti Go.Proofs.YtfjelkjlfcafgaaGreatDoor.NumS Go.Proofs.YtfjelkjlfcafgaaGreatDoor.NumT Go.Proofs.YtfjelkjlfcafgaaGreatDoor.CardS Go.Proofs.YtfjelkjlfcafgaaGreatDoor.CardP Go.Proofs.YtfjelkjlfcafgaaGreatDoor.CardA Go.Proofs.YtfjelkjlfcafgaaGreatDoor.CardB Go.Proofs.YtfjelkjlfcafgaaGreatDoor.CardC Go.Proofs.YtfjelkjlfcafgaaGreatDoor.CardD Go.Proofs.YtfjelkjlfcafgaaGreatDoor.CardE Go.Proofs.YtfjelkjlfcafgaaGreatDoor.CardG Go.Proofs.YtfjelkjlfcafgaaGreatDoor.CardH Go.Proofs.YtfjelkjlfcafgaaGreatDoor.CardI Go.Proofs.YtfjelkjlfcafgaaGreatDoor.CardL
open Go.Proofs.YtfjelkjlfcafgaaGreatDoor.NumA (NM)
set_option linter.unusedSimpArgs false
set_option linter.unusedVariables false
set_option maxRecDepth 4000
set_option maxHeartbeats 2000000
theorem rTI : type_of% (cj @ti3 (cj @ti4 (cj @ti9 (cj @ti5 (cj @ti2 (cj @ti36 (cj @ti63 (cj @ti62 (cj @ti24 (cj @ti65 (cj @ti82 (cj @ti67 (cj @Nat.zero_add (cj @tz0 (cj @tz1 (cj @tz3 (cj @Nat.mul_one @Int.toNat_natCast))))))))))))))))) := cj @ti3 (cj @ti4 (cj @ti9 (cj @ti5 (cj @ti2 (cj @ti36 (cj @ti63 (cj @ti62 (cj @ti24 (cj @ti65 (cj @ti82 (cj @ti67 (cj @Nat.zero_add (cj @tz0 (cj @tz1 (cj @tz3 (cj @Nat.mul_one @Int.toNat_natCast))))))))))))))))
theorem texts_ax (a b : List Str) (ga : BL a) (gb : BL b) (ha : a.length ≤ 9223372036854775807) (hb' : b.length ≤ 9223372036854775807) : PCall Tryz.prog 33 [TV a, TV b] (.v (.bool (decide (a = b)))) := by
  refine pcall_of fun s => ?_
  unfold TV
  by_cases hl : a.length = b.length
  · refine acall_of Tryz.func33 rfl rfl (by simp [Tryz.ntmps33]) ?_; rw [Tryz.ntmps33, Tryz.results33]
    refine go (cj rTI @hl) ?_
    refine ifs ?_ ?_ <;> first | exact nope | intro hb
    refine go (cj rTI @hl) ?_
    refine aw_loop (fun m e s' => ∃ k, m = b.length - k ∧ k ≤ b.length ∧ e.n = 26 ∧ e.m 0 = .sl b.length (SL a) ∧ e.m 1 = .sl b.length (SL b) ∧ e.m 5 = .v (.int .i64 (k : Nat)) ∧ a.take k = b.take k ∧ s' = s) b.length ?_ ?_
    · refine ⟨0, by omega, by omega, ?_⟩
      (repeat' refine And.intro ?_ ?_) <;> first | exact rfl | exact fnz (cj rTI @hl) | skip
    · rintro m e s' ⟨k, rfl, hk, h1, k0, k1, k5, ht, rfl⟩
      by_cases hk2 : k < b.length
      · have ha2 : k < a.length := by omega
        have f1 := hd_SL a k ha2
        have f2 := hd_SL b k hk2
        have f3 := str_ne (a.getD k []) (b.getD k []) (bl_at a ga k) (bl_at b gb k)
        unfold SV at f1 f2
        refine go (cj rTI (cj @h1 (cj @k0 @k5))) ?_
        refine ifs ?_ ?_ <;> first | exact nope | intro hb
        refine aw_skip ?_
        refine go rTI ?_
        refine aw_drw (.take 0 (.take 1 (.take 2 (.take 3 (.take 4 (.take 5 (.take 6 (.take 7 (.take 8 (.done)))))))))) [] (by kernel_rfl) (by kernel_rfl) fun K hK => ?_; refine dr (cj rTI (cj @h1 (cj @k0 (cj @k1 (cj @k5 (cj @f1 (cj @f2 @f3))))))) ?_; refine hK _ _ ?_; clear hK K
        by_cases q : a.getD k [] = b.getD k []
        · have ht2 := take_eq hl ha2 ht q
          rw [decide_eq_true q]
          refine ifs ?_ ?_ <;> first | exact nope | intro hb
          refine go (cj rTI (cj @h1 @k5)) ?_
          simp only [block_normal, loop_normal]
          refine ⟨b.length - (k + 1), by omega, k + 1, rfl, by omega, ?_, ?_, ?_, ?_, ht2, trivial⟩
          all_goals ((first | refine rn (cj @h1 (cj @k0 (cj @k1 @k5))) ?_ | exact rn0 (cj @h1 (cj @k0 (cj @k1 @k5)))))
          all_goals rfl
        · rw [decide_eq_false (ne_at q)]
          rw [decide_eq_false q]
          refine ifs ?_ ?_ <;> first | exact nope | intro hb
          exact go0 (cj rTI @h1)
      · obtain rfl : k = b.length := by omega
        rw [List.take_length, ← hl, List.take_length] at ht
        rw [decide_eq_true ht]
        refine go (cj rTI (cj @h1 (cj @k0 @k5))) ?_
        refine ifs ?_ ?_ <;> first | exact nope | intro hb
        exact go0 (cj rTI @h1)
  · rw [decide_eq_false fun h => hl (by rw [h])]
    have hl2 : ¬ ((a.length : Int) = (b.length : Int)) := by omega
    refine acall_of Tryz.func33 rfl rfl (by simp [Tryz.ntmps33]) ?_; rw [Tryz.ntmps33, Tryz.results33]
    refine go rTI ?_
    refine ifs ?_ ?_ <;> first | exact nope | intro hb
    exact go0 rTI
theorem sameN_ax (a b : List Num) (ha : a.length ≤ 9223372036854775807) (hb' : b.length ≤ 9223372036854775807) : PCall Tryz.prog 99 [NV a, NV b] (.v (.bool (decide (a = b)))) := by
  refine pcall_of fun s => ?_
  unfold NV
  by_cases hl : a.length = b.length
  · refine acall_of Tryz.func99 rfl rfl (by simp [Tryz.ntmps99]) ?_; rw [Tryz.ntmps99, Tryz.results99]
    refine go (cj rTI @hl) ?_
    refine ifs ?_ ?_ <;> first | exact nope | intro hb
    refine go (cj rTI @hl) ?_
    refine aw_loop (fun m e s' => ∃ k, m = b.length - k ∧ k ≤ b.length ∧ e.n = 26 ∧ e.m 0 = .sl b.length (NC a) ∧ e.m 1 = .sl b.length (NC b) ∧ e.m 5 = .v (.int .i64 (k : Nat)) ∧ a.take k = b.take k ∧ s' = s) b.length ?_ ?_
    · refine ⟨0, by omega, by omega, ?_⟩
      (repeat' refine And.intro ?_ ?_) <;> first | exact rfl | exact fnz (cj rTI @hl) | skip
    · rintro m e s' ⟨k, rfl, hk, h1, k0, k1, k5, ht, rfl⟩
      by_cases hk2 : k < b.length
      · have ha2 : k < a.length := by omega
        have f1 := nc_at a k ha2
        have f2 := nc_at b k hk2
        have f3 : 2 ≤ ((NC a).drop (k * 2)).length := by rw [List.length_drop, nc_len]; omega
        have f4 : 2 ≤ ((NC b).drop (k * 2)).length := by rw [List.length_drop, nc_len]; omega
        unfold iv at f1 f2
        have f5 : eqOk Tryz.prog 24 = true := by kernel_rfl
        have f6 : ((a.getD k (0, 0)).1 == (b.getD k (0, 0)).1 && (a.getD k (0, 0)).2 == (b.getD k (0, 0)).2) = decide (a.getD k (0, 0) = b.getD k (0, 0)) := by rw [Bool.eq_iff_iff, decide_eq_true_eq, Prod.ext_iff]; simp
        refine go (cj rTI (cj @h1 (cj @k0 @k5))) ?_
        refine ifs ?_ ?_ <;> first | exact nope | intro hb
        refine aw_skip ?_
        refine go rTI ?_
        refine aw_drw (.take 0 (.take 1 (.take 2 (.take 3 (.take 4 (.take 5 (.take 6 (.take 7 (.take 8 (.done)))))))))) [] (by kernel_rfl) (by kernel_rfl) fun K hK => ?_; refine dr (cj rTI (cj @h1 (cj @k0 (cj @k1 (cj @k5 (cj @f1 (cj @f2 (cj @f3 (cj @f4 (cj @f5 @f6)))))))))) ?_; refine hK _ _ ?_; clear hK K
        by_cases q : a.getD k (0, 0) = b.getD k (0, 0)
        · have ht2 := take_eq hl ha2 ht q
          rw [decide_eq_true q]
          refine ifs ?_ ?_ <;> first | exact nope | intro hb
          refine go (cj rTI (cj @h1 @k5)) ?_
          simp only [block_normal, loop_normal]
          refine ⟨b.length - (k + 1), by omega, k + 1, rfl, by omega, ?_, ?_, ?_, ?_, ht2, trivial⟩
          all_goals ((first | refine rn (cj @h1 (cj @k0 (cj @k1 @k5))) ?_ | exact rn0 (cj @h1 (cj @k0 (cj @k1 @k5)))))
          all_goals rfl
        · rw [decide_eq_false (ne_at q)]
          rw [decide_eq_false q]
          refine ifs ?_ ?_ <;> first | exact nope | intro hb
          exact go0 (cj rTI @h1)
      · obtain rfl : k = b.length := by omega
        rw [List.take_length, ← hl, List.take_length] at ht
        rw [decide_eq_true ht]
        refine go (cj rTI (cj @h1 (cj @k0 @k5))) ?_
        refine ifs ?_ ?_ <;> first | exact nope | intro hb
        exact go0 (cj rTI @h1)
  · rw [decide_eq_false fun h => hl (by rw [h])]
    have hl2 : ¬ ((a.length : Int) = (b.length : Int)) := by omega
    refine acall_of Tryz.func99 rfl rfl (by simp [Tryz.ntmps99]) ?_; rw [Tryz.ntmps99, Tryz.results99]
    refine go rTI ?_
    refine ifs ?_ ?_ <;> first | exact nope | intro hb
    exact go0 rTI
def sameM (a b : Mdl) : Bool := decide (a.name = b.name) && (decide (a.kind = b.kind) && (decide (a.g = b.g) && decide (a.v = b.v)))
theorem sameM_ax (a b : Mdl) (ga : By a.name) (gb : By b.name) (h1 : a.g.length ≤ 9223372036854775807) (h2 : b.g.length ≤ 9223372036854775807) (h3 : a.v.length ≤ 9223372036854775807) (h4 : b.v.length ≤ 9223372036854775807) :
    PCall Tryz.prog 46 [MA a, MA b] (.v (.bool (sameM a b))) := by
  refine pcall_of fun s => ?_
  have e1 := str_eq a.name b.name ga gb
  have hg := sameN_ax a.g b.g h1 h2
  have hv := sameN_ax a.v b.v h3 h4
  unfold sameM
  unfold MA SV NV at *
  by_cases q1 : a.name = b.name
  · rw [decide_eq_true q1] at e1
    rw [decide_eq_true q1, Bool.true_and]
    by_cases q2 : a.kind = b.kind
    · rw [decide_eq_true q2, Bool.true_and]
      generalize decide (a.g = b.g) = c1 at *
      generalize decide (a.v = b.v) = c2 at *
      cases c1 with
      | false =>
        rw [Bool.false_and]
        refine acall_of Tryz.func46 rfl rfl (by simp [Tryz.ntmps46]) ?_; rw [Tryz.ntmps46, Tryz.results46]
        refine go rTI ?_
        refine aw_reg fun K hK => ?_; refine rn (cj rTI (cj @e1 @q2)) ?_; refine cont_pure hg ?_; refine rn (cj rTI (cj @e1 @q2)) ?_; refine hK _ _ ?_; clear hK K
        refine go rTI ?_
        exact fun i hi => by rw [if_neg (by omega), if_neg (by omega)]
      | true =>
        rw [Bool.true_and]
        refine acall_of Tryz.func46 rfl rfl (by simp [Tryz.ntmps46]) ?_; rw [Tryz.ntmps46, Tryz.results46]
        refine go rTI ?_
        refine aw_reg fun K hK => ?_; refine rn (cj rTI (cj @e1 @q2)) ?_; refine cont_pure hg ?_; refine rn (cj rTI (cj @e1 @q2)) ?_; refine cont_pure hv ?_; refine rn (cj rTI (cj @e1 @q2)) ?_; refine hK _ _ ?_; clear hK K
        refine go rTI ?_
        exact fun i hi => by rw [if_neg (by omega), if_neg (by omega)]
    · rw [decide_eq_false q2, Bool.false_and]
      refine acall_of Tryz.func46 rfl rfl (by simp [Tryz.ntmps46]) ?_; rw [Tryz.ntmps46, Tryz.results46]
      refine go (cj rTI (cj @e1 @q2)) ?_
      exact fun i hi => by rw [if_neg (by omega), if_neg (by omega)]
  · rw [decide_eq_false q1] at e1
    rw [decide_eq_false q1, Bool.false_and]
    refine acall_of Tryz.func46 rfl rfl (by simp [Tryz.ntmps46]) ?_; rw [Tryz.ntmps46, Tryz.results46]
    refine go (cj rTI @e1) ?_
    exact fun i hi => by rw [if_neg (by omega), if_neg (by omega)]
end Go.Proofs.YtfjelkjlfcafgaaGreatDoor.CardR
end
section
/- Models: WriteModel. -/
namespace Go.Proofs.YtfjelkjlfcafgaaGreatDoor.CardM
open Go Go.RowKit Go.Proofs.YtfjelkjlfcafgaaGreatDoor.Ax Go.Proofs.YtfjelkjlfcafgaaGreatDoor.Ti Go.Proofs.YtfjelkjlfcafgaaGreatDoor.NumS Go.Proofs.YtfjelkjlfcafgaaGreatDoor.NumT Go.Proofs.YtfjelkjlfcafgaaGreatDoor.CardS Go.Proofs.YtfjelkjlfcafgaaGreatDoor.CardP Go.Proofs.YtfjelkjlfcafgaaGreatDoor.CardA Go.Proofs.YtfjelkjlfcafgaaGreatDoor.CardB Go.Proofs.YtfjelkjlfcafgaaGreatDoor.CardC Go.Proofs.YtfjelkjlfcafgaaGreatDoor.CardD Go.Proofs.YtfjelkjlfcafgaaGreatDoor.CardE Go.Proofs.YtfjelkjlfcafgaaGreatDoor.CardF Go.Proofs.YtfjelkjlfcafgaaGreatDoor.CardG Go.Proofs.YtfjelkjlfcafgaaGreatDoor.CardH Go.Proofs.YtfjelkjlfcafgaaGreatDoor.CardI Go.Proofs.YtfjelkjlfcafgaaGreatDoor.CardJ Go.Proofs.YtfjelkjlfcafgaaGreatDoor.CardK Go.Proofs.YtfjelkjlfcafgaaGreatDoor.CardL
open Go.Proofs.YtfjelkjlfcafgaaGreatDoor.NumA (NM)
set_option linter.unusedSimpArgs false
set_option linter.unusedVariables false
set_option maxRecDepth 4000
set_option maxHeartbeats 2000000
theorem rTI : type_of% (cj @ti3 (cj @ti4 (cj @ti9 (cj @ti5 (cj @ti2 (cj @ti116 (cj @ti36 (cj @ti63 (cj @ti62 (cj @ti24 (cj @ti82 (cj @ti25 (cj @Nat.zero_add (cj @tz0 (cj @tz1 (cj @tz3 (cj @Nat.mul_one @Int.toNat_natCast))))))))))))))))) := cj @ti3 (cj @ti4 (cj @ti9 (cj @ti5 (cj @ti2 (cj @ti116 (cj @ti36 (cj @ti63 (cj @ti62 (cj @ti24 (cj @ti82 (cj @ti25 (cj @Nat.zero_add (cj @tz0 (cj @tz1 (cj @tz3 (cj @Nat.mul_one @Int.toNat_natCast))))))))))))))))
theorem zipM_take : ∀ (vs gs : List Num) (j : Nat), j < vs.length → j < gs.length → zipM (vs.take (j + 1)) (gs.take (j + 1)) = zipM (vs.take j) (gs.take j) ++ [textN (vs.getD j (0, 0)), textN (gs.getD j (0, 0))]
  | [], _, _, h, _ => absurd h (Nat.not_lt_zero _)
  | _ :: _, [], _, _, h => absurd h (Nat.not_lt_zero _)
  | a :: S, b :: V, 0, _, _ => by
    simp [zipM]
  | a :: S, b :: V, j + 1, h1, h2 => by
    have := zipM_take S V j (Nat.lt_of_succ_lt_succ h1) (Nat.lt_of_succ_lt_succ h2)
    rw [List.take_succ_cons, List.take_succ_cons, List.take_succ_cons, List.take_succ_cons, List.getD_cons_succ, List.getD_cons_succ]
    show textN a :: textN b :: zipM _ _ = textN a :: textN b :: zipM _ _ ++ _
    rw [this]
    rfl
theorem zipM_le : ∀ (S V : List Num), (zipM S V).length ≤ 2 * S.length
  | [], _ => Nat.zero_le _
  | _ :: _, [] => Nat.zero_le _
  | a :: S, b :: V => by
    show (zipM S V).length + 1 + 1 ≤ _
    have := zipM_le S V
    rw [List.length_cons]
    omega
theorem ok_form (m : Mdl) (h : modelOk m = true) : (m.kind = 115 ∨ m.kind = 100) ∧ m.v.length + 1 = m.g.length ∧ m.g.length ≤ 4 := by
  obtain ⟨nm, k, G, V⟩ := m
  rw [modelOk_eq, Bool.and_eq_true] at h
  have h2 := h.2
  unfold kindM at h2
  by_cases q1 : k = 115
  · rw [if_pos q1, decide_eq_true_eq] at h2
    exact ⟨.inl q1, by show V.length + 1 = G.length; omega, by show G.length ≤ 4; omega⟩
  · rw [if_neg q1] at h2
    by_cases q2 : k = 100
    · rw [if_pos q2, Bool.and_eq_true, decide_eq_true_eq] at h2
      exact ⟨.inr q2, h2.1.2.2, h2.1.2.1⟩
    · rw [if_neg q2] at h2
      cases h2
theorem writeM_ax (m : Mdl) (hn : By m.name ∧ m.name.length ≤ 281474976710656) (hg : m.g.length ≤ 9223372036854775807) (hv : m.v.length ≤ 9223372036854775807) : PCall Tryz.prog 44 [MA m] (PA (writeM m)) := by
  have hva := mvalid_ax m hn hg hv
  unfold writeM
  cases hok : modelOk m with
  | false =>
    rw [hok] at hva
    rw [if_neg Bool.false_ne_true]
    refine pcall_le fun s => ?_
    unfold MA SV NV at *
    refine acall_of Tryz.func44 rfl rfl (by simp [Tryz.ntmps44]) ?_; rw [Tryz.ntmps44, Tryz.results44]
    refine go rTI ?_
    refine aw_reg fun K hK => ?_; refine rn rTI ?_; refine cont_pure hva ?_; refine rn rTI ?_; refine hK _ _ ?_; clear hK K
    refine ifs ?_ ?_ <;> first | exact nope | intro hb
    refine go rTI ?_
    exact ⟨pa_err 50, pa_idf _, fun i hi => if_neg (by omega)⟩
  | true =>
    rw [hok] at hva
    rw [if_pos rfl]
    obtain ⟨hk, hl1, hl2⟩ := ok_form m hok
    obtain ⟨nm, kd, G, V⟩ := m
    simp only at hn hg hv hk hl1 hl2
    match G, hl1 with
    | g0 :: gs, hl1 =>
    rw [List.length_cons] at hl1 hl2
    have hT : modelT ⟨nm, kd, g0 :: gs, V⟩ = sModel :: nm :: [kd.toNat] :: textN g0 :: zipM V gs := rfl
    rw [hT]
    have hp0 := ctext_ax g0
    have f1 : (NC (g0 :: gs)).take 2 = [iv g0.1, iv g0.2] := rfl
    have f2 : 2 ≤ (NC (g0 :: gs)).length := by rw [nc_len, List.length_cons]; omega
    have ht2 : (kd.toNat = 115 ∨ kd.toNat = 100) ∧ isByte (.v (.int .u8 kd)) = true ∧ bs [kd.toNat] = ByteArray.mk #[unbyte (.v (.int .u8 kd))] := by
      rcases hk with rfl | rfl
      · exact ⟨.inl rfl, rfl, rfl⟩
      · exact ⟨.inr rfl, rfl, rfl⟩
    obtain ⟨hk2, ib, ub⟩ := ht2
    refine pcall_own (pa_idf _) fun s => ?_
    unfold MA SV NV NM at *
    unfold iv at f1
    refine acall_of Tryz.func44 rfl rfl (by simp [Tryz.ntmps44]) ?_; rw [Tryz.ntmps44, Tryz.results44]
    refine go rTI ?_
    refine aw_reg fun K hK => ?_; refine rn rTI ?_; refine cont_pure hva ?_; refine rn rTI ?_; refine hK _ _ ?_; clear hK K
    refine ifs ?_ ?_ <;> first | exact nope | intro hb
    refine go rTI ?_
    refine aw_only (fun e' s' => e'.n = 44 ∧ e'.m 1 = .ptr s.nx 0 ∧ ∃ id, e'.m 4 = .own id 0 4 1 ∧ LI s s' [.v (.string (bs nm)), .v (.int .u8 kd), .sl (gs.length + 1) (NC (g0 :: gs)), .sl V.length (NC V)] id [sModel, nm, [kd.toNat], textN g0]) ?_ ?_
    · have hL : LI s (((s.push [.v (.string (bs nm)), .v (.int .u8 kd), .sl (gs.length + 1) (NC (g0 :: gs)), .sl V.length (NC V)]).push [.v (.int .u8 kd)]).push [SV sModel, SV nm, SV [kd.toNat], SV (textN g0)]) [.v (.string (bs nm)), .v (.int .u8 kd), .sl (gs.length + 1) (NC (g0 :: gs)), .sl V.length (NC V)] (s.nx + 1 + 1) [sModel, nm, [kd.toNat], textN g0] := by
        refine ⟨?_, St.push_same _ _, ⟨by omega, Nat.lt_succ_self _⟩, fun k hk => ?_⟩
        · rw [St.push_ne ((s.push _).push _) _ _ (show s.nx ≠ s.nx + 1 + 1 by omega), St.push_ne (s.push _) _ _ (show s.nx ≠ s.nx + 1 by omega)]
          exact St.push_same _ _
        · rw [St.push_ne ((s.push _).push _) _ _ (show k ≠ s.nx + 1 + 1 by omega), St.push_ne (s.push _) _ _ (show k ≠ s.nx + 1 by omega), St.push_ne s _ _ (by omega)]
      unfold SV at hL
      rw [ub] at hL
      refine aw_drw (.take 0 (.take 1 (.take 2 (.take 3 (.take 6 (.take 7 (.take 8 (.take 9 (.two 4 (.two 5 (.one 10 (.one 11 (.take 12 (.done)))) 10 (.one 5 (.one 11 (.take 12 (.done))))) 10 (.one 4 (.one 5 (.one 11 (.take 12 (.done)))))))))))))) [s.nx] (by kernel_rfl) (by kernel_rfl) fun K hK => ?_; refine dr (cj rTI (cj @f1 (cj @f2 @ib))) ?_; refine ⟨⟨cont_pure hp0 ?_, cont_pure hp0 ?_⟩, cont_pure hp0 ?_⟩; all_goals (refine dr (cj rTI (cj @f1 (cj @f2 @ib))) ?_); all_goals (refine hK _ _ ⟨rfl, ?_, ?_, s.nx + 1 + 1, ?_, hL⟩)
      all_goals (exact rn0 rTI)
      all_goals (first | trivial | rfl)
    · clear hva hp0 f1 f2 hok hT ib ub
      generalize [kd.toNat] = kw at *
      rintro e' s' ⟨h1, q1, id, q4, hL⟩
      have gb := hL.b
      refine go (cj rTI (cj @h1 (cj @q1 @gb))) ?_
      refine aw_loop (fun m e2 s2 => ∃ k id, m = V.length - k ∧ k ≤ V.length ∧ e2.n = 44 ∧ e2.m 1 = .ptr s.nx 0 ∧ e2.m 4 = .own id 0 ([sModel, nm, kw, textN g0] ++ zipM (V.take k) (gs.take k)).length 1 ∧ e2.m 23 = .sl V.length (NC V) ∧ e2.m 24 = .v (.int .i64 V.length) ∧ e2.m 25 = .v (.int .i64 (k : Nat)) ∧ LI s s2 [.v (.string (bs nm)), .v (.int .u8 kd), .sl (gs.length + 1) (NC (g0 :: gs)), .sl V.length (NC V)] id ([sModel, nm, kw, textN g0] ++ zipM (V.take k) (gs.take k))) V.length ?_ ?_
      · refine ⟨0, id, by omega, by omega, ?_, ?_, ?_, ?_, ?_, ?_, hL⟩
        all_goals ((first | refine rn (cj rTI (cj @h1 (cj @q1 @q4))) ?_ | exact rn0 (cj rTI (cj @h1 (cj @q1 @q4)))))
        all_goals (first | trivial | rfl)
      · clear h1 q1 q4 hL gb
        rintro m e2 s2 ⟨k, id, rfl, hkk, h1, q1, q4, q23, q24, q25, hL⟩
        have gb := hL.b
        obtain ⟨o1, o2⟩ := hL.o
        by_cases hk2 : k < V.length
        · have f1 := nc_at V k hk2
          have f2 : 2 ≤ ((NC V).drop (k * 2)).length := by rw [List.length_drop, nc_len]; omega
          have f3 := nc_at (g0 :: gs) (k + 1) (by rw [List.length_cons]; omega)
          have f4 : 2 ≤ ((NC (g0 :: gs)).drop ((k + 1) * 2)).length := by rw [List.length_drop, nc_len, List.length_cons]; omega
          rw [List.getD_cons_succ] at f3
          have ht := zipM_take V gs k hk2 (by omega)
          have hp := ctext_ax (V.getD k (0, 0))
          have hp2 := ctext_ax (gs.getD k (0, 0))
          have gl := hL.l
          have ll := sl_len ([sModel, nm, kw, textN g0] ++ zipM (V.take k) (gs.take k))
          have hb0 : ([sModel, nm, kw, textN g0] ++ zipM (V.take k) (gs.take k)).length ≤ 100 := by
            have := zipM_le (V.take k) (gs.take k)
            rw [List.length_take] at this
            rw [List.length_append]
            show 4 + _ ≤ _
            omega
          generalize V.getD k (0, 0) = n1 at *
          generalize gs.getD k (0, 0) = n2 at *
          have hA := hL.app (((s2.push [.v (.int .i64 0), .v (.int .i64 0)]).set s2.nx [.v (.int .i64 n1.1), .v (.int .i64 n1.2)]).push [SV (textN n1), SV (textN n2)]) (by show _ ≤ s2.nx + 1 + 1; omega) (fun k hk => by rw [St.push_ne ((s2.push _).set _ _) _ _ (show k ≠ s2.nx + 1 by omega), St.set_ne _ _ _ _ (by omega), St.push_ne s2 _ _ (by omega)]) [textN n1, textN n2]
          rw [List.append_assoc, ← ht] at hA
          have hln : ([sModel, nm, kw, textN g0] ++ zipM (V.take (k + 1)) (gs.take (k + 1))).length = ([sModel, nm, kw, textN g0] ++ zipM (V.take k) (gs.take k)).length + 2 := by rw [ht, ← List.append_assoc, List.length_append]; rfl
          generalize hL0 : [sModel, nm, kw, textN g0] ++ zipM (V.take k) (gs.take k) = L0 at *
          unfold iv at f1 f3
          unfold NM SV at hp hp2
          unfold SV at hA
          have hk3 : ((k : Int) + 1).toNat = k + 1 := by omega
          refine go (cj rTI (cj @h1 (cj @q24 @q25))) ?_
          refine ifs ?_ ?_ <;> first | exact nope | intro hb
          refine aw_skip ?_
          refine go (cj rTI (cj @h1 (cj @q23 (cj @q25 (cj @f1 @f2))))) ?_
          refine aw_drw (.take 0 (.take 1 (.take 3 (.take 4 (.take 5 (.take 6 (.take 7 (.take 8 (.one 2 (.one 9 (.one 10 (.one 11 (.take 12 (.done)))))))))))))) [s.nx, s2.nx] (by kernel_rfl) (by kernel_rfl) fun K hK => ?_; refine dr (cj rTI (cj @h1 (cj @q1 (cj @q4 (cj @gb (cj @gl (cj @ll (cj @f3 (cj @f4 @hk3))))))))) ?_; refine cont_pure hp ?_; refine dr (cj rTI (cj @h1 (cj @q1 (cj @q4 (cj @gb (cj @gl (cj @ll (cj @f3 (cj @f4 @hk3))))))))) ?_; refine cont_pure hp2 ?_; refine dr (cj rTI (cj @h1 (cj @q1 (cj @q4 (cj @gb (cj @gl (cj @ll (cj @f3 (cj @f4 @hk3))))))))) ?_; refine hK _ _ ?_; clear hK K
          refine go (cj rTI (cj @h1 @q25)) ?_
          simp only [block_normal, loop_normal]
          refine ⟨V.length - (k + 1), by omega, k + 1, s2.nx + 1 + 1, rfl, by omega, ?_, ?_, ?_, ?_, ?_, ?_, hA⟩
          all_goals ((first | refine rn (cj rTI (cj @h1 (cj @q1 (cj @q4 (cj @q23 (cj @q24 @q25)))))) ?_ | exact rn0 (cj rTI (cj @h1 (cj @q1 (cj @q4 (cj @q23 (cj @q24 @q25))))))))
          all_goals (first | rfl | trivial | rw [hln])
        · obtain rfl : k = V.length := by omega
          have hgl : gs.length = V.length := by omega
          rw [List.take_length, ← hgl, List.take_length] at hL q4
          clear hkk hk2 q23
          refine go (cj rTI (cj @h1 (cj @q24 @q25))) ?_
          refine ifs ?_ ?_ <;> first | exact nope | intro hb
          refine go (cj rTI (cj @h1 @q4)) ?_
          refine ⟨id, _, by omega, hL.l, ?_, hL.fr⟩
          show AV.tp [frz id _ (AV.own id 0 _ 1), AV.v (.int .i64 0)] = _
          rw [frz_SL]
          rfl
end Go.Proofs.YtfjelkjlfcafgaaGreatDoor.CardM
end
section
/- The document on models: Valid. -/
namespace Go.Proofs.YtfjelkjlfcafgaaGreatDoor.CardT
open Go Go.RowKit Go.Proofs.YtfjelkjlfcafgaaGreatDoor.Ax Go.Proofs.YtfjelkjlfcafgaaGreatDoor.Ti Go.Proofs.YtfjelkjlfcafgaaGreatDoor.NumS Go.Proofs.YtfjelkjlfcafgaaGreatDoor.NumT Go.Proofs.YtfjelkjlfcafgaaGreatDoor.CardS Go.Proofs.YtfjelkjlfcafgaaGreatDoor.CardP Go.Proofs.YtfjelkjlfcafgaaGreatDoor.CardA Go.Proofs.YtfjelkjlfcafgaaGreatDoor.CardB Go.Proofs.YtfjelkjlfcafgaaGreatDoor.CardC Go.Proofs.YtfjelkjlfcafgaaGreatDoor.CardD Go.Proofs.YtfjelkjlfcafgaaGreatDoor.CardE Go.Proofs.YtfjelkjlfcafgaaGreatDoor.CardF Go.Proofs.YtfjelkjlfcafgaaGreatDoor.CardG Go.Proofs.YtfjelkjlfcafgaaGreatDoor.CardH Go.Proofs.YtfjelkjlfcafgaaGreatDoor.CardL
open Go.Proofs.YtfjelkjlfcafgaaGreatDoor.NumA (NM)
open Go.Proofs.YtfjelkjlfcafgaaGreatDoor.RefK (FA)
set_option linter.unusedSimpArgs false
set_option linter.unusedVariables false
set_option maxRecDepth 4000
set_option maxHeartbeats 2000000
theorem rTI : type_of% (cj @ti3 (cj @ti4 (cj @ti9 (cj @ti5 (cj @ti2 (cj @ti36 (cj @ti63 (cj @ti62 (cj @ti24 (cj @ti82 (cj @Nat.zero_add (cj @tz0 (cj @tz1 (cj @tz3 (cj @Nat.mul_one @Int.toNat_natCast))))))))))))))) := cj @ti3 (cj @ti4 (cj @ti9 (cj @ti5 (cj @ti2 (cj @ti36 (cj @ti63 (cj @ti62 (cj @ti24 (cj @ti82 (cj @Nat.zero_add (cj @tz0 (cj @tz1 (cj @tz3 (cj @Nat.mul_one @Int.toNat_natCast))))))))))))))
theorem aw_gen {P : Program} {code : Code} {m0 : Nat} {e : Env} {s : St} {Q : Exit → Env → St → Prop} (I : St → Prop) (h : I s) (k : ∀ s', I s' → AW P code m0 e s' Q) : AW P code m0 e s Q := k s h
theorem less_calls (a b : Num) (ha : valid a = true) (hb : valid b = true) : ∃ x y z, PCall Tryz.prog 70 [NM a.1 a.2] x ∧ PCall Tryz.prog 70 [NM b.1 b.2] y ∧ PCall Tryz.prog 77 [x, y] (.v (.int .i64 z)) ∧ sLess a b = decide (z < 0) := by
  obtain ⟨m1, m2, k1', k2'⟩ := RefM.validN_m _ _ ha
  obtain ⟨m3, m4, k3', k4'⟩ := RefM.validN_m _ _ hb
  have p2 := RefM.ofN_ax a.1 a.2 (by omega) (by omega) (by omega) (by omega)
  have p3 := RefM.ofN_ax b.1 b.2 (by omega) (by omega) (by omega) (by omega)
  obtain ⟨l1, l2⟩ := RefM.ofN_lz a.1 a.2 (by omega) (by omega) (by omega) (by omega)
  obtain ⟨l3, l4⟩ := RefM.ofN_lz b.1 b.2 (by omega) (by omega) (by omega) (by omega)
  exact ⟨_, _, _, p2, p3, RefK.heldF_ax _ _ _ _ (by omega) (by omega) (by omega) (by omega), rfl⟩
theorem rmvalid_ax (m : Mdl) (hn : By m.name ∧ m.name.length ≤ 281474976710656) (hg : m.g.length ≤ 9223372036854775807) (hv : m.v.length ≤ 9223372036854775806) : PCall Tryz.prog 47 [MA m] (.v (.bool (modelOk m))) := by
  refine pcall_of fun s => ?_
  obtain ⟨nm, kd, G, V⟩ := m
  rw [modelOk_eq]
  simp only at hn hg hv
  have hnm := rname_ax nm hn.1 (by have := hn.2; omega)
  unfold MA NV
  unfold SV at hnm ⊢
  simp only
  cases hc : isName nm with
  | false =>
    rw [hc] at hnm
    rw [Bool.false_and, Bool.false_and, Bool.false_and]
    refine acall_of Tryz.func47 rfl rfl (by simp [Tryz.ntmps47]) ?_; rw [Tryz.ntmps47, Tryz.results47]
    refine go rTI ?_
    refine aw_reg fun K hK => ?_; refine rn rTI ?_; refine cont_pure hnm ?_; refine rn rTI ?_; refine hK _ _ ?_; clear hK K
    refine ifs ?_ ?_ <;> first | exact nope | intro hb
    refine go rTI ?_
    exact fun i hi => if_neg (by omega)
  | true =>
    rw [hc] at hnm
    rw [Bool.true_and]
    refine acall_of Tryz.func47 rfl rfl (by simp [Tryz.ntmps47]) ?_; rw [Tryz.ntmps47, Tryz.results47]
    refine go rTI ?_
    refine aw_reg fun K hK => ?_; refine rn rTI ?_; refine cont_pure hnm ?_; refine rn rTI ?_; refine hK _ _ ?_; clear hK K
    refine ifs ?_ ?_ <;> first | exact nope | intro hb
    refine go rTI ?_
    refine aw_gen (fun x => x.get s.nx = some [.v (.string (bs nm)), .v (.int .u8 kd), .sl G.length (NC G), .sl V.length (NC V)] ∧ (∀ i, i < s.nx → x.get i = s.get i)) ⟨St.push_same _ _, fun i hi => St.push_ne s _ _ (by omega)⟩ fun s1 hs1 => ?_
    obtain ⟨gb, fr⟩ := hs1
    refine aw_loop (fun m e s' => ∃ k, m = G.length - k ∧ k ≤ G.length ∧ e.n = 99 ∧ e.m 1 = .ptr s.nx 0 ∧ e.m 3 = .v (.int .i64 (k : Nat)) ∧ (G.take k).all valid = true ∧ s' = s1) G.length ?_ ?_
    · refine ⟨0, by omega, by omega, ?_, ?_, ?_, rfl, rfl⟩
      all_goals ((first | refine rn rTI ?_ | exact rn0 rTI))
      all_goals (first | rfl | trivial)
    · rintro m e s' ⟨k, rfl, hk, h1, k1, k3, ha, rfl⟩
      by_cases hk2 : k < G.length
      · have f1 := nc_at G k hk2
        have f2 : 2 ≤ ((NC G).drop (k * 2)).length := by rw [List.length_drop, nc_len]; omega
        have hp : PCall Tryz.prog 16 [NM (G.getD k (0, 0)).1 (G.getD k (0, 0)).2] (.v (.bool (valid (G.getD k (0, 0))))) := RefM.valid_ax _ _
        have ht := take_all valid G (0, 0) k hk2 ha
        have hf := all_not valid G (0, 0) k hk2
        unfold iv at f1
        unfold NM at hp
        generalize G.getD k (0, 0) = n at *
        refine go (cj rTI (cj @h1 (cj @k1 (cj @k3 @gb)))) ?_
        refine ifs ?_ ?_ <;> first | exact nope | intro hb
        refine aw_skip ?_
        refine go rTI ?_
        refine aw_reg fun K hK => ?_; refine rn (cj rTI (cj @h1 (cj @k1 (cj @k3 (cj @gb (cj @f1 @f2)))))) ?_; refine cont_pure hp ?_; refine rn (cj rTI (cj @h1 (cj @k1 (cj @k3 (cj @gb (cj @f1 @f2)))))) ?_; refine hK _ _ ?_; clear hK K
        cases hc : valid n with
        | false =>
          rw [hf hc, Bool.false_and, Bool.false_and]
          refine ifs ?_ ?_ <;> first | exact nope | intro hb
          refine go (cj rTI @h1) ?_
          exact fr
        | true =>
          rw [hc] at ht
          refine ifs ?_ ?_ <;> first | exact nope | intro hb
          refine go (cj rTI (cj @h1 @k3)) ?_
          simp only [block_normal, loop_normal]
          refine ⟨G.length - (k + 1), by omega, k + 1, rfl, by omega, ?_, ?_, ?_, ht, trivial⟩
          all_goals ((first | refine rn (cj rTI (cj @h1 (cj @k1 @k3))) ?_ | exact rn0 (cj rTI (cj @h1 (cj @k1 @k3)))))
          all_goals (first | rfl | trivial)
      · obtain rfl : k = G.length := by omega
        rw [List.take_length] at ha
        rw [ha, Bool.true_and]
        clear ha hk hk2
        refine go (cj rTI (cj @h1 (cj @k1 (cj @k3 @gb)))) ?_
        refine ifs ?_ ?_ <;> first | exact nope | intro hb
        refine go (cj rTI (cj @h1 @k1)) ?_
        refine aw_loop (fun m e2 s2 => ∃ k, m = V.length - k ∧ k ≤ V.length ∧ e2.n = 99 ∧ e2.m 1 = .ptr s.nx 0 ∧ e2.m 4 = .v (.int .i64 (k : Nat)) ∧ (V.take k).all valid = true ∧ (kd = 100 → ∀ i, i + 1 < k → sLess (V.getD i (0, 0)) (V.getD (i + 1) (0, 0)) = true) ∧ s2 = s') V.length ?_ ?_
        · refine ⟨0, by omega, by omega, ?_, ?_, ?_, rfl, fun _ i hi => by omega, rfl⟩
          all_goals ((first | refine rn (cj rTI (cj @h1 @k1)) ?_ | exact rn0 (cj rTI (cj @h1 @k1))))
          all_goals (first | rfl | trivial)
        · clear h1 k1 k3
          rintro m e2 s2 ⟨k, rfl, hk, h1, k1, k4, ha, hr, rfl⟩
          by_cases hk2 : k < V.length
          · have f1 := nc_at V k hk2
            have f2 : 2 ≤ ((NC V).drop (k * 2)).length := by rw [List.length_drop, nc_len]; omega
            have hp : PCall Tryz.prog 16 [NM (V.getD k (0, 0)).1 (V.getD k (0, 0)).2] (.v (.bool (valid (V.getD k (0, 0))))) := RefM.valid_ax _ _
            have ht := take_all valid V (0, 0) k hk2 ha
            have hf := all_not valid V (0, 0) k hk2
            unfold iv at f1
            unfold NM at hp
            refine go (cj rTI (cj @h1 (cj @k1 (cj @k4 @gb)))) ?_
            refine ifs ?_ ?_ <;> first | exact nope | intro hb
            refine aw_skip ?_
            refine go rTI ?_
            refine aw_reg fun K hK => ?_; refine rn (cj rTI (cj @h1 (cj @k1 (cj @k4 (cj @gb (cj @f1 @f2)))))) ?_; refine cont_pure hp ?_; refine rn (cj rTI (cj @h1 (cj @k1 (cj @k4 (cj @gb (cj @f1 @f2)))))) ?_; refine hK _ _ ?_; clear hK K
            cases hc : valid (V.getD k (0, 0)) with
            | false =>
              rw [hf hc, Bool.false_and]
              refine ifs ?_ ?_ <;> first | exact nope | intro hb
              refine go (cj rTI @h1) ?_
              exact fr
            | true =>
              rw [hc] at ht
              refine ifs ?_ ?_ <;> first | exact nope | intro hb
              refine go (cj rTI @h1) ?_
              by_cases q1 : kd = 100
              · subst q1
                by_cases q2 : 0 < k
                · have f3 := nc_at V (k - 1) (by omega)
                  have f4 : 2 ≤ ((NC V).drop ((k - 1) * 2)).length := by rw [List.length_drop, nc_len]; omega
                  have hva : valid (V.getD (k - 1) (0, 0)) = true := by
                    rw [List.getD_eq_getElem?_getD, List.getElem?_eq_getElem (show k - 1 < V.length by omega)]
                    refine List.all_eq_true.1 ha _ ?_
                    have : (V.take k)[k - 1]? = some V[k - 1] := by rw [List.getElem?_take, if_pos (by omega), List.getElem?_eq_getElem]
                    exact List.mem_of_getElem? this
                  obtain ⟨x, y, z, p1, p2, p3, hz⟩ := less_calls (V.getD (k - 1) (0, 0)) (V.getD k (0, 0)) hva hc
                  have hnr := risingN_not V (k - 1) (by omega)
                  rw [show k - 1 + 1 = k by omega, hz] at hnr
                  have hpr : z < 0 → ((100 : Int) = 100 → ∀ i, i + 1 < k + 1 → sLess (V.getD i (0, 0)) (V.getD (i + 1) (0, 0)) = true) := fun h _ i hi => by
                    by_cases q : i = k - 1
                    · subst q
                      rw [show k - 1 + 1 = k by omega, hz]
                      exact decide_eq_true h
                    · exact hr rfl i (by omega)
                  have hj3 : (k : Int) - 1 = ((k - 1 : Nat) : Int) := by omega
                  unfold NM at p1 p2
                  unfold iv at f3
                  clear hp hf hr hz hva
                  refine aw_drw (.take 0 (.take 1 (.take 2 (.take 3 (.take 4 (.take 5 (.take 6 (.take 7 (.take 8 (.take 9 (.take 10 (.take 11 (.take 12 (.take 13 (.take 15 (.take 16 (.take 17 (.take 18 (.take 19 (.one 14 (.one 20 (.one 21 (.take 22 (.take 23 (.done))))))))))))))))))))))))) [s.nx] (by kernel_rfl) (by kernel_rfl) fun K hK => ?_; refine dr (cj rTI (cj @h1 (cj @k1 (cj @k4 (cj @gb (cj @f1 (cj @f2 (cj @f3 (cj @f4 @hj3))))))))) ?_; refine cont_pure p1 ?_; refine dr (cj rTI (cj @h1 (cj @k1 (cj @k4 (cj @gb (cj @f1 (cj @f2 (cj @f3 (cj @f4 @hj3))))))))) ?_; refine cont_pure p2 ?_; refine dr (cj rTI (cj @h1 (cj @k1 (cj @k4 (cj @gb (cj @f1 (cj @f2 (cj @f3 (cj @f4 @hj3))))))))) ?_; refine cont_pure p3 ?_; refine dr (cj rTI (cj @h1 (cj @k1 (cj @k4 (cj @gb (cj @f1 (cj @f2 (cj @f3 (cj @f4 @hj3))))))))) ?_; refine hK _ _ ?_; clear hK K
                  by_cases c : z < 0
                  · rw [then_normal]
                    refine ifs ?_ ?_ <;> first | exact nope | intro hb
                    refine go (cj rTI (cj @h1 @k4)) ?_
                    simp only [block_normal, loop_normal]
                    refine ⟨V.length - (k + 1), by omega, k + 1, rfl, by omega, ?_, ?_, ?_, ht, hpr c rfl, trivial⟩
                    all_goals ((first | refine rn (cj rTI (cj @h1 (cj @k1 @k4))) ?_ | exact rn0 (cj rTI (cj @h1 (cj @k1 @k4)))))
                    all_goals (first | rfl | trivial)
                  · rw [then_normal]
                    refine ifs ?_ ?_ <;> first | exact nope | intro hb
                    have hkm : kindM 100 G V = false := by
                      unfold kindM
                      rw [if_neg (by decide), if_pos rfl, hnr (decide_eq_false c), Bool.and_false]
                    rw [hkm, Bool.and_false]
                    refine go (cj rTI @h1) ?_
                    exact fr
                · have q3 : (k : Int) = 0 := by omega
                  refine aw_drw (.take 0 (.take 1 (.take 2 (.take 3 (.take 4 (.take 5 (.take 6 (.take 7 (.take 8 (.take 9 (.take 10 (.take 11 (.take 12 (.take 13 (.take 15 (.take 16 (.take 17 (.take 18 (.take 19 (.one 14 (.one 20 (.one 21 (.take 22 (.take 23 (.done))))))))))))))))))))))))) [s.nx] (by kernel_rfl) (by kernel_rfl) fun K hK => ?_; refine dr (cj rTI (cj @h1 (cj @k1 (cj @k4 @gb)))) ?_; refine hK _ _ ?_; clear hK K
                  rw [then_normal]
                  refine ifs ?_ ?_ <;> first | exact nope | intro hb
                  refine go (cj rTI (cj @h1 @k4)) ?_
                  simp only [block_normal, loop_normal]
                  refine ⟨V.length - (k + 1), by omega, k + 1, rfl, by omega, ?_, ?_, ?_, ht, fun i hi => by omega, trivial⟩
                  all_goals ((first | refine rn (cj rTI (cj @h1 (cj @k1 @k4))) ?_ | exact rn0 (cj rTI (cj @h1 (cj @k1 @k4)))))
                  all_goals (first | rfl | trivial)
              · refine aw_drw (.take 0 (.take 1 (.take 2 (.take 3 (.take 4 (.take 5 (.take 6 (.take 7 (.take 8 (.take 9 (.take 10 (.take 11 (.take 12 (.take 13 (.take 15 (.take 16 (.take 17 (.take 18 (.take 19 (.one 14 (.one 20 (.one 21 (.take 22 (.take 23 (.done))))))))))))))))))))))))) [s.nx] (by kernel_rfl) (by kernel_rfl) fun K hK => ?_; refine dr (cj rTI (cj @h1 (cj @k1 (cj @k4 (cj @gb @q1))))) ?_; refine hK _ _ ?_; clear hK K
                rw [then_normal]
                refine ifs ?_ ?_ <;> first | exact nope | intro hb
                refine go (cj rTI (cj @h1 @k4)) ?_
                simp only [block_normal, loop_normal]
                refine ⟨V.length - (k + 1), by omega, k + 1, rfl, by omega, ?_, ?_, ?_, ht, fun h => absurd h q1, trivial⟩
                all_goals ((first | refine rn (cj rTI (cj @h1 (cj @k1 @k4))) ?_ | exact rn0 (cj rTI (cj @h1 (cj @k1 @k4)))))
                all_goals (first | rfl | trivial)
          · obtain rfl : k = V.length := by omega
            rw [List.take_length] at ha
            rw [ha, Bool.true_and]
            unfold kindM
            by_cases q1 : kd = 115
            · rw [if_pos q1]
              subst q1
              rw [show decide (G.length = 2 ∧ V.length = 1) = (decide (G.length = 2) && decide (V.length = 1)) by rw [Bool.decide_and]]
              refine go (cj rTI (cj @h1 (cj @k1 (cj @k4 @gb)))) ?_
              refine ifs ?_ ?_ <;> first | exact nope | intro hb
              refine go (cj rTI (cj @h1 (cj @k1 @gb))) ?_
              refine ifs ?_ ?_ <;> first | exact nope | intro hb
              by_cases c1 : G.length = 2
              · by_cases c2 : V.length = 1
                · rw [decide_eq_true c1, decide_eq_true c2]
                  refine go (cj rTI (cj @h1 (cj @k1 @gb))) ?_
                  exact fr
                · rw [decide_eq_true c1, decide_eq_false c2]
                  refine go (cj rTI (cj @h1 (cj @k1 @gb))) ?_
                  exact fr
              · rw [decide_eq_false c1, Bool.false_and]
                refine go (cj rTI (cj @h1 (cj @k1 @gb))) ?_
                exact fr
            rw [if_neg q1]
            by_cases q2 : kd = 100
            · rw [if_pos q2]
              have hR : risingN V = true := risingN_of V fun i hi => hr q2 i hi
              rw [hR, Bool.and_true]
              subst q2
              rcases (by omega : G.length < 1 ∨ (1 ≤ G.length ∧ 4 < G.length) ∨ (1 ≤ G.length ∧ G.length ≤ 4 ∧ ¬ V.length + 1 = G.length) ∨ (1 ≤ G.length ∧ G.length ≤ 4 ∧ V.length + 1 = G.length)) with c | ⟨c1, c2⟩ | ⟨c1, c2, c3⟩ | ⟨c1, c2, c3⟩
              · rw [decide_eq_false (fun h => by omega)]
                refine go (cj rTI (cj @h1 (cj @k1 (cj @k4 @gb)))) ?_
                refine ifs ?_ ?_ <;> first | exact nope | intro hb
                refine go (cj rTI (cj @h1 (cj @k1 @gb))) ?_
                refine ifs ?_ ?_ <;> first | exact nope | intro hb
                refine go (cj rTI (cj @h1 (cj @k1 @gb))) ?_
                exact fr
              · rw [decide_eq_false (fun h => by omega)]
                refine go (cj rTI (cj @h1 (cj @k1 (cj @k4 @gb)))) ?_
                refine ifs ?_ ?_ <;> first | exact nope | intro hb
                refine go (cj rTI (cj @h1 (cj @k1 @gb))) ?_
                refine ifs ?_ ?_ <;> first | exact nope | intro hb
                refine go (cj rTI (cj @h1 (cj @k1 @gb))) ?_
                exact fr
              · rw [decide_eq_false (fun h => by omega)]
                refine go (cj rTI (cj @h1 (cj @k1 (cj @k4 @gb)))) ?_
                refine ifs ?_ ?_ <;> first | exact nope | intro hb
                refine go (cj rTI (cj @h1 (cj @k1 @gb))) ?_
                refine ifs ?_ ?_ <;> first | exact nope | intro hb
                refine go (cj rTI (cj @h1 (cj @k1 @gb))) ?_
                exact fr
              · rw [decide_eq_true ⟨c1, c2, c3⟩]
                refine go (cj rTI (cj @h1 (cj @k1 (cj @k4 @gb)))) ?_
                refine ifs ?_ ?_ <;> first | exact nope | intro hb
                refine go (cj rTI (cj @h1 (cj @k1 @gb))) ?_
                refine ifs ?_ ?_ <;> first | exact nope | intro hb
                refine go (cj rTI (cj @h1 (cj @k1 @gb))) ?_
                exact fr
            · rw [if_neg q2]
              refine go (cj rTI (cj @h1 (cj @k1 (cj @k4 @gb)))) ?_
              refine ifs ?_ ?_ <;> first | exact nope | intro hb
              refine go (cj rTI (cj @h1 (cj @k1 @gb))) ?_
              refine ifs ?_ ?_ <;> first | exact nope | intro hb
              refine go (cj rTI (cj @h1 (cj @k1 @gb))) ?_
              exact fr
end Go.Proofs.YtfjelkjlfcafgaaGreatDoor.CardT
end
