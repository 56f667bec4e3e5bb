/- A part of the proof. -/
import Derived.Test.YtfjelkjlfcafgaaGreatDoorPNumB
section
/- Package big: whole numbers in boxes: sum, Add, QuoRem, Quo. -/
namespace Go.Proofs.YtfjelkjlfcafgaaGreatDoor.BigJ
open Go Go.RowKit Go.Proofs.YtfjelkjlfcafgaaGreatDoor.Ax Go.Proofs.YtfjelkjlfcafgaaGreatDoor.Ti Go.Proofs.YtfjelkjlfcafgaaGreatDoor.BigM Go.Proofs.YtfjelkjlfcafgaaGreatDoor.BigN Go.Proofs.YtfjelkjlfcafgaaGreatDoor.BigA Go.Proofs.YtfjelkjlfcafgaaGreatDoor.BigB Go.Proofs.YtfjelkjlfcafgaaGreatDoor.BigL Go.Proofs.YtfjelkjlfcafgaaGreatDoor.BigF Go.Proofs.YtfjelkjlfcafgaaGreatDoor.BigI
set_option linter.unusedSimpArgs false
set_option linter.unusedVariables false
set_option maxRecDepth 4000
set_option maxHeartbeats 2000000
theorem rTI : type_of% (cj @ti41 (cj @ti35 (cj @ti165 (cj @ti198 (cj @ti3 (cj @ti4 @ti176)))))) := cj @ti41 (cj @ti35 (cj @ti165 (cj @ti198 (cj @ti3 (cj @ti4 @ti176)))))

theorem sg_add (X : Int) (b : Bool) (n : Nat) : (ng X = b → sg (ng X) (X.natAbs + n) = X + sg b n) ∧ (ng X ≠ b → n ≤ X.natAbs → sg (ng X) (X.natAbs - n) = X + sg b n) ∧ (ng X ≠ b → X.natAbs < n → sg b (n - X.natAbs) = X + sg b n) := by
  unfold sg
  by_cases h : X < 0
  · have e : ng X = true := decide_eq_true h
    rw [e]
    cases b <;> simp <;> omega
  · have e : ng X = false := decide_eq_false h
    rw [e]
    cases b <;> simp <;> omega
theorem WD_eq (n : Nat) : AV.sl (lw n) (WL (digs W n)) = WN (digs W n) := rfl
theorem cmpN_ge (m n : Nat) : 0 ≤ cmpN m n ↔ n ≤ m := by unfold cmpN; split <;> (try split) <;> omega
theorem sum_ax (s : St) (zid ix ox : Nat) (X : Int) (b : Bool) (n : Nat) (hz : Dst s zid) (hx : RdP s ix ox X) (hl : lw X.natAbs ≤ 1000000000000) (hln : lw n ≤ 1000000000000) :
    ACall Tryz.prog 193 [.ptr zid 0, .ptr ix ox, .v (.bool b), WN (digs W n)] s fun r s' => r = .ptr zid 0 ∧ Upd s s' zid (X + sg b n) := by
  obtain ⟨lt, c, g, a0, a1⟩ := hx
  obtain ⟨q1, q2, q3⟩ := sg_add X b n
  have n1 : (digs W X.natAbs).length = lw X.natAbs := rfl
  have n2 : (digs W n).length = lw n := rfl
  have p1 := lw_pow X.natAbs
  have p2 := lw_pow n
  refine acall_of Tryz.func193 rfl rfl (by simp [Tryz.ntmps193]) ?_; rw [Tryz.ntmps193, Tryz.results193]
  have hb : ∀ u v : Bool, (u = v → (u == v) = true) ∧ (u ≠ v → (u == v) = false) := by decide
  by_cases e : ng X = b
  · have hbe := (hb _ _).1 e
    have ha := add_ax (digs W X.natAbs) (digs W n) (by omega) (by omega) (digs_lt W hW _) (digs_lt W hW _)
    have hv : val W (padd W (max (lw X.natAbs) (lw n) + 1) (X.natAbs + n)) = X.natAbs + n := by
      refine val_padd hW0 _ _ ?_
      have h1 : W ^ lw X.natAbs ≤ W ^ max (lw X.natAbs) (lw n) := Nat.pow_le_pow_right hW0 (Nat.le_max_left _ _)
      have h2 : W ^ lw n ≤ W ^ max (lw X.natAbs) (lw n) := Nat.pow_le_pow_right hW0 (Nat.le_max_right _ _)
      have h3 : W ^ max (lw X.natAbs) (lw n) * 2 ≤ W ^ max (lw X.natAbs) (lw n) * W := Nat.mul_le_mul_left _ (by decide)
      rw [Nat.pow_succ]
      omega
    rw [val_digs W hW, val_digs W hW, n1, n2] at ha
    have hs := set_ax s zid (ng X) _ hz (by rw [padd_len]; omega) (padd_lt hW0 (max (lw X.natAbs) (lw n) + 1) (X.natAbs + n))
    rw [hv, q1 e] at hs
    (first | refine go (cj rTI (cj @wl_idf (cj @wl_one (cj @g (cj @a0 (cj @hbe @Nat.add_zero)))))) ?_ | exact go0 (cj rTI (cj @wl_idf (cj @wl_one (cj @g (cj @a0 (cj @hbe @Nat.add_zero)))))))
    (try rw [then_normal]); (try refine aw_seq ?_); refine aw_cond rfl ?_ ?_ <;> intro hb <;> (try (cases hb; done)) <;> (try simp only [bq] at hb) <;> (try (exfalso; omega))
    refine aw_seq ?_
    refine aw_drwR (.take 0 (.take 1 (.take 2 (.take 3 (.take 4 (.take 5 (.take 6 (.take 7 (.take 8 (.take 9 (.one 10 (.done)))))))))))) 11 [12] [ix] (by kernel_rfl) (by kernel_rfl) fun K hK => ?_; refine dt (cj rTI (cj @wl_idf (cj @wl_one (cj @g (cj @a0 (cj @a1 (cj @WD_eq @Nat.add_zero))))))) ?_; refine cont_pure ha ?_; refine dt (cj rTI (cj @wl_idf (cj @wl_one (cj @g (cj @a0 (cj @a1 (cj @WD_eq @Nat.add_zero))))))) ?_; refine cont_go hs ?_; rintro _ s1 ⟨rfl, hu⟩; refine dt (cj rTI (cj @wl_idf (cj @wl_one (cj @g (cj @a0 (cj @a1 (cj @WD_eq @Nat.add_zero))))))) ?_; refine hK _ _ ?_; clear hK K
    (first | refine go (cj rTI (cj @wl_idf @wl_one)) ?_ | exact go0 (cj rTI (cj @wl_idf @wl_one)))
    exact hu
  · have hbe := (hb _ _).2 e
    have hc := cmp_ax X.natAbs n (by omega) (by omega)
    have hg := cmpN_ge X.natAbs n
    have hcb : -1 ≤ cmpN X.natAbs n ∧ cmpN X.natAbs n ≤ 1 := by unfold cmpN; split <;> (try split) <;> omega
    generalize cmpN X.natAbs n = k at *
    (first | refine go (cj rTI (cj @wl_idf (cj @wl_one (cj @g (cj @a0 (cj @hbe @Nat.add_zero)))))) ?_ | exact go0 (cj rTI (cj @wl_idf (cj @wl_one (cj @g (cj @a0 (cj @hbe @Nat.add_zero)))))))
    rw [then_normal]
    (try rw [then_normal]); (try refine aw_seq ?_); refine aw_cond rfl ?_ ?_ <;> intro hb <;> (try (cases hb; done)) <;> (try simp only [bq] at hb) <;> (try (exfalso; omega))
    (first | refine go trivial ?_ | exact go0 trivial)
    by_cases q : n ≤ X.natAbs
    · have ha := sub_ax (digs W X.natAbs) (digs W n) (by omega) (lw_mono q) (digs_lt W hW _) (digs_lt W hW _) (by rw [val_digs W hW, val_digs W hW]; exact q)
      rw [val_digs W hW, val_digs W hW, n1] at ha
      have hs := set_ax s zid (ng X) _ hz (by rw [padd_len]; omega) (padd_lt hW0 (lw X.natAbs) (X.natAbs - n))
      rw [val_padd hW0 _ _ (by omega), q2 e q] at hs
      have hk := hg.2 q
      refine aw_reg fun K hK => ?_; refine rn (cj rTI (cj @wl_idf (cj @wl_one (cj @g (cj @a1 @WD_eq))))) ?_; refine cont_pure hc ?_; refine rn (cj rTI (cj @wl_idf (cj @wl_one (cj @g (cj @a1 @WD_eq))))) ?_; refine hK _ _ ?_; clear hK K
      rw [then_normal]
      (try rw [then_normal]); (try refine aw_seq ?_); refine aw_cond rfl ?_ ?_ <;> intro hb <;> (try (cases hb; done)) <;> (try simp only [bq] at hb) <;> (try (exfalso; omega))
      refine aw_seq ?_
      refine aw_drwR (.take 0 (.take 1 (.take 2 (.take 3 (.take 4 (.take 5 (.take 6 (.take 7 (.take 8 (.take 9 (.one 10 (.done)))))))))))) 11 [12] [ix] (by kernel_rfl) (by kernel_rfl) fun K hK => ?_; refine dt (cj rTI (cj @wl_idf (cj @wl_one (cj @g (cj @a0 (cj @a1 (cj @WD_eq @Nat.add_zero))))))) ?_; refine cont_pure ha ?_; refine dt (cj rTI (cj @wl_idf (cj @wl_one (cj @g (cj @a0 (cj @a1 (cj @WD_eq @Nat.add_zero))))))) ?_; refine cont_go hs ?_; rintro _ s1 ⟨rfl, hu⟩; refine dt (cj rTI (cj @wl_idf (cj @wl_one (cj @g (cj @a0 (cj @a1 (cj @WD_eq @Nat.add_zero))))))) ?_; refine hK _ _ ?_; clear hK K
      (first | refine go (cj rTI (cj @wl_idf @wl_one)) ?_ | exact go0 (cj rTI (cj @wl_idf @wl_one)))
      exact hu
    · have ha := sub_ax (digs W n) (digs W X.natAbs) (by omega) (lw_mono (by omega)) (digs_lt W hW _) (digs_lt W hW _) (by rw [val_digs W hW, val_digs W hW]; omega)
      rw [val_digs W hW, val_digs W hW, n2] at ha
      have hs := set_ax s zid b _ hz (by rw [padd_len]; omega) (padd_lt hW0 (lw n) (n - X.natAbs))
      rw [val_padd hW0 _ _ (by omega), q3 e (by omega)] at hs
      have hk : ¬ 0 ≤ k := fun h => q (hg.1 h)
      refine aw_reg fun K hK => ?_; refine rn (cj rTI (cj @wl_idf (cj @wl_one (cj @g (cj @a1 @WD_eq))))) ?_; refine cont_pure hc ?_; refine rn (cj rTI (cj @wl_idf (cj @wl_one (cj @g (cj @a1 @WD_eq))))) ?_; refine hK _ _ ?_; clear hK K
      rw [then_normal]
      (try rw [then_normal]); (try refine aw_seq ?_); refine aw_cond rfl ?_ ?_ <;> intro hb <;> (try (cases hb; done)) <;> (try simp only [bq] at hb) <;> (try (exfalso; omega))
      (first | refine go trivial ?_ | exact go0 trivial)
      refine aw_reg fun K hK => ?_; refine rn (cj rTI (cj @wl_idf (cj @wl_one (cj @g (cj @a1 @WD_eq))))) ?_; refine cont_pure ha ?_; (first | refine rn (cj rTI (cj @wl_idf @wl_one)) ?_ | exact rn0 (cj rTI (cj @wl_idf @wl_one))); refine cont_go hs ?_; rintro _ s1 ⟨rfl, hu⟩; refine rn (cj rTI (cj @wl_idf (cj @wl_one (cj @g (cj @a1 @WD_eq))))) ?_; refine hK _ _ ?_; clear hK K
      (first | refine go (cj rTI (cj @wl_idf @wl_one)) ?_ | exact go0 (cj rTI (cj @wl_idf @wl_one)))
      exact hu
theorem addI_ax (s : St) (zid ix ox iy oy : Nat) (X Y : Int) (hz : Dst s zid) (hx : RdP s ix ox X) (hy : RdP s iy oy Y) (hl : lw X.natAbs ≤ 1000000000000) (hln : lw Y.natAbs ≤ 1000000000000) :
    ACall Tryz.prog 174 [.ptr zid 0, .ptr ix ox, .ptr iy oy] s fun r s' => r = .ptr zid 0 ∧ Upd s s' zid (X + Y) := by
  have hs := sum_ax s zid ix ox X (ng Y) Y.natAbs hz hx hl hln
  rw [sg_self] at hs
  obtain ⟨lt, c, g, a0, a1⟩ := hy
  refine acall_of Tryz.func174 rfl rfl (by simp [Tryz.ntmps174]) ?_; rw [Tryz.ntmps174, Tryz.results174]
  (first | refine go trivial ?_ | exact go0 trivial)
  refine aw_drwR (.take 0 (.take 1 (.take 2 (.take 3 (.take 4 (.take 5 (.take 6 (.take 7 (.take 8 (.take 9 (.done))))))))))) 10 [11] [iy] (by kernel_rfl) (by kernel_rfl) fun K hK => ?_; refine dt (cj rTI (cj @wl_idf (cj @wl_one (cj @g (cj @a0 (cj @a1 (cj @WD_eq @Nat.add_zero))))))) ?_; refine cont_go hs ?_; rintro _ s1 ⟨rfl, hu⟩; refine dt (cj rTI (cj @wl_idf (cj @wl_one (cj @g (cj @a0 (cj @a1 (cj @WD_eq @Nat.add_zero))))))) ?_; refine hK _ _ ?_; clear hK K
  (first | refine go (cj rTI (cj @wl_idf @wl_one)) ?_ | exact go0 (cj rTI (cj @wl_idf @wl_one)))
  exact hu
theorem sg_tdiv (a b : Bool) (m n : Nat) : (sg a m).tdiv (sg b n) = sg (a != b) (m / n) := by
  cases a <;> cases b <;> simp [sg, Int.neg_tdiv, Int.tdiv_neg, Int.ofNat_tdiv]
theorem sg_tmod (a b : Bool) (m n : Nat) : (sg a m).tmod (sg b n) = sg a (m % n) := by
  cases a <;> cases b <;> simp only [sg, if_true, if_false, Bool.false_eq_true, Int.neg_tmod, Int.tmod_neg, Int.ofNat_tmod]
theorem sg_quo (X Y : Int) : sg (ng X != ng Y) (X.natAbs / Y.natAbs) = X.tdiv Y := by rw [← sg_tdiv, sg_self, sg_self]
theorem sg_rem (X Y : Int) : sg (ng X) (X.natAbs % Y.natAbs) = X.tmod Y := by rw [← sg_tmod _ (ng Y), sg_self, sg_self]
theorem dst_mono {s s' : St} {id : Nat} (h : Dst s id) (hn : s.nx ≤ s'.nx) (hg : s'.get id = s.get id) : Dst s' id := ⟨Nat.lt_of_lt_of_le h.lt hn, by rw [hg]; exact h.rd⟩
theorem quoRem_ax (s : St) (zid ix ox iy oy rid : Nat) (X Y : Int) (hz : Dst s zid) (hx : RdP s ix ox X) (hy : RdP s iy oy Y) (hr : Dst s rid) (hzr : zid ≠ rid) (h0 : Y ≠ 0) (hl : lw X.natAbs ≤ 1000000000000) (hln : lw Y.natAbs ≤ 1000000000000) :
    ACall Tryz.prog 172 [.ptr zid 0, .ptr ix ox, .ptr iy oy, .ptr rid 0] s fun r s' => r = .tp [.ptr zid 0, .ptr rid 0] ∧ s.nx ≤ s'.nx ∧ s'.get zid = some (IC (X.tdiv Y)) ∧ s'.get rid = some (IC (X.tmod Y)) ∧ ∀ i, i < s.nx → i ≠ zid → i ≠ rid → s'.get i = s.get i := by
  obtain ⟨lt, c, g, a0, a1⟩ := hx
  obtain ⟨lt2, c2, g2, b0, b1⟩ := hy
  have hd := divide_ax X.natAbs Y.natAbs (by omega) hl hln
  obtain ⟨d1, d2, d3⟩ := divQ_spec X.natAbs Y.natAbs (by omega)
  obtain ⟨d4, d5, d6⟩ := divR_spec X.natAbs Y.natAbs (by omega)
  have vq : val W (divQ X.natAbs Y.natAbs) = X.natAbs / Y.natAbs := by rw [← val_trimZ, d1, val_digs W hW]
  have vr : val W (divR X.natAbs Y.natAbs) = X.natAbs % Y.natAbs := by rw [← val_trimZ, d4, val_digs W hW]
  have hs1 := set_ax s rid (ng X) _ hr (by omega) d5
  rw [vr, sg_rem] at hs1
  have n1 : (digs W X.natAbs).length = lw X.natAbs := rfl
  have n2 : (digs W Y.natAbs).length = lw Y.natAbs := rfl
  unfold WD at hd
  have sq := sg_quo X Y
  generalize divQ X.natAbs Y.natAbs = qs at *
  generalize divR X.natAbs Y.natAbs = rs at *
  generalize ng X = nX at *
  generalize ng Y = nY at *
  refine acall_of Tryz.func172 rfl rfl (by simp [Tryz.ntmps172]) ?_; rw [Tryz.ntmps172, Tryz.results172]
  (first | refine go trivial ?_ | exact go0 trivial)
  refine aw_drw (.take 0 (.take 1 (.take 2 (.take 3 (.take 4 (.take 5 (.take 6 (.take 7 (.one 8 (.take 9 (.take 10 (.take 11 (.take 12 (.take 13 (.done))))))))))))))) [ix, iy] (by kernel_rfl) (by kernel_rfl) fun K hK => ?_; refine dr (cj rTI (cj @wl_idf (cj @wl_one (cj @g (cj @g2 (cj @a1 (cj @b1 @WD_eq))))))) ?_; refine cont_pure hd ?_; refine dr (cj rTI (cj @wl_idf (cj @wl_one (cj @g (cj @g2 (cj @a1 (cj @b1 @WD_eq))))))) ?_; refine hK _ _ ?_; clear hK K
  rw [then_normal]
  refine aw_seq ?_
  refine aw_drw (.take 0 (.take 1 (.take 2 (.take 3 (.take 4 (.take 5 (.take 6 (.take 7 (.take 8 (.take 9 (.done))))))))))) [ix, iy] (by kernel_rfl) (by kernel_rfl) fun K hK => ?_; refine dr (cj rTI (cj @wl_idf (cj @wl_one (cj @g (cj @g2 (cj @a0 (cj @b0 @Nat.add_zero))))))) ?_; refine hK _ _ ?_; clear hK K
  rw [then_normal]
  refine aw_seq ?_
  refine aw_reg fun K hK => ?_; refine rn (cj rTI (cj @wl_idf (cj @wl_one (cj @g (cj @a0 @Nat.add_zero))))) ?_; refine cont_go hs1 ?_; rintro _ s1 ⟨rfl, hu⟩; refine rn (cj rTI (cj @wl_idf (cj @wl_one (cj @g (cj @a0 @Nat.add_zero))))) ?_; refine hK _ _ ?_; clear hK K
  have hs2 := set_ax s1 zid (nX != nY) qs (dst_mono hz hu.nx (hu.fr zid hz.lt hzr)) (by omega) d2
  rw [vq, sq] at hs2
  (first | refine go trivial ?_ | exact go0 trivial)
  refine aw_reg fun K hK => ?_; refine rn (cj rTI (cj @wl_idf @wl_one)) ?_; refine cont_go hs2 ?_; rintro _ s2 ⟨rfl, hu2⟩; refine rn (cj rTI (cj @wl_idf @wl_one)) ?_; refine hK _ _ ?_; clear hK K
  (first | refine go (cj rTI (cj @wl_idf @wl_one)) ?_ | exact go0 (cj rTI (cj @wl_idf @wl_one)))
  have hn := hu.nx
  have hn2 := hu2.nx
  exact ⟨by omega, hu2.g, by rw [hu2.fr rid hu.lt (Ne.symm hzr)]; exact hu.g, fun i hi h1 h2 => by rw [hu2.fr i (by omega) h1, hu.fr i hi h2]⟩
theorem quo_ax (s : St) (zid ix ox iy oy : Nat) (X Y : Int) (hz : Dst s zid) (hx : RdP s ix ox X) (hy : RdP s iy oy Y) (h0 : Y ≠ 0) (hl : lw X.natAbs ≤ 1000000000000) (hln : lw Y.natAbs ≤ 1000000000000) :
    ACall Tryz.prog 168 [.ptr zid 0, .ptr ix ox, .ptr iy oy] s fun r s' => r = .ptr zid 0 ∧ Upd s s' zid (X.tdiv Y) := by
  have push : ∀ c : List AV, ∀ i, i < s.nx → (s.push c).get i = s.get i := fun c i hi => St.push_ne _ _ _ (by omega)
  have lz := hz.lt
  have hq := quoRem_ax (s.push [.v (.bool false), .v (.slice none 0 0)]) zid ix ox iy oy s.nx X Y (dst_mono hz (Nat.le_succ _) (push _ _ hz.lt)) (hx.mono (Nat.le_succ _) (push _ _ hx.lt)) (hy.mono (Nat.le_succ _) (push _ _ hy.lt)) ⟨Nat.lt_succ_self _, _, _, St.push_same _ _⟩ (by omega) h0 hl hln
  refine acall_of Tryz.func168 rfl rfl (by simp [Tryz.ntmps168]) ?_; rw [Tryz.ntmps168, Tryz.results168]
  (first | refine go trivial ?_ | exact go0 trivial)
  refine aw_reg fun K hK => ?_; refine rn (cj rTI (cj @wl_idf @wl_one)) ?_; refine cont_go hq ?_; rintro _ s1 ⟨rfl, q1, q2, q3, q4⟩; refine rn (cj rTI (cj @wl_idf @wl_one)) ?_; refine hK _ _ ?_; clear hK K
  (first | refine go (cj rTI (cj @wl_idf @wl_one)) ?_ | exact go0 (cj rTI (cj @wl_idf @wl_one)))
  have q1' : s.nx + 1 ≤ s1.nx := q1
  exact ⟨by omega, by omega, q2, fun i hi hne => by rw [q4 i (Nat.lt_succ_of_lt hi) hne (by omega), push _ i hi]⟩
/-- A new number. -/
structure New (s s' : St) (id : Nat) (Z : Int) : Prop where
  lo : s.nx ≤ id
  lt : id < s'.nx
  g : s'.get id = some (IC Z)
  fr : ∀ i, i < s.nx → s'.get i = s.get i
theorem New.nx {s s' : St} {id : Nat} {Z : Int} (h : New s s' id Z) : s.nx ≤ s'.nx := Nat.le_of_lt (Nat.lt_of_le_of_lt h.lo h.lt)
theorem New.rdP {s s' : St} {id : Nat} {Z : Int} (h : New s s' id Z) : RdP s' id 0 Z := ⟨h.lt, _, h.g, rfl, rfl⟩
theorem New.dst {s s' : St} {id : Nat} {Z : Int} (h : New s s' id Z) : Dst s' id := ⟨h.lt, _, _, h.g⟩
theorem New.other {s s' : St} {id : Nat} {Z : Int} (h : New s s' id Z) {i off : Nat} {X : Int} (hr : RdP s i off X) : RdP s' i off X := hr.mono h.nx (h.fr i hr.lt)
theorem New.otherD {s s' : St} {id : Nat} {Z : Int} (h : New s s' id Z) {i : Nat} (hr : Dst s i) : Dst s' i := dst_mono hr h.nx (h.fr i hr.lt)
theorem gcd_ax (s : St) (ix ox iy oy : Nat) (X Y : Int) (hx : RdP s ix ox X) (hy : RdP s iy oy Y) (hl : lw X.natAbs ≤ 1000000000000) (hln : lw Y.natAbs ≤ 1000000000000) :
    ACall Tryz.prog 167 [.ptr ix ox, .ptr iy oy] s fun r s' => ∃ id, r = .ptr id 0 ∧ New s s' id (Nat.gcd X.natAbs Y.natAbs : Nat) := by
  obtain ⟨lt, c, g, a0, a1⟩ := hx
  obtain ⟨lt2, c2, g2, b0, b1⟩ := hy
  refine acall_of Tryz.func167 rfl rfl (by simp [Tryz.ntmps167]) ?_; rw [Tryz.ntmps167, Tryz.results167]
  (first | refine go trivial ?_ | exact go0 trivial)
  refine aw_drw (.take 0 (.take 1 (.take 2 (.take 3 (.take 4 (.take 5 (.take 6 (.take 7 (.take 8 (.take 9 (.done))))))))))) [ix, iy] (by kernel_rfl) (by kernel_rfl) fun K hK => ?_; refine dr (cj rTI (cj @wl_idf (cj @wl_one (cj @g (cj @g2 (cj @a1 @b1)))))) ?_; refine hK _ _ ?_; clear hK K
  rw [then_normal]
  (first | refine go trivial ?_ | exact go0 trivial)
  refine aw_loop (fun n e s' => ∃ a b : Nat, n = b ∧ e.n = 34 ∧ e.m 5 = .sl (lw a) (WL (digs W a)) ∧ e.m 6 = .sl (lw b) (WL (digs W b)) ∧ lw a ≤ 1000000000000 ∧ lw b ≤ 1000000000000 ∧ Nat.gcd a b = Nat.gcd X.natAbs Y.natAbs ∧ s.nx ≤ s'.nx ∧ ∀ i, i < s.nx → s'.get i = s.get i) Y.natAbs ?_ ?_
  · refine ⟨X.natAbs, Y.natAbs, ?_⟩
    (first | refine rn trivial ?_ | exact rn0 trivial)
    exact ⟨hl, hln, Nat.le_refl _⟩
  · rintro n e s' ⟨a, b, rfl, h1, h2, h3, h4, h5, h6, h7, h8⟩
    have hb0 := lw_zero n
    by_cases hb : 0 < n
    · have hd := divide_ax a n hb h4 h5
      obtain ⟨d4, d5, d6⟩ := divR_spec a n hb
      have ht := trim_ax (divR a n) (by omega) d5
      rw [d4] at ht
      have hlb : lw n ≠ 0 := by omega
      have lm : lw (a % n) ≤ lw n := lw_mono (Nat.le_of_lt (Nat.mod_lt _ hb))
      have hm := Nat.mod_lt a hb
      have hgc : Nat.gcd n (a % n) = Nat.gcd a n := by rw [Nat.gcd_comm n, ← Nat.gcd_rec, Nat.gcd_comm]
      unfold WD at hd
      have lr := WL_len (divR a n)
      (first | refine go (cj rTI (cj @wl_idf (cj @wl_one (cj @h1 @h3)))) ?_ | exact go0 (cj rTI (cj @wl_idf (cj @wl_one (cj @h1 @h3)))))
      (try rw [then_normal]); (try refine aw_seq ?_); refine aw_cond rfl ?_ ?_ <;> intro hb <;> (try (cases hb; done)) <;> (try simp only [bq] at hb) <;> (try (exfalso; omega))
      (first | refine go trivial ?_ | exact go0 trivial)
      refine aw_reg fun K hK => ?_; refine rn (cj rTI (cj @wl_idf (cj @wl_one (cj @h1 (cj @h2 (cj @h3 @WD_eq)))))) ?_; refine cont_pure hd ?_; refine rn (cj rTI (cj @wl_idf (cj @wl_one (cj @h1 (cj @h2 (cj @h3 @WD_eq)))))) ?_; refine hK _ _ ?_; clear hK K
      rw [then_normal]
      (first | refine go trivial ?_ | exact go0 trivial)
      generalize divR a n = rs at *
      generalize divQ a n = qs at *
      generalize a % n = m at *
      refine aw_reg fun K hK => ?_
      (first | refine rn (cj rTI (cj @wl_idf (cj @wl_one (cj @h1 (cj @h2 (cj @h3 (cj @WN.eq_1 @lr))))))) ?_ | exact rn0 (cj rTI (cj @wl_idf (cj @wl_one (cj @h1 (cj @h2 (cj @h3 (cj @WN.eq_1 @lr))))))))
      have wt : (WL rs).take rs.length = WL rs := WL_take rs _ rfl
      refine acall_frz (s'.nx + 1) (WL rs) (St.push_same _ _) (fun _ => false) ?_
      (first | refine rn (cj @Nat.zero_add @wt) ?_ | exact rn0 (cj @Nat.zero_add @wt))
      refine cont_pure ht ?_
      (first | refine rn (cj rTI (cj @wl_idf (cj @wl_one (cj @h1 (cj @h2 (cj @h3 @WN.eq_1)))))) ?_ | exact rn0 (cj rTI (cj @wl_idf (cj @wl_one (cj @h1 (cj @h2 (cj @h3 @WN.eq_1)))))))
      refine hK _ _ ?_
      clear hK K
      (first | refine go (cj rTI (cj @wl_idf (cj @wl_one @h1))) ?_ | exact go0 (cj rTI (cj @wl_idf (cj @wl_one @h1))))
      have n2 : (digs W m).length = lw m := rfl
      refine ⟨m, hm, n, m, rfl, ?_⟩
      (first | refine rn (cj @h1 @n2) ?_ | exact rn0 (cj @h1 @n2))
      exact ⟨h5, by omega, by rw [hgc, h6], by omega, fun i hi => by rw [if_neg (by omega), if_neg (by omega)]; exact h8 i hi⟩
    · have hn0 : n = 0 := by omega
      subst hn0
      rw [Nat.gcd_zero_right] at h6
      have n3 : s'.nx < s'.nx + 1 := Nat.lt_succ_self _
      have hs := set_ax (s'.push [.v (.bool false), .v (.slice none 0 0)]) s'.nx false (digs W a) ⟨Nat.lt_succ_self _, _, _, St.push_same _ _⟩ (by unfold lw at h4; omega) (digs_lt W hW _)
      have e6 : sg false a = ((Nat.gcd X.natAbs Y.natAbs : Nat) : Int) := by rw [← h6]; rfl
      rw [val_digs W hW, e6] at hs
      have l0 : lw 0 = 0 := (lw_zero 0).2 rfl
      (first | refine go (cj rTI (cj @wl_idf (cj @wl_one (cj @h1 (cj @h3 @l0))))) ?_ | exact go0 (cj rTI (cj @wl_idf (cj @wl_one (cj @h1 (cj @h3 @l0))))))
      (try rw [then_normal]); (try refine aw_seq ?_); refine aw_cond rfl ?_ ?_ <;> intro hb <;> (try (cases hb; done)) <;> (try simp only [bq] at hb) <;> (try (exfalso; omega))
      (first | refine go (cj rTI (cj @wl_idf (cj @wl_one (cj @h1 @h2)))) ?_ | exact go0 (cj rTI (cj @wl_idf (cj @wl_one (cj @h1 @h2)))))
      refine aw_reg fun K hK => ?_; refine rn (cj rTI (cj @wl_idf (cj @wl_one (cj @h1 (cj @h2 @WD_eq))))) ?_; refine cont_go hs ?_; rintro _ s1 ⟨rfl, hu⟩; refine rn (cj rTI (cj @wl_idf (cj @wl_one (cj @h1 (cj @h2 @WD_eq))))) ?_; refine hK _ _ ?_; clear hK K
      (first | refine go (cj rTI (cj @wl_idf (cj @wl_one @h1))) ?_ | exact go0 (cj rTI (cj @wl_idf (cj @wl_one @h1))))
      have q1 : s'.nx + 1 ≤ s1.nx := hu.nx
      exact ⟨s'.nx, rfl, h7, hu.lt, hu.g, fun i hi => by rw [hu.fr i (Nat.lt_of_lt_of_le hi (Nat.le_trans h7 (Nat.le_succ _))) (by omega), St.push_ne _ _ _ (by omega)]; exact h8 i hi⟩
end Go.Proofs.YtfjelkjlfcafgaaGreatDoor.BigJ
end
section
/- Package big: whole numbers in boxes: NewInt, Of, Int64. -/
namespace Go.Proofs.YtfjelkjlfcafgaaGreatDoor.BigP
open Go Go.RowKit Go.Proofs.YtfjelkjlfcafgaaGreatDoor.Ax Go.Proofs.YtfjelkjlfcafgaaGreatDoor.Ti Go.Proofs.YtfjelkjlfcafgaaGreatDoor.BigM Go.Proofs.YtfjelkjlfcafgaaGreatDoor.BigN Go.Proofs.YtfjelkjlfcafgaaGreatDoor.BigA Go.Proofs.YtfjelkjlfcafgaaGreatDoor.BigB Go.Proofs.YtfjelkjlfcafgaaGreatDoor.BigC Go.Proofs.YtfjelkjlfcafgaaGreatDoor.BigL Go.Proofs.YtfjelkjlfcafgaaGreatDoor.BigF Go.Proofs.YtfjelkjlfcafgaaGreatDoor.BigI Go.Proofs.YtfjelkjlfcafgaaGreatDoor.BigJ
set_option linter.unusedSimpArgs false
set_option linter.unusedVariables false
set_option maxRecDepth 4000
set_option maxHeartbeats 2000000
theorem rTI : type_of% (cj @ti41 (cj @ti35 (cj @ti165 (cj @ti198 (cj @ti3 (cj @ti2 (cj @ti4 @ti176))))))) := cj @ti41 (cj @ti35 (cj @ti165 (cj @ti198 (cj @ti3 (cj @ti2 (cj @ti4 @ti176))))))

theorem new_frz {s : St} {c c' d : List AV} {Z : Int} (h : d = IC Z) : New s (((s.push c).frz s.nx c' fun _ => false).push d) (s.nx + 1) Z := by
  subst h
  refine ⟨Nat.le_succ _, Nat.lt_succ_self _, St.push_same _ _, fun i hi => ?_⟩
  rw [St.push_ne _ _ _ (by show i ≠ s.nx + 1; omega), frz_false _ _ _ _ (by omega), St.push_ne _ _ _ (by omega)]
theorem newInt_ax (s : St) (v : Int) (h1 : -9223372036854775808 ≤ v) (h2 : v ≤ 9223372036854775807) :
    ACall Tryz.prog 125 [.v (.int .i64 v)] s fun r s' => ∃ id, r = .ptr id 0 ∧ New s s' id v := by
  obtain ⟨u, hu⟩ : ∃ u, u = v.natAbs := ⟨_, rfl⟩
  have du : ∀ d ∈ [u % W, u / W], d < W := by
    intro d hd
    rcases List.mem_cons.1 hd with rfl | hd
    · exact Nat.mod_lt _ hW0
    · rw [List.mem_singleton.1 hd]; unfold W; omega
  have ht := trim_ax [u % W, u / W] (by simp) du
  have hv : val W [u % W, u / W] = u := by
    simp only [val, Nat.mul_zero, Nat.add_zero]
    exact Nat.mod_add_div u W
  rw [← digs_val W hW _ du, hv] at ht
  have e1 := w32 u
  have e2 := sh32 u
  have hq : u / W < 4294967296 := by unfold W; omega
  have hic : IC v = [.v (.bool (decide (v < 0))), .sl (lw u) (WL (digs W u))] := by rw [hu]; rfl
  have wl : ∀ a b : Nat, WL [a, b] = [.v (.int .u32 a), .v (.int .u32 b)] := fun a b => rfl
  have n1 : (digs W u).length = lw u := rfl
  generalize u % W = lo at *
  generalize u / W = hi at *
  refine acall_of Tryz.func125 rfl rfl (by simp [Tryz.ntmps125]) ?_; rw [Tryz.ntmps125, Tryz.results125]
  by_cases q : v < 0
  · rw [decide_eq_true q] at hic
    have e3 : ∀ x : Int, x = v → IntKind.u64.wrap x = v + 18446744073709551616 := fun x hx => by rw [wrap_u64]; omega
    have e5 : IntKind.u64.wrap (0 - (v + 18446744073709551616)) = (u : Int) := by rw [wrap_u64]; omega
    (first | refine go (cj rTI (cj @wl_idf (cj @wl_one (cj @e3 @e5)))) ?_ | exact go0 (cj rTI (cj @wl_idf (cj @wl_one (cj @e3 @e5)))))
    rw [then_normal]
    (try rw [then_normal]); (try refine aw_seq ?_); refine aw_cond rfl ?_ ?_ <;> intro hb <;> (try (cases hb; done)) <;> (try simp only [bq] at hb) <;> (try (exfalso; omega))
    (first | refine go (cj rTI (cj @wl_idf (cj @wl_one (cj @e3 @e5)))) ?_ | exact go0 (cj rTI (cj @wl_idf (cj @wl_one (cj @e3 @e5)))))
    refine aw_reg fun K hK => ?_
    (first | refine rn (cj rTI (cj @wl_idf (cj @wl_one (cj @e1 (cj @e2 (cj @e3 @e5)))))) ?_ | exact rn0 (cj rTI (cj @wl_idf (cj @wl_one (cj @e1 (cj @e2 (cj @e3 @e5)))))))
    refine acall_frz s.nx (WL [lo, hi]) (St.push_same _ _) (fun _ => false) ?_
    (first | refine rn (cj @Nat.zero_add @wl) ?_ | exact rn0 (cj @Nat.zero_add @wl))
    refine cont_pure ht ?_
    (first | refine rn (cj rTI (cj @wl_idf (cj @wl_one (cj @WN.eq_1 @n1)))) ?_ | exact rn0 (cj rTI (cj @wl_idf (cj @wl_one (cj @WN.eq_1 @n1)))))
    refine hK _ _ ?_
    clear hK K
    (first | refine go (cj rTI (cj @wl_idf @wl_one)) ?_ | exact go0 (cj rTI (cj @wl_idf @wl_one)))
    exact ⟨_, rfl, new_frz hic.symm⟩
  · rw [decide_eq_false q] at hic
    have e4 : v = (u : Int) := by omega
    (first | refine go (cj rTI (cj @wl_idf (cj @wl_one (cj @e1 @e2)))) ?_ | exact go0 (cj rTI (cj @wl_idf (cj @wl_one (cj @e1 @e2)))))
    (try rw [then_normal]); (try refine aw_seq ?_); refine aw_cond rfl ?_ ?_ <;> intro hb <;> (try (cases hb; done)) <;> (try simp only [bq] at hb) <;> (try (exfalso; omega))
    (first | refine go (cj rTI (cj @wl_idf @wl_one)) ?_ | exact go0 (cj rTI (cj @wl_idf @wl_one)))
    refine aw_reg fun K hK => ?_
    (first | refine rn (cj rTI (cj @wl_idf (cj @wl_one (cj @e1 @e2)))) ?_ | exact rn0 (cj rTI (cj @wl_idf (cj @wl_one (cj @e1 @e2)))))
    refine acall_frz s.nx (WL [lo, hi]) (St.push_same _ _) (fun _ => false) ?_
    (first | refine rn (cj @Nat.zero_add @wl) ?_ | exact rn0 (cj @Nat.zero_add @wl))
    refine cont_pure ht ?_
    (first | refine rn (cj rTI (cj @wl_idf (cj @wl_one (cj @WN.eq_1 @n1)))) ?_ | exact rn0 (cj rTI (cj @wl_idf (cj @wl_one (cj @WN.eq_1 @n1)))))
    refine hK _ _ ?_
    clear hK K
    (first | refine go (cj rTI (cj @wl_idf @wl_one)) ?_ | exact go0 (cj rTI (cj @wl_idf @wl_one)))
    exact ⟨_, rfl, new_frz hic.symm⟩
theorem new_frz2 {s : St} {c c' d1 d2 : List AV} {Z : Int} (h : d2 = IC Z) : New s ((((((s.push []).kill s.nx).push c).frz (s.nx + 1) c' fun _ => false).push d1).set (s.nx + 1 + 1) d2) (s.nx + 1 + 1) Z := by
  subst h
  refine ⟨by omega, Nat.lt_succ_self _, St.set_same _ _ _, fun i hi => ?_⟩
  rw [St.set_ne _ _ _ _ (by omega), St.push_ne _ _ _ (by show i ≠ s.nx + 1 + 1; omega), frz_false _ _ _ _ (by omega), St.push_ne _ _ _ (by show i ≠ s.nx + 1; omega), St.kill_ne _ _ _ (by omega), St.push_ne _ _ _ (by omega)]
theorem of_ax (s : St) (b : Bool) (ws : List Nat) (hl : ws.length ≤ 1000000000000) (dw : ∀ d ∈ ws, d < W) :
    ACall Tryz.prog 162 [.v (.bool b), WN ws] s fun r s' => ∃ id, r = .ptr id 0 ∧ New s s' id (sg b (val W ws)) := by
  have ht := trim_ax ws (by omega) dw
  rw [← digs_val W hW ws dw] at ht
  have hic := ic_sg b (val W ws)
  have hp := lw_pos (val W ws)
  have n1 : (digs W (val W ws)).length = lw (val W ws) := rfl
  have l1 := WL_len ws
  have wt : (WL ws).take ws.length = WL ws := WL_take ws _ rfl
  have l2 := lw_trim ws dw
  have l3 : lw (val W ws) ≤ 1000000000000 := Nat.le_trans ((lw_lt _ _).1 (val_lt W hW0 ws dw)) hl
  generalize val W ws = n at *
  refine acall_of Tryz.func162 rfl rfl (by simp [Tryz.ntmps162]) ?_; rw [Tryz.ntmps162, Tryz.results162]
  unfold WN
  (first | refine go (cj rTI (cj @wl_idf @wl_one)) ?_ | exact go0 (cj rTI (cj @wl_idf @wl_one)))
  refine aw_reg fun K hK => ?_
  (first | refine rn (cj rTI (cj @wl_idf (cj @wl_one @l1))) ?_ | exact rn0 (cj rTI (cj @wl_idf (cj @wl_one @l1))))
  refine acall_frz (s.nx + 1) (WL ws) (St.push_same _ _) (fun _ => false) ?_
  (first | refine rn (cj @Nat.zero_add @wt) ?_ | exact rn0 (cj @Nat.zero_add @wt))
  refine cont_pure ht ?_
  (first | refine rn (cj rTI (cj @wl_idf (cj @wl_one (cj @WN.eq_1 @n1)))) ?_ | exact rn0 (cj rTI (cj @wl_idf (cj @wl_one (cj @WN.eq_1 @n1)))))
  refine hK _ _ ?_
  clear hK K
  cases b <;> by_cases q : 0 < n
  · have q2 : 0 < lw n := hp.2 q
    (first | refine go (cj rTI (cj @wl_idf @wl_one)) ?_ | exact go0 (cj rTI (cj @wl_idf @wl_one)))
    exact ⟨_, rfl, new_frz2 (by rw [hic]; rfl)⟩
  · have q2 : ¬ 0 < lw n := fun h => q (hp.1 h)
    (first | refine go (cj rTI (cj @wl_idf @wl_one)) ?_ | exact go0 (cj rTI (cj @wl_idf @wl_one)))
    exact ⟨_, rfl, new_frz2 (by rw [hic]; rfl)⟩
  · have q2 : 0 < lw n := hp.2 q
    (first | refine go (cj rTI (cj @wl_idf @wl_one)) ?_ | exact go0 (cj rTI (cj @wl_idf @wl_one)))
    exact ⟨_, rfl, new_frz2 (by rw [hic, decide_eq_true q]; rfl)⟩
  · have q2 : ¬ 0 < lw n := fun h => q (hp.1 h)
    (first | refine go (cj rTI (cj @wl_idf @wl_one)) ?_ | exact go0 (cj rTI (cj @wl_idf @wl_one)))
    exact ⟨_, rfl, new_frz2 (by rw [hic, decide_eq_false q]; rfl)⟩
def fits (x : Int) : Prop := -9223372036854775808 ≤ x ∧ x ≤ 9223372036854775807
instance (x : Int) : Decidable (fits x) := by unfold fits; infer_instance
theorem lw_two (n : Nat) : lw n ≤ 2 ↔ n < 18446744073709551616 := by
  rw [← lw_lt]
  exact Iff.rfl
theorem wrap_neg (u : Nat) (h : u ≤ 9223372036854775808) : IntKind.i64.wrap (0 - IntKind.i64.wrap (u : Int)) = -(u : Int) := by
  by_cases q : u = 9223372036854775808
  · subst q
    rfl
  · have h1 := wrap_in_i64 (u : Int) (by omega) (by omega)
    have h2 := wrap_in_i64 (0 - (u : Int)) (by omega) (by omega)
    rw [h1, h2, Int.zero_sub]
/-- A reader of a whole number; out of range the value is whatever it is. -/
theorem int64_ax (s : St) (ix ox : Nat) (X : Int) (hx : RdP s ix ox X) (hl : lw X.natAbs ≤ 1000000000000) : ACall Tryz.prog 171 [.ptr ix ox] s fun r s' => (∃ w : Int, r = .tp [.v (.int .i64 w), .v (.bool (decide (fits X)))] ∧ (fits X → w = X)) ∧ s' = s := by
  obtain ⟨lt, c, g, a0, a1⟩ := hx
  have n1 : (digs W X.natAbs).length = lw X.natAbs := rfl
  have h2 := lw_two X.natAbs
  have vx := val_digs W hW X.natAbs
  have dx := digs_lt W hW X.natAbs
  refine acall_of Tryz.func171 rfl rfl (by simp [Tryz.ntmps171]) ?_; rw [Tryz.ntmps171, Tryz.results171]
  by_cases q : 2 < lw X.natAbs
  · have nf : ¬ fits X := by unfold fits; omega
    (first | refine go (cj rTI (cj @wl_idf (cj @wl_one (cj @g @a1)))) ?_ | exact go0 (cj rTI (cj @wl_idf (cj @wl_one (cj @g @a1)))))
    rw [then_normal]
    (try rw [then_normal]); (try refine aw_seq ?_); refine aw_cond rfl ?_ ?_ <;> intro hb <;> (try (cases hb; done)) <;> (try simp only [bq] at hb) <;> (try (exfalso; omega))
    rw [show decide (fits X) = false from decide_eq_false nf]
    (first | refine go trivial ?_ | exact go0 trivial)
    exact ⟨0, rfl, fun h => absurd h nf⟩
  · have hu : X.natAbs < 18446744073709551616 := h2.1 (by omega)
    (first | refine go (cj rTI (cj @wl_idf (cj @wl_one (cj @g @a1)))) ?_ | exact go0 (cj rTI (cj @wl_idf (cj @wl_one (cj @g @a1)))))
    rw [then_normal]
    (try rw [then_normal]); (try refine aw_seq ?_); refine aw_cond rfl ?_ ?_ <;> intro hb <;> (try (cases hb; done)) <;> (try simp only [bq] at hb) <;> (try (exfalso; omega))
    (first | refine go (cj rTI (cj @wl_idf (cj @wl_one (cj @g @a1)))) ?_ | exact go0 (cj rTI (cj @wl_idf (cj @wl_one (cj @g @a1)))))
    generalize hxs : digs W X.natAbs = xs at *
    refine aw_loop (fun k e s' => k ≤ lw X.natAbs ∧ e.n = 46 ∧ e.m 0 = .ptr ix ox ∧ e.m 4 = .v (.int .u64 (val W (xs.drop k) : Nat)) ∧ e.m 5 = .v (.int .i64 ((k : Int) - 1)) ∧ s' = s) (lw X.natAbs) ?_ ?_
    · (first | refine rn trivial ?_ | exact rn0 trivial)
      refine ⟨Nat.le_refl _, ?_⟩
      rw [← n1, List.drop_length]
      rfl
    · rintro k e s' ⟨hk, h1, k0, k4, k5, rfl⟩
      have l1 := WL_len xs
      by_cases hk0 : 0 < k
      · have o1 := hd_WL xs (k - 1) (by omega)
        have e1 : val W (xs.drop (k - 1)) = xs.getD (k - 1) 0 + W * val W (xs.drop k) := by rw [drop_pred xs k hk0 (by omega), val]
        have e2 : val W (xs.drop (k - 1)) ≤ X.natAbs := by
          have h3 := val_split (b := W) xs (k - 1) (by omega)
          have h4 : 1 * val W (xs.drop (k - 1)) ≤ W ^ (k - 1) * val W (xs.drop (k - 1)) := Nat.mul_le_mul_right _ (Nat.pow_pos hW0)
          omega
        have dW : xs.getD (k - 1) 0 < 4294967296 := getD_lt W hW0 _ dx _
        have kk : ((k : Int) - 1).toNat = k - 1 := by omega
        have e3 : (val W (xs.drop k) : Int) * 4294967296 + ((xs.getD (k - 1) 0 : Nat) : Int) = ((val W (xs.drop (k - 1)) : Nat) : Int) := by rw [e1]; unfold W; omega
        have e1' : val W (xs.drop (k - 1)) = xs.getD (k - 1) 0 + 4294967296 * val W (xs.drop k) := e1
        have e0 : (2 : Int) ^ min (Int.toNat 32) 64 = 4294967296 := rfl
        generalize val W (xs.drop k) = v at *
        generalize hv' : val W (xs.drop (k - 1)) = v' at *
        generalize xs.getD (k - 1) 0 = y at *
        (first | refine go (cj rTI (cj @wl_idf (cj @wl_one (cj @h1 (cj @k0 (cj @k4 @k5)))))) ?_ | exact go0 (cj rTI (cj @wl_idf (cj @wl_one (cj @h1 (cj @k0 (cj @k4 @k5)))))))
        (try rw [then_normal]); (try refine aw_seq ?_); refine aw_cond rfl ?_ ?_ <;> intro hb <;> (try (cases hb; done)) <;> (try simp only [bq] at hb) <;> (try (exfalso; omega))
        repeat (first | refine aw_seq ?_ | refine aw_block ?_ | (refine aw_reg fun K hK => ?_; simp (disch := omega) only [↓core, ↓List.getElem?_toArray, ↓List.getElem?_cons_succ, ↓List.getElem?_cons_zero, ↓onO_some, more, xbuild, if_pos, if_neg, onO_some, onO_none, onV_eq, xbuiltin, xlen, xload, loadA, xstore, spl, xfield, xindexAddr, xindex, xslice, bnd, xbin, xint, xshift, xstr, xeq, xun, xconv, xmake, xappend, xsrc, xbuildSlice, fillA, xminmax, gval, isK, mapM_nil_o, mapM_cons_o, AV.cells, AV.boxable, AV.one, TI.agg, resA, retA, zrow_one, eq_self, List.map, List.map_cons, List.map_nil, Option.map_some, Option.map_none, Option.bind_some, Option.bind_none, ↓reduceIte, Nat.reduceLT, Nat.reduceEqDiff, Nat.reduceAdd, Nat.reduceMul, Nat.mul_one, Nat.reduceLeDiff, decide_true, decide_false, true_and, and_true, if_true, if_false, List.toList_toArray, List.size_toArray, beq_self_eq_true, Bool.true_eq_false, Bool.false_eq_true, forall_const, false_implies, implies_true, undef, IntKind.bits, List.drop_zero, List.drop_succ_cons, List.take_succ_cons, List.take_zero, List.length_cons, List.length_nil, List.set_cons_zero, List.set_cons_succ, List.head?_cons, List.all_cons, List.all_nil, List.replicate_succ, List.replicate_zero, Bool.and_true, Bool.and_self, Value.oneCell', Bool.true_and, Bool.or_true, Bool.or_false, Bool.not_true, Bool.not_false, ti41, ti35, ti165, ti198, ti3, ti2, ti4, ti176, wl_idf, wl_one, h1, k0, k4, k5, g, a1, o1, n1, l1, kk, e0, ↓xor64, e3]; refine hK _ _ ?_; clear hK K) | (refine aw_skip ?_; try simp (disch := omega) only [↓core, ↓List.getElem?_toArray, ↓List.getElem?_cons_succ, ↓List.getElem?_cons_zero, ↓onO_some, more, xbuild, if_pos, if_neg, onO_some, onO_none, onV_eq, xbuiltin, xlen, xload, loadA, xstore, spl, xfield, xindexAddr, xindex, xslice, bnd, xbin, xint, xshift, xstr, xeq, xun, xconv, xmake, xappend, xsrc, xbuildSlice, fillA, xminmax, gval, isK, mapM_nil_o, mapM_cons_o, AV.cells, AV.boxable, AV.one, TI.agg, resA, retA, zrow_one, eq_self, List.map, List.map_cons, List.map_nil, Option.map_some, Option.map_none, Option.bind_some, Option.bind_none, ↓reduceIte, Nat.reduceLT, Nat.reduceEqDiff, Nat.reduceAdd, Nat.reduceMul, Nat.mul_one, Nat.reduceLeDiff, decide_true, decide_false, true_and, and_true, if_true, if_false, List.toList_toArray, List.size_toArray, beq_self_eq_true, Bool.true_eq_false, Bool.false_eq_true, forall_const, false_implies, implies_true, undef, IntKind.bits, List.drop_zero, List.drop_succ_cons, List.take_succ_cons, List.take_zero, List.length_cons, List.length_nil, List.set_cons_zero, List.set_cons_succ, List.head?_cons, List.all_cons, List.all_nil, List.replicate_succ, List.replicate_zero, Bool.and_true, Bool.and_self, Value.oneCell', Bool.true_and, Bool.or_true, Bool.or_false, Bool.not_true, Bool.not_false, ti41, ti35, ti165, ti198, ti3, ti2, ti4, ti176, wl_idf, wl_one, h1, k0, k4, k5, g, a1, o1, n1, l1, kk, e0, ↓xor64, e3]) | (refine aw_exit ?_; try simp (disch := omega) only [↓core, ↓List.getElem?_toArray, ↓List.getElem?_cons_succ, ↓List.getElem?_cons_zero, ↓onO_some, more, xbuild, if_pos, if_neg, onO_some, onO_none, onV_eq, xbuiltin, xlen, xload, loadA, xstore, spl, xfield, xindexAddr, xindex, xslice, bnd, xbin, xint, xshift, xstr, xeq, xun, xconv, xmake, xappend, xsrc, xbuildSlice, fillA, xminmax, gval, isK, mapM_nil_o, mapM_cons_o, AV.cells, AV.boxable, AV.one, TI.agg, resA, retA, zrow_one, eq_self, List.map, List.map_cons, List.map_nil, Option.map_some, Option.map_none, Option.bind_some, Option.bind_none, ↓reduceIte, Nat.reduceLT, Nat.reduceEqDiff, Nat.reduceAdd, Nat.reduceMul, Nat.mul_one, Nat.reduceLeDiff, decide_true, decide_false, true_and, and_true, if_true, if_false, List.toList_toArray, List.size_toArray, beq_self_eq_true, Bool.true_eq_false, Bool.false_eq_true, forall_const, false_implies, implies_true, undef, IntKind.bits, List.drop_zero, List.drop_succ_cons, List.take_succ_cons, List.take_zero, List.length_cons, List.length_nil, List.set_cons_zero, List.set_cons_succ, List.head?_cons, List.all_cons, List.all_nil, List.replicate_succ, List.replicate_zero, Bool.and_true, Bool.and_self, Value.oneCell', Bool.true_and, Bool.or_true, Bool.or_false, Bool.not_true, Bool.not_false, ti41, ti35, ti165, ti198, ti3, ti2, ti4, ti176, wl_idf, wl_one, h1, k0, k4, k5, g, a1, o1, n1, l1, kk, e0, ↓xor64, e3]) | (refine aw_ret ?_; try simp (disch := omega) only [↓core, ↓List.getElem?_toArray, ↓List.getElem?_cons_succ, ↓List.getElem?_cons_zero, ↓onO_some, more, xbuild, if_pos, if_neg, onO_some, onO_none, onV_eq, xbuiltin, xlen, xload, loadA, xstore, spl, xfield, xindexAddr, xindex, xslice, bnd, xbin, xint, xshift, xstr, xeq, xun, xconv, xmake, xappend, xsrc, xbuildSlice, fillA, xminmax, gval, isK, mapM_nil_o, mapM_cons_o, AV.cells, AV.boxable, AV.one, TI.agg, resA, retA, zrow_one, eq_self, List.map, List.map_cons, List.map_nil, Option.map_some, Option.map_none, Option.bind_some, Option.bind_none, ↓reduceIte, Nat.reduceLT, Nat.reduceEqDiff, Nat.reduceAdd, Nat.reduceMul, Nat.mul_one, Nat.reduceLeDiff, decide_true, decide_false, true_and, and_true, if_true, if_false, List.toList_toArray, List.size_toArray, beq_self_eq_true, Bool.true_eq_false, Bool.false_eq_true, forall_const, false_implies, implies_true, undef, IntKind.bits, List.drop_zero, List.drop_succ_cons, List.take_succ_cons, List.take_zero, List.length_cons, List.length_nil, List.set_cons_zero, List.set_cons_succ, List.head?_cons, List.all_cons, List.all_nil, List.replicate_succ, List.replicate_zero, Bool.and_true, Bool.and_self, Value.oneCell', Bool.true_and, Bool.or_true, Bool.or_false, Bool.not_true, Bool.not_false, ti41, ti35, ti165, ti198, ti3, ti2, ti4, ti176, wl_idf, wl_one, h1, k0, k4, k5, g, a1, o1, n1, l1, kk, e0, ↓xor64, e3]))
        simp only [block_normal, loop_normal]
        refine ⟨k - 1, by omega, ?_⟩
        (first | refine rn (cj @h1 (cj @k0 @e3)) ?_ | exact rn0 (cj @h1 (cj @k0 @e3)))
        exact ⟨by omega, by rw [hv'], by congr 2; omega⟩
      · obtain rfl : k = 0 := by omega
        rw [List.drop_zero, vx] at k4
        have g0 : (List.drop (ox + 0) c).head? = some (.v (.bool (ng X))) := a0
        generalize hm : X.natAbs = u at *
        by_cases qn : X < 0
        · rw [show ng X = true from decide_eq_true qn] at a0
          have hf : fits X ↔ u ≤ 9223372036854775808 := by unfold fits; omega
          by_cases qf : u ≤ 9223372036854775808
          · rw [show decide (fits X) = true from decide_eq_true (hf.2 qf)]
            clear hf
            (first | refine go (cj rTI (cj @wl_idf (cj @wl_one (cj @h1 (cj @k0 (cj @k4 @k5)))))) ?_ | exact go0 (cj rTI (cj @wl_idf (cj @wl_one (cj @h1 (cj @k0 (cj @k4 @k5)))))))
            (try rw [then_normal]); (try refine aw_seq ?_); refine aw_cond rfl ?_ ?_ <;> intro hb <;> (try (cases hb; done)) <;> (try simp only [bq] at hb) <;> (try (exfalso; omega))
            (first | refine go (cj rTI (cj @wl_idf (cj @wl_one (cj @h1 (cj @k0 (cj @k4 (cj @k5 (cj @g (cj @a0 @Nat.add_zero))))))))) ?_ | exact go0 (cj rTI (cj @wl_idf (cj @wl_one (cj @h1 (cj @k0 (cj @k4 (cj @k5 (cj @g (cj @a0 @Nat.add_zero))))))))))
            (try rw [then_normal]); (try refine aw_seq ?_); refine aw_cond rfl ?_ ?_ <;> intro hb <;> (try (cases hb; done)) <;> (try simp only [bq] at hb) <;> (try (exfalso; omega))
            (first | refine go (cj rTI (cj @wl_idf (cj @wl_one @k4))) ?_ | exact go0 (cj rTI (cj @wl_idf (cj @wl_one @k4))))
            refine ⟨_, rfl, fun hf => ?_⟩
            rw [wrap_neg u qf]
            omega
          · have nf : ¬ fits X := fun h => qf (hf.1 h)
            rw [show decide (fits X) = false from decide_eq_false nf]
            clear hf
            (first | refine go (cj rTI (cj @wl_idf (cj @wl_one (cj @h1 (cj @k0 (cj @k4 @k5)))))) ?_ | exact go0 (cj rTI (cj @wl_idf (cj @wl_one (cj @h1 (cj @k0 (cj @k4 @k5)))))))
            (try rw [then_normal]); (try refine aw_seq ?_); refine aw_cond rfl ?_ ?_ <;> intro hb <;> (try (cases hb; done)) <;> (try simp only [bq] at hb) <;> (try (exfalso; omega))
            (first | refine go (cj rTI (cj @wl_idf (cj @wl_one (cj @h1 (cj @k0 (cj @k4 (cj @k5 (cj @g (cj @a0 @Nat.add_zero))))))))) ?_ | exact go0 (cj rTI (cj @wl_idf (cj @wl_one (cj @h1 (cj @k0 (cj @k4 (cj @k5 (cj @g (cj @a0 @Nat.add_zero))))))))))
            (try rw [then_normal]); (try refine aw_seq ?_); refine aw_cond rfl ?_ ?_ <;> intro hb <;> (try (cases hb; done)) <;> (try simp only [bq] at hb) <;> (try (exfalso; omega))
            (first | refine go (cj rTI (cj @wl_idf (cj @wl_one @k4))) ?_ | exact go0 (cj rTI (cj @wl_idf (cj @wl_one @k4))))
            exact ⟨_, rfl, fun h => absurd h nf⟩
        · rw [show ng X = false from decide_eq_false qn] at a0
          have hf : fits X ↔ u ≤ 9223372036854775807 := by unfold fits; omega
          by_cases qf : u ≤ 9223372036854775807
          · rw [show decide (fits X) = true from decide_eq_true (hf.2 qf)]
            clear hf
            (first | refine go (cj rTI (cj @wl_idf (cj @wl_one (cj @h1 (cj @k0 (cj @k4 @k5)))))) ?_ | exact go0 (cj rTI (cj @wl_idf (cj @wl_one (cj @h1 (cj @k0 (cj @k4 @k5)))))))
            (try rw [then_normal]); (try refine aw_seq ?_); refine aw_cond rfl ?_ ?_ <;> intro hb <;> (try (cases hb; done)) <;> (try simp only [bq] at hb) <;> (try (exfalso; omega))
            (first | refine go (cj rTI (cj @wl_idf (cj @wl_one (cj @h1 (cj @k0 (cj @k4 (cj @k5 (cj @g (cj @a0 @Nat.add_zero))))))))) ?_ | exact go0 (cj rTI (cj @wl_idf (cj @wl_one (cj @h1 (cj @k0 (cj @k4 (cj @k5 (cj @g (cj @a0 @Nat.add_zero))))))))))
            (try rw [then_normal]); (try refine aw_seq ?_); refine aw_cond rfl ?_ ?_ <;> intro hb <;> (try (cases hb; done)) <;> (try simp only [bq] at hb) <;> (try (exfalso; omega))
            (first | refine go (cj rTI (cj @wl_idf (cj @wl_one @k4))) ?_ | exact go0 (cj rTI (cj @wl_idf (cj @wl_one @k4))))
            refine ⟨_, rfl, fun hf => ?_⟩
            omega
          · have nf : ¬ fits X := fun h => qf (hf.1 h)
            rw [show decide (fits X) = false from decide_eq_false nf]
            clear hf
            (first | refine go (cj rTI (cj @wl_idf (cj @wl_one (cj @h1 (cj @k0 (cj @k4 @k5)))))) ?_ | exact go0 (cj rTI (cj @wl_idf (cj @wl_one (cj @h1 (cj @k0 (cj @k4 @k5)))))))
            (try rw [then_normal]); (try refine aw_seq ?_); refine aw_cond rfl ?_ ?_ <;> intro hb <;> (try (cases hb; done)) <;> (try simp only [bq] at hb) <;> (try (exfalso; omega))
            (first | refine go (cj rTI (cj @wl_idf (cj @wl_one (cj @h1 (cj @k0 (cj @k4 (cj @k5 (cj @g (cj @a0 @Nat.add_zero))))))))) ?_ | exact go0 (cj rTI (cj @wl_idf (cj @wl_one (cj @h1 (cj @k0 (cj @k4 (cj @k5 (cj @g (cj @a0 @Nat.add_zero))))))))))
            (try rw [then_normal]); (try refine aw_seq ?_); refine aw_cond rfl ?_ ?_ <;> intro hb <;> (try (cases hb; done)) <;> (try simp only [bq] at hb) <;> (try (exfalso; omega))
            (first | refine go (cj rTI (cj @wl_idf (cj @wl_one @k4))) ?_ | exact go0 (cj rTI (cj @wl_idf (cj @wl_one @k4))))
            exact ⟨_, rfl, fun h => absurd h nf⟩
end Go.Proofs.YtfjelkjlfcafgaaGreatDoor.BigP
end
section
/- Package big: whole numbers in boxes: Mul, Ten. -/
namespace Go.Proofs.YtfjelkjlfcafgaaGreatDoor.BigQ
open Go Go.RowKit Go.Proofs.YtfjelkjlfcafgaaGreatDoor.Ax Go.Proofs.YtfjelkjlfcafgaaGreatDoor.Ti Go.Proofs.YtfjelkjlfcafgaaGreatDoor.BigM Go.Proofs.YtfjelkjlfcafgaaGreatDoor.BigN Go.Proofs.YtfjelkjlfcafgaaGreatDoor.BigA Go.Proofs.YtfjelkjlfcafgaaGreatDoor.BigB Go.Proofs.YtfjelkjlfcafgaaGreatDoor.BigC Go.Proofs.YtfjelkjlfcafgaaGreatDoor.BigL Go.Proofs.YtfjelkjlfcafgaaGreatDoor.BigF Go.Proofs.YtfjelkjlfcafgaaGreatDoor.BigI Go.Proofs.YtfjelkjlfcafgaaGreatDoor.BigJ Go.Proofs.YtfjelkjlfcafgaaGreatDoor.BigP
set_option linter.unusedSimpArgs false
set_option linter.unusedVariables false
set_option maxRecDepth 4000
set_option maxHeartbeats 2000000
theorem rTI : type_of% (cj @ti41 (cj @ti35 (cj @ti165 (cj @ti198 (cj @ti3 (cj @ti2 (cj @ti4 @ti176))))))) := cj @ti41 (cj @ti35 (cj @ti165 (cj @ti198 (cj @ti3 (cj @ti2 (cj @ti4 @ti176))))))

theorem times_step (xs ys ds : List Nat) (i j cr : Nat) (h : val W ds + W ^ (i + j) * cr = val W (xs.take i) * val W ys + W ^ i * xs.getD i 0 * val W (ys.take j)) (hk : i + j < ds.length) (z : Nat) (hz : z = xs.getD i 0 * ys.getD j 0 + ds.getD (i + j) 0 + cr) :
    val W (ds.set (i + j) (z % W)) + W ^ (i + (j + 1)) * (z / W) = val W (xs.take i) * val W ys + W ^ i * xs.getD i 0 * val W (ys.take (j + 1)) := by
  have h1 := val_set (b := W) ds (i + j) (z % W) hk
  have h2 : W ^ (i + j) * z = W ^ (i + j) * (z % W) + W ^ (i + (j + 1)) * (z / W) := by
    conv => lhs; rw [← Nat.mod_add_div z W]
    rw [Nat.mul_add, ← Nat.mul_assoc, ← Nat.pow_succ]
    rfl
  have h3 : W ^ (i + j) * z = W ^ i * xs.getD i 0 * (W ^ j * ys.getD j 0) + W ^ (i + j) * ds.getD (i + j) 0 + W ^ (i + j) * cr := by
    rw [hz, Nat.mul_add, Nat.mul_add, Nat.pow_add]
    congr 2
    ac_rfl
  rw [tk_snoc, Nat.mul_add]
  omega
theorem times_row (xs ys ds : List Nat) (i cr : Nat) (h : val W ds + W ^ (i + ys.length) * cr = val W (xs.take i) * val W ys + W ^ i * xs.getD i 0 * val W (ys.take ys.length)) (hk : i + ys.length < ds.length) (h0 : ds.getD (i + ys.length) 0 = 0) :
    val W (ds.set (i + ys.length) cr) = val W (xs.take (i + 1)) * val W ys := by
  have h1 := val_set (b := W) ds (i + ys.length) cr hk
  rw [h0] at h1
  rw [tk_snoc, Nat.add_mul]
  rw [List.take_length] at h
  omega
structure MulM (s : St) (zid ix ox iy oy : Nat) (xs ys : List Nat) (i : Nat) (ds : List Nat) (e : Env) (s' : St) : Prop where
  o : Out s (xs.length + ys.length) ds s'
  en : e.n = 95
  e0 : e.m 0 = .ptr zid 0
  e1 : e.m 1 = .ptr ix ox
  e2 : e.m 2 = .ptr iy oy
  e7 : e.m 7 = .own s.nx 0 (xs.length + ys.length) 1
  e29 : e.m 29 = .sl xs.length (WL xs)
  e30 : e.m 30 = .v (.int .i64 xs.length)
  e31 : e.m 31 = .v (.int .i64 i)
structure MulO (s : St) (zid ix ox iy oy : Nat) (xs ys : List Nat) (n i : Nat) (ds : List Nat) (e : Env) (s' : St) : Prop extends MulM s zid ix ox iy oy xs ys i ds e s' where
  on : n = xs.length - i
  oi : i ≤ xs.length
  oz : ∀ k, i + ys.length ≤ k → ds.getD k 0 = 0
  ov : val W ds = val W (xs.take i) * val W ys
structure MulJ (s : St) (zid ix ox iy oy : Nat) (xs ys : List Nat) (i n j cr : Nat) (ds : List Nat) (e : Env) (s' : St) : Prop extends MulM s zid ix ox iy oy xs ys i ds e s' where
  e8 : e.m 8 = .v (.int .i64 i)
  e9 : e.m 9 = .v (.int .u32 (xs.getD i 0 : Nat))
  e10 : e.m 10 = .v (.int .u64 cr)
  e39 : e.m 39 = .sl ys.length (WL ys)
  e40 : e.m 40 = .v (.int .i64 ys.length)
  e41 : e.m 41 = .v (.int .i64 j)
  jc : cr < W
  jn : n = ys.length - j
  ji : i < xs.length
  jj : j ≤ ys.length
  jz : ∀ k, i + ys.length ≤ k → ds.getD k 0 = 0
  jv : val W ds + W ^ (i + j) * cr = val W (xs.take i) * val W ys + W ^ i * xs.getD i 0 * val W (ys.take j)
theorem sg_mul (X Y : Int) : sg (ng X != ng Y) (X.natAbs * Y.natAbs) = X * Y := by
  have key : ∀ (a b : Bool) (m n : Nat), sg a m * sg b n = sg (a != b) (m * n) := fun a b m n => by
    cases a <;> cases b <;> simp [sg, Int.mul_neg, Int.neg_mul, Int.neg_neg]
  rw [← key, sg_self, sg_self]
theorem mul_ax (s : St) (zid ix ox iy oy : Nat) (X Y : Int) (hz : Dst s zid) (hx : RdP s ix ox X) (hy : RdP s iy oy Y) (hl : lw X.natAbs + lw Y.natAbs ≤ 1000000000000) :
    ACall Tryz.prog 126 [.ptr zid 0, .ptr ix ox, .ptr iy oy] s fun r s' => r = .ptr zid 0 ∧ Upd s s' zid (X * Y) := by
  obtain ⟨lt, c, g, a0, a1⟩ := hx
  obtain ⟨lt2, c2, g2, b0, b1⟩ := hy
  have n1 : (digs W X.natAbs).length = lw X.natAbs := rfl
  have n2 : (digs W Y.natAbs).length = lw Y.natAbs := rfl
  have vx := val_digs W hW X.natAbs
  have vy := val_digs W hW Y.natAbs
  have dx := digs_lt W hW X.natAbs
  have dy := digs_lt W hW Y.natAbs
  have sgm := sg_mul X Y
  rw [← vx, ← vy] at sgm
  rw [← n1] at a1 hl
  rw [← n2] at b1 hl
  generalize digs W X.natAbs = xs at *
  generalize digs W Y.natAbs = ys at *
  generalize ng X = nX at *
  generalize ng Y = nY at *
  clear vx vy n1 n2
  have l2 := WL_len xs
  have l3 := WL_len ys
  refine acall_of Tryz.func126 rfl rfl (by simp [Tryz.ntmps126]) ?_; rw [Tryz.ntmps126, Tryz.results126]
  (first | refine go trivial ?_ | exact go0 trivial)
  refine aw_drwR (.take 0 (.take 1 (.take 2 (.take 3 (.take 4 (.take 5 (.take 6 (.take 7 (.take 8 (.take 9 (.take 10 (.done)))))))))))) 11 [12] [ix, iy] (by kernel_rfl) (by kernel_rfl) fun K hK => ?_; refine dt (cj rTI (cj @wl_idf (cj @wl_one (cj @g (cj @g2 (cj @a1 @b1)))))) ?_; refine hK _ _ ?_; clear hK K
  rw [then_normal]
  (first | refine go (cj rTI (cj @wl_idf (cj @wl_one (cj @g @a1)))) ?_ | exact go0 (cj rTI (cj @wl_idf (cj @wl_one (cj @g @a1)))))
  refine aw_loop (fun n e s' => ∃ (i : Nat) (ds : List Nat), MulO s zid ix ox iy oy xs ys n i ds e s') xs.length ?_ ?_
  · refine ⟨0, List.replicate (xs.length + ys.length) 0, ?_⟩
    constructor
    · constructor
      · exact Out.push s _
      all_goals (try (first | refine rn trivial ?_ | exact rn0 trivial))
      all_goals (first | done | omega | (refine congrArg some ?_; rfl) | rfl | (refine congrArg (fun z : Int => AV.v (.int .i64 z)) ?_; omega) | (intro i hi; (first | refine rn @lt ?_ | exact rn0 @lt)) | skip)
    · omega
    · omega
    · intro k hk
      simp [List.getD_eq_getElem?_getD, List.getElem?_replicate]
      try (split <;> rfl)
    · rw [val_replicate]; simp [val]
  · rintro n e s' ⟨i, ds, hO⟩
    have k0 := hO.en
    have k1 := hO.e0
    have k2 := hO.e1
    have k3 := hO.e2
    have k7 := hO.e7
    have k29 := hO.e29
    have k30 := hO.e30
    have k31 := hO.e31
    have gx := hO.o.fr ix lt
    have gy := hO.o.fr iy lt2
    rw [g] at gx
    rw [g2] at gy
    have b1' := hO.on
    have b2 := hO.oi
    by_cases hn : i < xs.length
    · have o1 := hd_WL xs i hn
      (first | refine go (cj rTI (cj @wl_idf (cj @wl_one (cj @k0 (cj @k29 (cj @k30 @k31)))))) ?_ | exact go0 (cj rTI (cj @wl_idf (cj @wl_one (cj @k0 (cj @k29 (cj @k30 @k31)))))))
      (try rw [then_normal]); (try refine aw_seq ?_); refine aw_cond rfl ?_ ?_ <;> intro hb <;> (try (cases hb; done)) <;> (try simp only [bq] at hb) <;> (try (exfalso; omega))
      (first | refine go (cj rTI (cj @wl_idf (cj @wl_one (cj @k0 (cj @k1 (cj @k2 (cj @k3 (cj @k7 (cj @k29 (cj @k30 (cj @k31 (cj @gy (cj @b1 (cj @o1 (cj @l2 @l3))))))))))))))) ?_ | exact go0 (cj rTI (cj @wl_idf (cj @wl_one (cj @k0 (cj @k1 (cj @k2 (cj @k3 (cj @k7 (cj @k29 (cj @k30 (cj @k31 (cj @gy (cj @b1 (cj @o1 (cj @l2 @l3))))))))))))))))
      refine aw_loop (fun n e s' => ∃ (j cr : Nat) (ds : List Nat), MulJ s zid ix ox iy oy xs ys i n j cr ds e s') ys.length ?_ ?_
      · refine ⟨0, 0, ds, ?_⟩
        constructor
        · constructor
          · exact hO.o
          all_goals (try (first | refine rn (cj @k0 (cj @k1 (cj @k2 (cj @k3 (cj @k7 (cj @k29 (cj @k30 @k31))))))) ?_ | exact rn0 (cj @k0 (cj @k1 (cj @k2 (cj @k3 (cj @k7 (cj @k29 (cj @k30 @k31)))))))))
        all_goals (try (first | refine rn (cj @k0 (cj @k1 (cj @k2 (cj @k3 (cj @k7 (cj @k29 (cj @k30 @k31))))))) ?_ | exact rn0 (cj @k0 (cj @k1 (cj @k2 (cj @k3 (cj @k7 (cj @k29 (cj @k30 @k31)))))))))
        all_goals (first | done | omega | (refine congrArg some ?_; rfl) | rfl | (refine congrArg (fun z : Int => AV.v (.int .i64 z)) ?_; omega) | (intro i hi; (first | refine rn @lt ?_ | exact rn0 @lt)) | skip)
        · exact hW0
        · exact hO.oz
        · rw [hO.ov]; simp [val]
      · clear k0 k1 k2 k3 k7 k29 k30 k31 gx gy b1' b2
        rintro n2 e2 s2 ⟨j, cr, ds, hJ⟩
        have k0 := hJ.en
        have k1 := hJ.e0
        have k2 := hJ.e1
        have k3 := hJ.e2
        have k7 := hJ.e7
        have k8 := hJ.e8
        have k9 := hJ.e9
        have k10 := hJ.e10
        have k29 := hJ.e29
        have k30 := hJ.e30
        have k31 := hJ.e31
        have k39 := hJ.e39
        have k40 := hJ.e40
        have k41 := hJ.e41
        have gd := hJ.o.g
        have ld := hJ.o.len
        have l4 := WL_len ds
        have c1 := hJ.jn
        have c2' := hJ.jj
        have gy := hJ.o.fr iy lt2
        rw [g2] at gy
        by_cases hj : j < ys.length
        · have p1 : ds.getD (i + j) 0 < 4294967296 := getD_lt W hW0 ds hJ.o.lt _
          have p2 : xs.getD i 0 < 4294967296 := getD_lt W hW0 xs dx _
          have p3 : ys.getD j 0 < 4294967296 := getD_lt W hW0 ys dy _
          have p4 : cr < 4294967296 := hJ.jc
          have o2 := hd_WL ys j hj
          have o3 := hd_WL ds (i + j) (by omega)
          obtain ⟨pr, hpr⟩ : ∃ pr, pr = xs.getD i 0 * ys.getD j 0 := ⟨_, rfl⟩
          have p5 : pr ≤ 4294967295 * 4294967295 := by rw [hpr]; exact Nat.mul_le_mul (by omega) (by omega)
          have e1 : ((xs.getD i 0 : Nat) : Int) * ((ys.getD j 0 : Nat) : Int) = (pr : Int) := by rw [hpr, Int.natCast_mul]
          have hst := times_step xs ys ds i j cr hJ.jv (by omega) _ rfl
          rw [← hpr] at hst
          obtain ⟨z, hz⟩ : ∃ z, z = pr + ds.getD (i + j) 0 + cr := ⟨_, rfl⟩
          rw [← hz] at hst
          have e2' := w32 z
          have e3 := sh32 z
          have p8 : ((i : Int) + (j : Int)).toNat = i + j := by omega
          have z3 : (j : Int) + 1 = ((j + 1 : Nat) : Int) := rfl
          have hput := hJ.o.put (i + j) (z % W) (Nat.mod_lt _ hW0) rfl rfl
          have q5 : z / W < W := by unfold W; omega
          have hz2 : ∀ k, i + ys.length ≤ k → (ds.set (i + j) (z % W)).getD k 0 = 0 := fun k hk => by
            rw [getD_set _ _ _ _ (by omega), if_neg (by omega)]
            exact hJ.jz k hk
          clear hpr
          (first | refine go (cj rTI (cj @wl_idf (cj @wl_one (cj @k0 (cj @k39 (cj @k40 @k41)))))) ?_ | exact go0 (cj rTI (cj @wl_idf (cj @wl_one (cj @k0 (cj @k39 (cj @k40 @k41)))))))
          (try rw [then_normal]); (try refine aw_seq ?_); refine aw_cond rfl ?_ ?_ <;> intro hb <;> (try (cases hb; done)) <;> (try simp only [bq] at hb) <;> (try (exfalso; omega))
          (first | refine go (cj rTI (cj @wl_idf (cj @wl_one (cj @k0 (cj @k7 (cj @k8 (cj @k9 (cj @k10 (cj @k39 (cj @k41 (cj @gd (cj @o2 (cj @o3 (cj @l3 (cj @l4 (cj @ld (cj @p8 (cj @e1 (cj @e2' (cj @e3 @Nat.zero_add)))))))))))))))))))) ?_ | exact go0 (cj rTI (cj @wl_idf (cj @wl_one (cj @k0 (cj @k7 (cj @k8 (cj @k9 (cj @k10 (cj @k39 (cj @k41 (cj @gd (cj @o2 (cj @o3 (cj @l3 (cj @l4 (cj @ld (cj @p8 (cj @e1 (cj @e2' (cj @e3 @Nat.zero_add)))))))))))))))))))))
          simp only [block_normal, loop_normal]
          refine ⟨ys.length - (j + 1), by omega, j + 1, z / W, ds.set (i + j) (z % W), ?_⟩
          constructor
          · constructor
            · exact hput
            all_goals (try (first | refine rn (cj @k0 (cj @k1 (cj @k2 (cj @k3 (cj @k7 (cj @k8 (cj @k9 (cj @k10 (cj @k29 (cj @k30 (cj @k31 (cj @k39 (cj @k40 @k41))))))))))))) ?_ | exact rn0 (cj @k0 (cj @k1 (cj @k2 (cj @k3 (cj @k7 (cj @k8 (cj @k9 (cj @k10 (cj @k29 (cj @k30 (cj @k31 (cj @k39 (cj @k40 @k41)))))))))))))))
          all_goals (try (first | refine rn (cj @k0 (cj @k1 (cj @k2 (cj @k3 (cj @k7 (cj @k8 (cj @k9 (cj @k10 (cj @k29 (cj @k30 (cj @k31 (cj @k39 (cj @k40 (cj @k41 (cj @z3 @e3))))))))))))))) ?_ | exact rn0 (cj @k0 (cj @k1 (cj @k2 (cj @k3 (cj @k7 (cj @k8 (cj @k9 (cj @k10 (cj @k29 (cj @k30 (cj @k31 (cj @k39 (cj @k40 (cj @k41 (cj @z3 @e3)))))))))))))))))
          all_goals (first | done | omega | (refine congrArg some ?_; rfl) | rfl | (refine congrArg (fun z : Int => AV.v (.int .i64 z)) ?_; omega) | (intro i hi; (first | refine rn @lt ?_ | exact rn0 @lt)) | skip)
          all_goals first | exact q5 | exact hJ.ji | exact hz2 | exact hst
        · obtain rfl : j = ys.length := by omega
          have p8 : ((i : Int) + (ys.length : Int)).toNat = i + ys.length := by omega
          have p9 := hJ.jz (i + ys.length) (Nat.le_refl _)
          have p4 : cr < 4294967296 := hJ.jc
          have hst := times_row xs ys ds i cr hJ.jv (by omega) p9
          have hput := hJ.o.put (i + ys.length) cr hJ.jc rfl rfl
          have b3 := hO.on
          have z3 : (i : Int) + 1 = ((i + 1 : Nat) : Int) := rfl
          (first | refine go (cj rTI (cj @wl_idf (cj @wl_one (cj @k0 (cj @k39 (cj @k40 @k41)))))) ?_ | exact go0 (cj rTI (cj @wl_idf (cj @wl_one (cj @k0 (cj @k39 (cj @k40 @k41)))))))
          (try rw [then_normal]); (try refine aw_seq ?_); refine aw_cond rfl ?_ ?_ <;> intro hb <;> (try (cases hb; done)) <;> (try simp only [bq] at hb) <;> (try (exfalso; omega))
          (first | refine go (cj rTI (cj @wl_idf (cj @wl_one (cj @k0 (cj @k3 (cj @k7 (cj @k8 (cj @k10 (cj @k31 (cj @gd (cj @gy (cj @b1 (cj @l4 (cj @ld (cj @p8 @Nat.zero_add))))))))))))))) ?_ | exact go0 (cj rTI (cj @wl_idf (cj @wl_one (cj @k0 (cj @k3 (cj @k7 (cj @k8 (cj @k10 (cj @k31 (cj @gd (cj @gy (cj @b1 (cj @l4 (cj @ld (cj @p8 @Nat.zero_add))))))))))))))))
          simp only [block_normal, loop_normal]
          refine ⟨xs.length - (i + 1), by omega, i + 1, ds.set (i + ys.length) cr, ?_⟩
          constructor
          · constructor
            · exact hput
            all_goals (try (first | refine rn (cj @k0 (cj @k1 (cj @k2 (cj @k3 (cj @k7 (cj @k8 (cj @k9 (cj @k10 (cj @k29 (cj @k30 (cj @k31 @z3))))))))))) ?_ | exact rn0 (cj @k0 (cj @k1 (cj @k2 (cj @k3 (cj @k7 (cj @k8 (cj @k9 (cj @k10 (cj @k29 (cj @k30 (cj @k31 @z3)))))))))))))
          · omega
          · omega
          · intro k hk
            rw [getD_set _ _ _ _ (by omega), if_neg (by omega)]
            exact hJ.jz k (by omega)
          · exact hst
    · have gd := hO.o.g
      have hv := hO.ov
      rw [List.take_of_length_le (by omega)] at hv
      have hnx := hO.o.nx
      have hs := set_ax (s'.frz s.nx (WL ds) fun _ => false) zid (nX != nY) ds (dst_mono hz (by show s.nx ≤ s'.nx; omega) (by rw [frz_false _ _ _ _ (Nat.ne_of_lt hz.lt)]; exact hO.o.fr zid hz.lt)) (by rw [hO.o.len]; omega) hO.o.lt
      rw [hv, sgm] at hs
      have ld := hO.o.len
      have hzne : ¬ zid = s.nx := Nat.ne_of_lt hz.lt
      have wt := WL_take ds _ ld
      have wn : AV.sl (xs.length + ys.length) (WL ds) = WN ds := by rw [← ld]; rfl
      (first | refine go (cj rTI (cj @wl_idf (cj @wl_one (cj @k0 (cj @k29 (cj @k30 @k31)))))) ?_ | exact go0 (cj rTI (cj @wl_idf (cj @wl_one (cj @k0 (cj @k29 (cj @k30 @k31)))))))
      (try rw [then_normal]); (try refine aw_seq ?_); refine aw_cond rfl ?_ ?_ <;> intro hb <;> (try (cases hb; done)) <;> (try simp only [bq] at hb) <;> (try (exfalso; omega))
      (first | refine go (cj rTI (cj @wl_idf (cj @wl_one @k0))) ?_ | exact go0 (cj rTI (cj @wl_idf (cj @wl_one @k0))))
      refine aw_drwR (.take 0 (.take 1 (.take 2 (.take 3 (.take 4 (.take 5 (.take 6 (.take 7 (.take 8 (.take 9 (.take 10 (.done)))))))))))) 11 [12] [ix, iy] (by kernel_rfl) (by kernel_rfl) fun K hK => ?_; refine dt (cj rTI (cj @wl_idf (cj @wl_one (cj @k0 (cj @k1 (cj @k2 (cj @k3 (cj @k7 (cj @gx (cj @gy (cj @a0 (cj @b0 @Nat.add_zero)))))))))))) ?_; refine acall_frz s.nx (WL ds) gd (fun _ => false) ?_; (first | refine rn (cj @wt @wn) ?_ | exact rn0 (cj @wt @wn)); refine cont_go hs ?_; rintro _ s2 ⟨rfl, hu⟩; refine dt (cj rTI (cj @wl_idf (cj @wl_one (cj @k0 (cj @k1 (cj @k2 (cj @k3 (cj @k7 (cj @gx (cj @gy (cj @a0 (cj @b0 @Nat.add_zero)))))))))))) ?_; refine hK _ _ ?_; clear hK K
      (first | refine go (cj rTI (cj @wl_idf (cj @wl_one @k0))) ?_ | exact go0 (cj rTI (cj @wl_idf (cj @wl_one @k0))))
      have hn2 : s'.nx ≤ s2.nx := hu.nx
      exact ⟨by omega, hu.lt, hu.g, fun i hi hne => by rw [hu.fr i (by show i < s'.nx; omega) hne, frz_false _ _ _ _ (by omega)]; exact hO.o.fr i hi⟩
theorem lw_small (n k : Nat) (h : n < W ^ k) : lw n ≤ k := (lw_lt _ _).1 h
theorem ten_lw (k : Nat) : lw (10 ^ k) ≤ k + 1 := lw_small _ _ (by
  have h1 : 10 ^ k ≤ W ^ k := Nat.pow_le_pow_left (by decide) k
  have h2 : W ^ k < W ^ (k + 1) := Nat.pow_lt_pow_right (by decide) (Nat.lt_succ_self k)
  exact Nat.lt_of_le_of_lt h1 h2)
theorem ten_ax (s : St) (k : Nat) (hk : k ≤ 1000000) : ACall Tryz.prog 123 [.v (.int .i64 k)] s fun r s' => ∃ id, r = .ptr id 0 ∧ New s s' id ((10 ^ k : Nat) : Int) := by
  refine acall_of Tryz.func123 rfl rfl (by simp [Tryz.ntmps123]) ?_; rw [Tryz.ntmps123, Tryz.results123]
  (first | refine go trivial ?_ | exact go0 trivial)
  refine aw_reg fun K hK => ?_; refine rn (cj rTI (cj @wl_idf @wl_one)) ?_; refine cont_go (newInt_ax s 1 (by decide) (by decide)) ?_; rintro _ s1 ⟨i1, rfl, n1⟩; (first | refine rn (cj rTI (cj @wl_idf @wl_one)) ?_ | exact rn0 (cj rTI (cj @wl_idf @wl_one))); refine cont_go (newInt_ax s1 10 (by decide) (by decide)) ?_; rintro _ s2 ⟨i2, rfl, n2⟩; refine rn (cj rTI (cj @wl_idf @wl_one)) ?_; refine hK _ _ ?_; clear hK K
  rw [then_normal]
  (first | refine go trivial ?_ | exact go0 trivial)
  refine aw_loop (fun n e s' => ∃ i : Nat, n = k - i ∧ i ≤ k ∧ e.n = 16 ∧ e.m 3 = .ptr i1 0 ∧ e.m 4 = .ptr i2 0 ∧ e.m 7 = .v (.int .i64 k) ∧ e.m 8 = .v (.int .i64 i) ∧ s.nx ≤ s'.nx ∧ i1 < s'.nx ∧ i2 < s'.nx ∧ s'.get i1 = some (IC ((10 ^ i : Nat) : Int)) ∧ s'.get i2 = some (IC 10) ∧ ∀ j, j < s.nx → s'.get j = s.get j) k ?_ ?_
  · refine ⟨0, ?_⟩
    (first | refine rn trivial ?_ | exact rn0 trivial)
    have a1 := n1.lo
    have a2 := n1.lt
    have a3 := n2.lo
    have a4 := n2.lt
    exact ⟨by omega, by omega, rfl, by omega, by omega, by omega, by rw [n2.fr i1 a2]; exact n1.g, n2.g, fun j hj => by rw [n2.fr j (by omega)]; exact n1.fr j hj⟩
  · rintro n e s' ⟨i, rfl, hi, h1, k3, k4, k7, k8, m1, m2, m3, g1, g2, fr⟩
    have a1 := n1.lo
    have a2 := n1.lt
    have a3 := n2.lo
    by_cases hk2 : i < k
    · have hm := mul_ax s' i1 i1 0 i2 0 ((10 ^ i : Nat) : Int) 10 ⟨m2, _, _, g1⟩ ⟨m2, _, g1, rfl, rfl⟩ ⟨m3, _, g2, rfl, rfl⟩ (by
        have h3 := ten_lw i
        have h4 := ten_lw 1
        rw [Int.natAbs_natCast]
        have h5 : lw (10 : Int).natAbs ≤ 2 := h4
        omega)
      have e1 : ((10 ^ i : Nat) : Int) * 10 = ((10 ^ (i + 1) : Nat) : Int) := by rw [Nat.pow_succ, Int.natCast_mul]; rfl
      have z3 : (i : Int) + 1 = ((i + 1 : Nat) : Int) := rfl
      rw [e1] at hm
      (first | refine go (cj @h1 (cj @k7 @k8)) ?_ | exact go0 (cj @h1 (cj @k7 @k8)))
      (try rw [then_normal]); (try refine aw_seq ?_); refine aw_cond rfl ?_ ?_ <;> intro hb <;> (try (cases hb; done)) <;> (try simp only [bq] at hb) <;> (try (exfalso; omega))
      (first | refine go trivial ?_ | exact go0 trivial)
      refine aw_reg fun K hK => ?_; refine rn (cj @h1 (cj @k3 @k4)) ?_; refine cont_go hm ?_; rintro _ s3 ⟨rfl, hu⟩; refine rn (cj @h1 (cj @k3 @k4)) ?_; refine hK _ _ ?_; clear hK K
      (first | refine rn trivial ?_ | exact rn0 trivial)
      (first | refine go (cj @h1 (cj @k3 (cj @k4 (cj @k7 @k8)))) ?_ | exact go0 (cj @h1 (cj @k3 (cj @k4 (cj @k7 @k8)))))
      refine ⟨k - (i + 1), by omega, i + 1, rfl, by omega, ?_⟩
      (first | refine rn (cj @h1 (cj @k3 (cj @k4 (cj @k7 (cj @k8 @z3))))) ?_ | exact rn0 (cj @h1 (cj @k3 (cj @k4 (cj @k7 (cj @k8 @z3))))))
      have q1 := hu.nx
      exact ⟨by omega, by omega, by omega, hu.g, by rw [hu.fr i2 m3 (by omega)]; exact g2, fun j hj => by rw [hu.fr j (by omega) (by omega)]; exact fr j hj⟩
    · obtain rfl : i = k := by omega
      (first | refine go (cj @h1 (cj @k7 @k8)) ?_ | exact go0 (cj @h1 (cj @k7 @k8)))
      (try rw [then_normal]); (try refine aw_seq ?_); refine aw_cond rfl ?_ ?_ <;> intro hb <;> (try (cases hb; done)) <;> (try simp only [bq] at hb) <;> (try (exfalso; omega))
      (first | refine go (cj @h1 @k3) ?_ | exact go0 (cj @h1 @k3))
      exact ⟨i1, rfl, a1, m2, g1, fr⟩
end Go.Proofs.YtfjelkjlfcafgaaGreatDoor.BigQ
end
section
/- Package big: fractions in boxes. -/
namespace Go.Proofs.YtfjelkjlfcafgaaGreatDoor.BigR
open Go Go.RowKit Go.Proofs.YtfjelkjlfcafgaaGreatDoor.Ax Go.Proofs.YtfjelkjlfcafgaaGreatDoor.Ti Go.Proofs.YtfjelkjlfcafgaaGreatDoor.BigM Go.Proofs.YtfjelkjlfcafgaaGreatDoor.BigN Go.Proofs.YtfjelkjlfcafgaaGreatDoor.BigA Go.Proofs.YtfjelkjlfcafgaaGreatDoor.BigB Go.Proofs.YtfjelkjlfcafgaaGreatDoor.BigL Go.Proofs.YtfjelkjlfcafgaaGreatDoor.BigF Go.Proofs.YtfjelkjlfcafgaaGreatDoor.BigI Go.Proofs.YtfjelkjlfcafgaaGreatDoor.BigJ Go.Proofs.YtfjelkjlfcafgaaGreatDoor.BigP Go.Proofs.YtfjelkjlfcafgaaGreatDoor.BigQ
set_option linter.unusedSimpArgs false
set_option linter.unusedVariables false
set_option maxRecDepth 4000
set_option maxHeartbeats 2000000
theorem rTI : type_of% (cj @ti41 (cj @ti35 (cj @ti165 (cj @ti198 (cj @ti3 (cj @ti2 (cj @ti4 (cj @ti176 @ti178)))))))) := cj @ti41 (cj @ti35 (cj @ti165 (cj @ti198 (cj @ti3 (cj @ti2 (cj @ti4 (cj @ti176 @ti178)))))))

/-- The cells of a fraction. -/
def RC (n d : Int) : List AV := [.v (.bool (ng n)), WN (digs W n.natAbs), .v (.bool (ng d)), WN (digs W d.natAbs)]
structure RatP (s : St) (id : Nat) (n d : Int) : Prop where
  lt : id < s.nx
  g : s.get id = some (RC n d)
theorem RatP.num {s : St} {id : Nat} {n d : Int} (h : RatP s id n d) : RdP s id 0 n := ⟨h.lt, _, h.g, rfl, rfl⟩
theorem RatP.mono {s s' : St} {id : Nat} {n d : Int} (h : RatP s id n d) (hn : s.nx ≤ s'.nx) (hg : s'.get id = s.get id) : RatP s' id n d := ⟨Nat.lt_of_lt_of_le h.lt hn, by rw [hg]; exact h.g⟩
/-- A new fraction. -/
structure NewR (s s' : St) (id : Nat) (n d : Int) : Prop where
  lo : s.nx ≤ id
  lt : id < s'.nx
  g : s'.get id = some (RC n d)
  fr : ∀ i, i < s.nx → s'.get i = s.get i
theorem NewR.nx {s s' : St} {id : Nat} {n d : Int} (h : NewR s s' id n d) : s.nx ≤ s'.nx := Nat.le_of_lt (Nat.lt_of_le_of_lt h.lo h.lt)
theorem NewR.rat {s s' : St} {id : Nat} {n d : Int} (h : NewR s s' id n d) : RatP s' id n d := ⟨h.lt, h.g⟩
structure UpdR (s s' : St) (id : Nat) (n d : Int) : Prop where
  nx : s.nx ≤ s'.nx
  lt : id < s'.nx
  g : s'.get id = some (RC n d)
  fr : ∀ i, i < s.nx → i ≠ id → s'.get i = s.get i
def low (n d : Int) : Int × Int := if d < 0 then ((-n).tdiv (Nat.gcd n.natAbs d.natAbs), (-d).tdiv (Nat.gcd n.natAbs d.natAbs)) else (n.tdiv (Nat.gcd n.natAbs d.natAbs), d.tdiv (Nat.gcd n.natAbs d.natAbs))
theorem _root_.Go.Proofs.YtfjelkjlfcafgaaGreatDoor.BigJ.New.otherR {s s' : St} {id : Nat} {Z : Int} (h : New s s' id Z) {i off : Nat} {X : Int} (hr : RdP s i off X) : RdP s' i off X := hr.mono h.nx (h.fr i hr.lt)
theorem den_ax (s : St) (id : Nat) (n d : Int) (hr : RatP s id n d) (hd : 0 < d) (hl : lw d.natAbs ≤ 1000000000000) : ACall Tryz.prog 122 [.ptr id 0] s fun r s' => ∃ i, r = .ptr i 0 ∧ New s s' i d := by
  have ho := of_ax s false (digs W d.natAbs) hl (digs_lt W hW _)
  rw [val_digs W hW, show sg false d.natAbs = d by unfold sg; simp; omega] at ho
  have g := hr.g
  have hp := lw_pos d.natAbs
  have q : 0 < lw d.natAbs := hp.2 (by omega)
  have n1 : (digs W d.natAbs).length = lw d.natAbs := rfl
  unfold RC WN at g
  refine acall_of Tryz.func122 rfl rfl (by simp [Tryz.ntmps122]) ?_; rw [Tryz.ntmps122, Tryz.results122]
  (first | refine go (cj rTI (cj @wl_idf (cj @wl_one (cj @g @n1)))) ?_ | exact go0 (cj rTI (cj @wl_idf (cj @wl_one (cj @g @n1)))))
  rw [then_normal]
  (try rw [then_normal]); (try refine aw_seq ?_); refine aw_cond rfl ?_ ?_ <;> intro hb <;> (try (cases hb; done)) <;> (try simp only [bq] at hb) <;> (try (exfalso; omega))
  (first | refine go trivial ?_ | exact go0 trivial)
  refine aw_reg fun K hK => ?_; refine rn (cj rTI (cj @wl_idf (cj @wl_one (cj @g (cj @n1 @WD_eq))))) ?_; refine cont_go ho ?_; rintro _ s1 ⟨i, rfl, hn⟩; refine rn (cj rTI (cj @wl_idf (cj @wl_one (cj @g (cj @n1 @WD_eq))))) ?_; refine hK _ _ ?_; clear hK K
  (first | refine go trivial ?_ | exact go0 trivial)
  exact ⟨i, rfl, hn⟩
theorem num_ax (s : St) (id : Nat) (n d : Int) (hr : RatP s id n d) (hl : lw n.natAbs ≤ 1000000000000) : ACall Tryz.prog 121 [.ptr id 0] s fun r s' => ∃ i, r = .ptr i 0 ∧ New s s' i n := by
  have ho := of_ax s (ng n) (digs W n.natAbs) hl (digs_lt W hW _)
  rw [val_digs W hW, sg_self] at ho
  have g := hr.g
  have n1 : (digs W n.natAbs).length = lw n.natAbs := rfl
  unfold RC WN at g
  refine acall_of Tryz.func121 rfl rfl (by simp [Tryz.ntmps121]) ?_; rw [Tryz.ntmps121, Tryz.results121]
  (first | refine go trivial ?_ | exact go0 trivial)
  refine aw_drwR (.take 0 (.take 1 (.take 2 (.take 3 (.take 4 (.take 5 (.take 6 (.take 7 (.take 8 (.take 9 (.done))))))))))) 10 [11] [id] (by kernel_rfl) (by kernel_rfl) fun K hK => ?_; refine dt (cj rTI (cj @wl_idf (cj @wl_one (cj @g (cj @n1 (cj @WD_eq (cj @Nat.add_zero @Nat.zero_add))))))) ?_; refine cont_go ho ?_; rintro _ s1 ⟨i, rfl, hn⟩; refine dt (cj rTI (cj @wl_idf (cj @wl_one (cj @g (cj @n1 (cj @WD_eq (cj @Nat.add_zero @Nat.zero_add))))))) ?_; refine hK _ _ ?_; clear hK K
  (first | refine go trivial ?_ | exact go0 trivial)
  exact ⟨i, rfl, hn⟩
theorem frac_ax (s : St) (zid ix ox iy oy : Nat) (n d : Int) (c0 c1 c2 c3 : AV) (lz : zid < s.nx) (gz : s.get zid = some [c0, c1, c2, c3]) (hx : RdP s ix ox n) (hy : RdP s iy oy d) (h0 : d ≠ 0) (hl : lw n.natAbs ≤ 1000000000000) (hl2 : lw d.natAbs ≤ 1000000000000) :
    ACall Tryz.prog 130 [.ptr zid 0, .ptr ix ox, .ptr iy oy] s fun r s' => r = .ptr zid 0 ∧ UpdR s s' zid (low n d).1 (low n d).2 := by
  have hg := gcd_ax s ix ox iy oy n d hx hy hl hl2
  have hgp : 0 < Nat.gcd n.natAbs d.natAbs := Nat.gcd_pos_of_pos_right _ (by omega)
  have hgl : lw (Nat.gcd n.natAbs d.natAbs) ≤ lw d.natAbs := lw_mono (Nat.gcd_le_right _ (by omega))
  refine acall_of Tryz.func130 rfl rfl (by simp [Tryz.ntmps130]) ?_; rw [Tryz.ntmps130, Tryz.results130]
  (first | refine go trivial ?_ | exact go0 trivial)
  refine aw_reg fun K hK => ?_; refine rn (cj rTI (cj @wl_idf @wl_one)) ?_; refine cont_go hg ?_; rintro _ s1 ⟨gi, rfl, hn⟩; refine rn (cj rTI (cj @wl_idf @wl_one)) ?_; refine hK _ _ ?_; clear hK K
  rw [then_normal]
  refine aw_seq ?_
  have hgn := hn.lo
  refine aw_only (fun e s2 => e.n = 35 ∧ e.m 0 = .ptr zid 0 ∧ e.m 1 = .ptr ix ox ∧ e.m 2 = .ptr iy oy ∧ e.m 7 = .ptr gi 0 ∧ ∃ G : Int, G ≠ 0 ∧ lw G.natAbs ≤ 1000000000000 ∧ n.tdiv G = (low n d).1 ∧ d.tdiv G = (low n d).2 ∧ s2.nx = s1.nx ∧ s2.get gi = some (IC G) ∧ ∀ i, i < s.nx → s2.get i = s.get i) ?_ ?_
  · obtain ⟨lt2, c2, g2, b0, b1⟩ := hn.otherR hy
    have gg := hn.g
    unfold low
    generalize hG : Nat.gcd n.natAbs d.natAbs = gc at *
    have hic : IC ((gc : Nat) : Int) = [.v (.bool false), .sl (lw gc) (WL (digs W gc))] := by
      unfold IC ng
      rw [decide_eq_false (by omega)]
      rfl
    rw [hic] at gg
    have gne : gi ≠ iy := by have := hy.lt; omega
    by_cases q : d < 0
    · rw [show ng d = true from decide_eq_true q] at b0
      (first | refine go (cj rTI (cj @wl_idf (cj @wl_one (cj @g2 (cj @b0 @Nat.add_zero))))) ?_ | exact go0 (cj rTI (cj @wl_idf (cj @wl_one (cj @g2 (cj @b0 @Nat.add_zero))))))
      rw [then_normal]
      (try rw [then_normal]); (try refine aw_seq ?_); refine aw_cond rfl ?_ ?_ <;> intro hb <;> (try (cases hb; done)) <;> (try simp only [bq] at hb) <;> (try (exfalso; omega))
      (first | refine go (cj rTI (cj @wl_idf (cj @wl_one (cj @gg @Nat.add_zero)))) ?_ | exact go0 (cj rTI (cj @wl_idf (cj @wl_one (cj @gg @Nat.add_zero)))))
      have hic2 : IC (-(gc : Int)) = [.v (.bool true), .sl (lw gc) (WL (digs W gc))] := by
        unfold IC ng
        rw [decide_eq_true (by omega), Int.natAbs_neg]
        rfl
      rw [if_pos q]
      refine ⟨rfl, by (first | refine rn trivial ?_ | exact rn0 trivial), by (first | refine rn trivial ?_ | exact rn0 trivial), by (first | refine rn trivial ?_ | exact rn0 trivial), by (first | refine rn trivial ?_ | exact rn0 trivial), by (first | refine rn trivial ?_ | exact rn0 trivial), -(gc : Int), by omega, by rw [Int.natAbs_neg]; exact Nat.le_trans hgl hl2, by rw [Int.tdiv_neg, Int.neg_tdiv], by show d.tdiv _ = (-d).tdiv _; rw [Int.tdiv_neg, Int.neg_tdiv], rfl, by rw [hic2]; exact St.set_same _ _ _, fun i hi => ?_⟩
      rw [St.set_ne _ _ _ _ (by omega)]
      exact hn.fr i hi
    · rw [show ng d = false from decide_eq_false q] at b0
      rw [if_neg q]
      (first | refine go (cj rTI (cj @wl_idf (cj @wl_one (cj @g2 (cj @b0 @Nat.add_zero))))) ?_ | exact go0 (cj rTI (cj @wl_idf (cj @wl_one (cj @g2 (cj @b0 @Nat.add_zero))))))
      rw [then_normal]
      (try rw [then_normal]); (try refine aw_seq ?_); refine aw_cond rfl ?_ ?_ <;> intro hb <;> (try (cases hb; done)) <;> (try simp only [bq] at hb) <;> (try (exfalso; omega))
      (first | refine go trivial ?_ | exact go0 trivial)
      exact ⟨(gc : Int), by omega, Nat.le_trans hgl hl2, rfl, rfl, by rw [hic]; exact gg, fun i hi => hn.fr i hi⟩
  · rintro e s2 ⟨h1, k0, k1, k2, k7, G, G0, Gl, e1, e2, nx2, g7, fr2⟩
    rw [then_normal]
    have lx := hx.lt
    have ly := hy.lt
    have hnlt := hn.lt
    have hnx := hn.nx
    have ps : ∀ (c c' : List AV) i, i < s2.nx → ((s2.push c).push c').get i = s2.get i := fun c c' i hi => by rw [St.push_ne _ _ _ (by show i ≠ s2.nx + 1; omega), St.push_ne _ _ _ (by omega)]
    have p0 : ((s2.push [.v (.bool false), .v (.slice none 0 0)]).push [.v (.bool false), .v (.slice none 0 0)]).get s2.nx = some [.v (.bool false), .v (.slice none 0 0)] := by rw [St.push_ne _ _ _ (by show s2.nx ≠ s2.nx + 1; omega), St.push_same]
    have hx2 : RdP s2 ix ox n := hx.mono (by omega) (fr2 ix lx)
    have hy2 : RdP s2 iy oy d := hy.mono (by omega) (fr2 iy ly)
    have hq1 := quo_ax ((s2.push [.v (.bool false), .v (.slice none 0 0)]).push [.v (.bool false), .v (.slice none 0 0)]) s2.nx ix ox gi 0 n G ⟨by show s2.nx < s2.nx + 1 + 1; omega, _, _, p0⟩ (hx2.mono (by show s2.nx ≤ s2.nx + 1 + 1; omega) (ps _ _ _ hx2.lt)) ⟨by show gi < s2.nx + 1 + 1; omega, _, by rw [ps _ _ _ (by omega)]; exact g7, rfl, rfl⟩ G0 hl Gl
    (first | refine go (cj rTI (cj @wl_idf (cj @wl_one @h1))) ?_ | exact go0 (cj rTI (cj @wl_idf (cj @wl_one @h1))))
    refine aw_reg fun K hK => ?_; refine rn (cj rTI (cj @wl_idf (cj @wl_one (cj @k1 @k7)))) ?_; refine cont_go hq1 ?_; rintro _ s3 ⟨rfl, hu⟩; refine rn (cj rTI (cj @wl_idf (cj @wl_one (cj @k1 @k7)))) ?_; refine hK _ _ ?_; clear hK K
    rw [then_normal]
    have u1 := hu.nx
    have u1' : s2.nx + 2 ≤ s3.nx := u1
    have g3 : s3.get gi = some (IC G) := by rw [hu.fr gi (by show gi < s2.nx + 1 + 1; omega) (by omega), ps _ _ _ (by omega)]; exact g7
    have fr3 : ∀ i, i < s2.nx → s3.get i = s2.get i := fun i hi => by rw [hu.fr i (by show i < s2.nx + 1 + 1; omega) (by omega), ps _ _ _ hi]
    have p1 : s3.get (s2.nx + 1) = some [.v (.bool false), .v (.slice none 0 0)] := by
      rw [hu.fr _ (by show s2.nx + 1 < s2.nx + 1 + 1; omega) (by omega)]
      exact St.push_same _ _
    have hq2 := quo_ax s3 (s2.nx + 1) iy oy gi 0 d G ⟨by omega, _, _, p1⟩ (hy2.mono (by omega) (fr3 iy hy2.lt)) ⟨by omega, _, g3, rfl, rfl⟩ G0 hl2 Gl
    (first | refine go (cj rTI (cj @wl_idf (cj @wl_one @h1))) ?_ | exact go0 (cj rTI (cj @wl_idf (cj @wl_one @h1))))
    refine aw_reg fun K hK => ?_; refine rn (cj rTI (cj @wl_idf (cj @wl_one (cj @k2 @k7)))) ?_; refine cont_go hq2 ?_; rintro _ s4 ⟨rfl, hv⟩; refine rn (cj rTI (cj @wl_idf (cj @wl_one (cj @k2 @k7)))) ?_; refine hK _ _ ?_; clear hK K
    rw [then_normal]
    rw [e1] at hu
    rw [e2] at hv
    have v1 := hv.nx
    have ga : s4.get s2.nx = some (IC (low n d).1) := by rw [hv.fr _ (by omega) (by omega)]; exact hu.g
    have gb := hv.g
    have gz4 : s4.get zid = some [c0, c1, c2, c3] := by rw [hv.fr _ (by omega) (by omega), fr3 _ (by omega), fr2 _ lz]; exact gz
    unfold IC WN at ga gb
    generalize (low n d).1 = l1 at *
    generalize (low n d).2 = l2 at *
    (first | refine go (cj rTI (cj @wl_idf (cj @wl_one (cj @h1 (cj @k0 (cj @ga (cj @gb @gz4))))))) ?_ | exact go0 (cj rTI (cj @wl_idf (cj @wl_one (cj @h1 (cj @k0 (cj @ga (cj @gb @gz4))))))))
    refine ⟨by show s.nx ≤ s4.nx; omega, by show zid < s4.nx; omega, St.set_same _ _ _, fun i hi hne => ?_⟩
    rw [St.set_ne _ _ _ _ hne, St.set_ne _ _ _ _ hne, hv.fr _ (by omega) (by omega), fr3 _ (by omega), fr2 _ hi]
theorem newRat_frac (s : St) (ix ox iy oy : Nat) (n d : Int) (hx : RdP s ix ox n) (hy : RdP s iy oy d) (h0 : d ≠ 0) (hl : lw n.natAbs ≤ 1000000000000) (hl2 : lw d.natAbs ≤ 1000000000000) :
    ACall Tryz.prog 124 [.ptr ix ox, .ptr iy oy] s fun r s' => ∃ id, r = .ptr id 0 ∧ NewR s s' id (low n d).1 (low n d).2 := by
  have ps : ∀ (c : List AV) i, i < s.nx → (s.push c).get i = s.get i := fun c i hi => St.push_ne _ _ _ (by omega)
  have hf := frac_ax (s.push [.v (.bool false), .v (.slice none 0 0), .v (.bool false), .v (.slice none 0 0)]) s.nx ix ox iy oy n d _ _ _ _ (Nat.lt_succ_self _) (St.push_same _ _) (hx.mono (Nat.le_succ _) (ps _ _ hx.lt)) (hy.mono (Nat.le_succ _) (ps _ _ hy.lt)) h0 hl hl2
  refine acall_of Tryz.func124 rfl rfl (by simp [Tryz.ntmps124]) ?_; rw [Tryz.ntmps124, Tryz.results124]
  (first | refine go trivial ?_ | exact go0 trivial)
  refine aw_reg fun K hK => ?_; refine rn (cj rTI (cj @wl_idf @wl_one)) ?_; refine cont_go hf ?_; rintro _ s1 ⟨rfl, hu⟩; refine rn (cj rTI (cj @wl_idf @wl_one)) ?_; refine hK _ _ ?_; clear hK K
  (first | refine go trivial ?_ | exact go0 trivial)
  refine ⟨s.nx, rfl, Nat.le_refl _, hu.lt, hu.g, fun i hi => ?_⟩
  rw [hu.fr i (Nat.lt_succ_of_lt hi) (by omega), ps _ _ hi]
theorem newRat_ax (s : St) (n d : Int) (n1 : -9223372036854775808 ≤ n) (n2 : n ≤ 9223372036854775807) (d1 : -9223372036854775808 ≤ d) (d2 : d ≤ 9223372036854775807) (h0 : d ≠ 0) :
    ACall Tryz.prog 72 [.v (.int .i64 n), .v (.int .i64 d)] s fun r s' => ∃ id, r = .ptr id 0 ∧ NewR s s' id (low n d).1 (low n d).2 := by
  refine acall_of Tryz.func72 rfl rfl (by simp [Tryz.ntmps72]) ?_; rw [Tryz.ntmps72, Tryz.results72]
  (first | refine go trivial ?_ | exact go0 trivial)
  have l1 : lw n.natAbs ≤ 1000000000000 := Nat.le_trans ((lw_two _).2 (by omega)) (by decide)
  have l2 : lw d.natAbs ≤ 1000000000000 := Nat.le_trans ((lw_two _).2 (by omega)) (by decide)
  refine aw_reg fun K hK => ?_; refine rn (cj rTI (cj @wl_idf @wl_one)) ?_; refine cont_go (newInt_ax s n n1 n2) ?_; rintro _ s1 ⟨i1, rfl, m1⟩; (first | refine rn (cj rTI (cj @wl_idf @wl_one)) ?_ | exact rn0 (cj rTI (cj @wl_idf @wl_one))); refine cont_go (newInt_ax s1 d d1 d2) ?_; rintro _ s2 ⟨i2, rfl, m2⟩; (first | refine rn (cj rTI (cj @wl_idf @wl_one)) ?_ | exact rn0 (cj rTI (cj @wl_idf @wl_one))); refine cont_go (newRat_frac s2 i1 0 i2 0 n d (m2.otherR m1.rdP) m2.rdP h0 l1 l2) ?_; rintro _ s3 ⟨i3, rfl, m3⟩; refine rn (cj rTI (cj @wl_idf @wl_one)) ?_; refine hK _ _ ?_; clear hK K
  (first | refine go trivial ?_ | exact go0 trivial)
  have q1 := m1.nx
  have q2 := m2.nx
  have q3 := m3.lo
  exact ⟨i3, rfl, by omega, m3.lt, m3.g, fun i hi => by rw [m3.fr i (by omega), m2.fr i (by omega), m1.fr i hi]⟩
theorem low_lw (n d : Int) : lw (low n d).1.natAbs ≤ lw n.natAbs ∧ lw (low n d).2.natAbs ≤ lw d.natAbs := by
  unfold low
  split
  · exact ⟨lw_mono (by rw [Int.natAbs_tdiv, Int.natAbs_neg]; exact Nat.div_le_self _ _), lw_mono (by rw [Int.natAbs_tdiv, Int.natAbs_neg]; exact Nat.div_le_self _ _)⟩
  · exact ⟨lw_mono (by rw [Int.natAbs_tdiv]; exact Nat.div_le_self _ _), lw_mono (by rw [Int.natAbs_tdiv]; exact Nat.div_le_self _ _)⟩
/-- Two new numbers of value 0, as they are before they are written to. -/
theorem two_old (s : St) (c c' : List AV) (i : Nat) (hi : i < s.nx) : ((s.push c).push c').get i = s.get i := by rw [St.push_ne _ _ _ (by show i ≠ s.nx + 1; omega), St.push_ne _ _ _ (by omega)]
theorem two_g0 (s : St) (c c' : List AV) : ((s.push c).push c').get s.nx = some c := by rw [St.push_ne _ _ _ (by show s.nx ≠ s.nx + 1; omega), St.push_same]
theorem two_g1 (s : St) (c c' : List AV) : ((s.push c).push c').get (s.nx + 1) = some c' := St.push_same _ _
theorem two_nx (s : St) (c c' : List AV) : ((s.push c).push c').nx = s.nx + 2 := rfl
theorem mulR_ax (s : St) (zid ix iy : Nat) (a b c d : Int) (c0 c1 c2 c3 : AV) (lz : zid < s.nx) (gz : s.get zid = some [c0, c1, c2, c3]) (hx : RatP s ix a b) (hy : RatP s iy c d) (hb0 : 0 < b) (hd0 : 0 < d)
    (hl : lw a.natAbs + lw c.natAbs ≤ 1000000000000) (hl2 : lw b.natAbs + lw d.natAbs ≤ 1000000000000) :
    ACall Tryz.prog 71 [.ptr zid 0, .ptr ix 0, .ptr iy 0] s fun r s' => r = .ptr zid 0 ∧ UpdR s s' zid (low (a * c) (b * d)).1 (low (a * c) (b * d)).2 := by
  have lx := hx.lt
  have ly := hy.lt
  have bd : b * d ≠ 0 := Int.mul_ne_zero (by omega) (by omega)
  have l1 : lw (a * c).natAbs ≤ 1000000000000 := by rw [Int.natAbs_mul]; exact Nat.le_trans (lw_mul _ _) hl
  have l2 : lw (b * d).natAbs ≤ 1000000000000 := by rw [Int.natAbs_mul]; exact Nat.le_trans (lw_mul _ _) hl2
  obtain ⟨t, ht⟩ : ∃ t, t = (s.push [.v (.bool false), .v (.slice none 0 0)]).push [.v (.bool false), .v (.slice none 0 0)] := ⟨_, rfl⟩
  have tn : t.nx = s.nx + 2 := by rw [ht]; rfl
  have to : ∀ i, i < s.nx → t.get i = s.get i := fun i hi => by rw [ht]; exact two_old s _ _ i hi
  have t0 : t.get s.nx = some [.v (.bool false), .v (.slice none 0 0)] := by rw [ht]; exact two_g0 s _ _
  have t1 : t.get (s.nx + 1) = some [.v (.bool false), .v (.slice none 0 0)] := by rw [ht]; exact two_g1 s _ _
  have x1 : RatP t ix a b := hx.mono (by omega) (to _ lx)
  have y1 : RatP t iy c d := hy.mono (by omega) (to _ ly)
  have m1 := mul_ax t s.nx ix 0 iy 0 a c ⟨by omega, _, _, t0⟩ x1.num y1.num hl
  refine acall_of Tryz.func71 rfl rfl (by simp [Tryz.ntmps71]) ?_; rw [Tryz.ntmps71, Tryz.results71]
  (first | refine go (cj rTI (cj @wl_idf @wl_one)) ?_ | exact go0 (cj rTI (cj @wl_idf @wl_one)))
  rw [← ht]
  refine aw_drwR (.take 0 (.take 1 (.take 2 (.take 3 (.take 4 (.take 5 (.done))))))) 6 [] [] (by kernel_rfl) (by kernel_rfl) fun K hK => ?_; refine dt (cj rTI (cj @wl_idf @wl_one)) ?_; refine cont_go m1 ?_; rintro _ s1 ⟨rfl, u1⟩; refine dt (cj rTI (cj @wl_idf @wl_one)) ?_; refine hK _ _ ?_; clear hK K
  rw [then_normal]
  have n1 := u1.nx
  have x2 : RatP s1 ix a b := x1.mono (by omega) (u1.fr _ (by omega) (by omega))
  have y2 : RatP s1 iy c d := y1.mono (by omega) (u1.fr _ (by omega) (by omega))
  have q1 := den_ax s1 ix a b x2 hb0 (by omega)
  refine aw_seq ?_
  refine aw_reg fun K hK => ?_; refine rn (cj rTI (cj @wl_idf @wl_one)) ?_; refine cont_go q1 ?_; rintro _ s2 ⟨i1, rfl, w1⟩; have n2 := w1.nx; have n2l := w1.lo; have n2h := w1.lt; have q2 := den_ax s2 iy c d (y2.mono n2 (w1.fr _ (by omega))) hd0 (by omega); (first | refine rn (cj rTI (cj @wl_idf @wl_one)) ?_ | exact rn0 (cj rTI (cj @wl_idf @wl_one))); refine cont_go q2 ?_; rintro _ s3 ⟨i2, rfl, w2⟩; have n3 := w2.nx; have n3l := w2.lo; have n3h := w2.lt; have t13 : s3.get (s.nx + 1) = some [.v (.bool false), .v (.slice none 0 0)] := (by rw [w2.fr _ (by omega), w1.fr _ (by omega), u1.fr _ (by omega) (by omega)]; exact t1); have q3 := mul_ax s3 (s.nx + 1) i1 0 i2 0 b d ⟨by omega, _, _, t13⟩ (w2.otherR w1.rdP) w2.rdP hl2; (first | refine rn (cj rTI (cj @wl_idf @wl_one)) ?_ | exact rn0 (cj rTI (cj @wl_idf @wl_one))); refine cont_go q3 ?_; rintro _ s4 ⟨rfl, u2⟩; refine rn (cj rTI (cj @wl_idf @wl_one)) ?_; refine hK _ _ ?_; clear hK K
  rw [then_normal]
  have n4 := u2.nx
  have fr4 : ∀ i, i < s.nx → s4.get i = s.get i := fun i hi => by rw [u2.fr i (by omega) (by omega), w2.fr i (by omega), w1.fr i (by omega), u1.fr i (by omega) (by omega), to i hi]
  have g0 : s4.get s.nx = some (IC (a * c)) := by rw [u2.fr _ (by omega) (by omega), w2.fr _ (by omega), w1.fr _ (by omega)]; exact u1.g
  have q4 := frac_ax s4 zid s.nx 0 (s.nx + 1) 0 (a * c) (b * d) c0 c1 c2 c3 (by omega) (by rw [fr4 _ lz]; exact gz) ⟨by omega, _, g0, rfl, rfl⟩ u2.rdP bd l1 l2
  (first | refine go (cj rTI (cj @wl_idf @wl_one)) ?_ | exact go0 (cj rTI (cj @wl_idf @wl_one)))
  refine aw_reg fun K hK => ?_; refine rn (cj rTI (cj @wl_idf @wl_one)) ?_; refine cont_go q4 ?_; rintro _ s5 ⟨rfl, u3⟩; refine rn (cj rTI (cj @wl_idf @wl_one)) ?_; refine hK _ _ ?_; clear hK K
  (first | refine go trivial ?_ | exact go0 trivial)
  have n5 := u3.nx
  exact ⟨by omega, u3.lt, u3.g, fun i hi hne => by rw [u3.fr i (by omega) hne, fr4 i hi]⟩
theorem cmpR_ax (s : St) (ix iy : Nat) (a b c d : Int) (hx : RatP s ix a b) (hy : RatP s iy c d) (hb0 : 0 < b) (hd0 : 0 < d) (hl : lw a.natAbs + lw d.natAbs ≤ 1000000000000) (hl2 : lw c.natAbs + lw b.natAbs ≤ 1000000000000) :
    ACall Tryz.prog 76 [.ptr ix 0, .ptr iy 0] s fun r s' => r = .v (.int .i64 (sgn (a * d - c * b))) ∧ s' = s := by
  refine acall_drop (R := fun r => r = .v (.int .i64 (sgn (a * d - c * b)))) ?_
  have lx := hx.lt
  have ly := hy.lt
  have l1 : lw (a * d).natAbs ≤ 1000000000000 := by rw [Int.natAbs_mul]; exact Nat.le_trans (lw_mul _ _) hl
  have l2 : lw (c * b).natAbs ≤ 1000000000000 := by rw [Int.natAbs_mul]; exact Nat.le_trans (lw_mul _ _) hl2
  obtain ⟨t, ht⟩ : ∃ t, t = (s.push [.v (.bool false), .v (.slice none 0 0)]).push [.v (.bool false), .v (.slice none 0 0)] := ⟨_, rfl⟩
  have tn : t.nx = s.nx + 2 := by rw [ht]; rfl
  have to : ∀ i, i < s.nx → t.get i = s.get i := fun i hi => by rw [ht]; exact two_old s _ _ i hi
  have t0 : t.get s.nx = some [.v (.bool false), .v (.slice none 0 0)] := by rw [ht]; exact two_g0 s _ _
  have t1 : t.get (s.nx + 1) = some [.v (.bool false), .v (.slice none 0 0)] := by rw [ht]; exact two_g1 s _ _
  have x1 : RatP t ix a b := hx.mono (by omega) (to _ lx)
  have y1 : RatP t iy c d := hy.mono (by omega) (to _ ly)
  have q1 := den_ax t iy c d y1 hd0 (by omega)
  refine acall_of Tryz.func76 rfl rfl (by simp [Tryz.ntmps76]) ?_; rw [Tryz.ntmps76, Tryz.results76]
  (first | refine go (cj rTI (cj @wl_idf @wl_one)) ?_ | exact go0 (cj rTI (cj @wl_idf @wl_one)))
  rw [← ht]
  refine aw_drw (.take 0 (.take 1 (.take 2 (.take 3 (.one 4 (.one 5 (.done))))))) [] (by kernel_rfl) (by kernel_rfl) fun K hK => ?_; refine dr (cj rTI (cj @wl_idf @wl_one)) ?_; refine cont_go q1 ?_; rintro _ s1 ⟨i1, rfl, w1⟩; have n1 := w1.nx; have n1l := w1.lo; have n1h := w1.lt; have t01 : s1.get s.nx = some [.v (.bool false), .v (.slice none 0 0)] := (by rw [w1.fr _ (by omega)]; exact t0); have x2 : RatP s1 ix a b := x1.mono n1 (w1.fr _ (by omega)); have q2 := mul_ax s1 s.nx ix 0 i1 0 a d ⟨by omega, _, _, t01⟩ x2.num w1.rdP hl; refine dr (cj rTI (cj @wl_idf @wl_one)) ?_; refine cont_go q2 ?_; rintro _ s2 ⟨rfl, u1⟩; refine dr (cj rTI (cj @wl_idf @wl_one)) ?_; refine hK _ _ ?_; clear hK K
  rw [then_normal]
  have n2 := u1.nx
  have x3 : RatP s2 ix a b := x2.mono n2 (u1.fr _ (by omega) (by omega))
  have y3 : RatP s2 iy c d := y1.mono (by omega) (by rw [u1.fr _ (by omega) (by omega), w1.fr _ (by omega)])
  have q3 := den_ax s2 ix a b x3 hb0 (by omega)
  refine aw_seq ?_
  refine aw_drw (.take 0 (.take 1 (.take 2 (.take 3 (.one 4 (.one 5 (.done))))))) [] (by kernel_rfl) (by kernel_rfl) fun K hK => ?_; refine dr (cj rTI (cj @wl_idf @wl_one)) ?_; refine cont_go q3 ?_; rintro _ s3 ⟨i2, rfl, w2⟩; have n3 := w2.nx; have n3l := w2.lo; have n3h := w2.lt; have t13 : s3.get (s.nx + 1) = some [.v (.bool false), .v (.slice none 0 0)] := (by rw [w2.fr _ (by omega), u1.fr _ (by omega) (by omega), w1.fr _ (by omega)]; exact t1); have y4 : RatP s3 iy c d := y3.mono n3 (w2.fr _ (by omega)); have q4 := mul_ax s3 (s.nx + 1) iy 0 i2 0 c b ⟨by omega, _, _, t13⟩ y4.num w2.rdP hl2; refine dr (cj rTI (cj @wl_idf @wl_one)) ?_; refine cont_go q4 ?_; rintro _ s4 ⟨rfl, u2⟩; refine dr (cj rTI (cj @wl_idf @wl_one)) ?_; refine hK _ _ ?_; clear hK K
  rw [then_normal]
  have n4 := u2.nx
  have g0 : s4.get s.nx = some (IC (a * d)) := by rw [u2.fr _ (by omega) (by omega), w2.fr _ (by omega)]; exact u1.g
  have fr4 : ∀ i, i < s.nx → s4.get i = s.get i := fun i hi => by rw [u2.fr i (by omega) (by omega), w2.fr i (by omega), u1.fr i (by omega) (by omega), w1.fr i (by omega), to i hi]
  have q5 := cmpI_ax s4 s.nx 0 (s.nx + 1) 0 (a * d) (c * b) ⟨by omega, _, g0, rfl, rfl⟩ u2.rdP l1 l2
  (first | refine go (cj rTI (cj @wl_idf @wl_one)) ?_ | exact go0 (cj rTI (cj @wl_idf @wl_one)))
  refine aw_reg fun K hK => ?_; refine rn (cj rTI (cj @wl_idf @wl_one)) ?_; refine cont_go q5 ?_; rintro _ s5 ⟨rfl, rfl⟩; refine rn (cj rTI (cj @wl_idf @wl_one)) ?_; refine hK _ _ ?_; clear hK K
  (first | refine go trivial ?_ | exact go0 trivial)
  exact fr4
end Go.Proofs.YtfjelkjlfcafgaaGreatDoor.BigR
end
section
/- Packages wide and limb: numbers as the document has them, and the program's own. -/
namespace Go.Proofs.YtfjelkjlfcafgaaGreatDoor.BigS
open Go Go.RowKit Go.Proofs.YtfjelkjlfcafgaaGreatDoor.Ax Go.Proofs.YtfjelkjlfcafgaaGreatDoor.Ti Go.Proofs.YtfjelkjlfcafgaaGreatDoor.BigM Go.Proofs.YtfjelkjlfcafgaaGreatDoor.BigN Go.Proofs.YtfjelkjlfcafgaaGreatDoor.BigA Go.Proofs.YtfjelkjlfcafgaaGreatDoor.BigB Go.Proofs.YtfjelkjlfcafgaaGreatDoor.BigL Go.Proofs.YtfjelkjlfcafgaaGreatDoor.BigF Go.Proofs.YtfjelkjlfcafgaaGreatDoor.BigI Go.Proofs.YtfjelkjlfcafgaaGreatDoor.BigJ Go.Proofs.YtfjelkjlfcafgaaGreatDoor.BigP Go.Proofs.YtfjelkjlfcafgaaGreatDoor.BigQ Go.Proofs.YtfjelkjlfcafgaaGreatDoor.BigR
set_option linter.unusedSimpArgs false
set_option linter.unusedVariables false
set_option maxRecDepth 4000
set_option maxHeartbeats 2000000
theorem rTI : type_of% (cj @ti41 (cj @ti35 (cj @ti165 (cj @ti198 (cj @ti3 (cj @ti2 (cj @ti4 (cj @ti176 (cj @ti178 (cj @ti43 (cj @ti45 @ti25))))))))))) := cj @ti41 (cj @ti35 (cj @ti165 (cj @ti198 (cj @ti3 (cj @ti2 (cj @ti4 (cj @ti176 (cj @ti178 (cj @ti43 (cj @ti45 @ti25))))))))))

theorem ic_eq (X : Int) : IC X = [.v (.bool (ng X)), .sl (lw X.natAbs) (WL (digs W X.natAbs))] := rfl
theorem rc_eq (n d : Int) : RC n d = [.v (.bool (ng n)), .sl (lw n.natAbs) (WL (digs W n.natAbs)), .v (.bool (ng d)), .sl (lw d.natAbs) (WL (digs W d.natAbs))] := rfl
theorem give_ax (s : St) (ix ox : Nat) (X : Int) (hx : RdP s ix ox X) (hl : lw X.natAbs ≤ 1000000000000) : ACall Tryz.prog 120 [.ptr ix ox] s fun r s' => r = .ag (IC X) ∧ s' = s := by
  refine acall_drop (R := fun r => r = .ag (IC X)) ?_
  have p : ∀ (c : List AV) i, i < s.nx → (s.push c).get i = s.get i := fun c i hi => St.push_ne _ _ _ (by omega)
  have hx1 : RdP (s.push [.v (.bool false), .v (.slice none 0 0)]) ix ox X := hx.mono (Nat.le_succ _) (p _ _ hx.lt)
  have q1 := sign_ax _ ix ox X hx1 hl
  have q2 := words_ax _ ix ox X hx1 hl
  have e1 : ∀ b : Bool, b = ng X → AV.v (.bool b) = AV.v (.bool (ng X)) := fun b h => by rw [h]
  rw [ic_eq]
  refine acall_of Tryz.func120 rfl rfl (by simp [Tryz.ntmps120]) ?_; rw [Tryz.ntmps120, Tryz.results120]
  by_cases q : X < 0
  · have hn : ng X = true := decide_eq_true q
    rw [if_pos q] at q1
    rw [hn]
    (first | refine go (cj rTI (cj @wl_idf @wl_one)) ?_ | exact go0 (cj rTI (cj @wl_idf @wl_one)))
    refine aw_reg fun K hK => ?_; refine rn (cj rTI (cj @wl_idf @wl_one)) ?_; refine cont_go q1 ?_; rintro _ s1 ⟨rfl, rfl⟩; (first | refine rn (cj rTI (cj @wl_idf @wl_one)) ?_ | exact rn0 (cj rTI (cj @wl_idf @wl_one))); refine cont_go q2 ?_; rintro _ s2 ⟨rfl, rfl⟩; rw [← WD_eq]; refine rn (cj rTI (cj @wl_idf @wl_one)) ?_; refine hK _ _ ?_; clear hK K
    (first | refine go (cj rTI (cj @wl_idf @wl_one)) ?_ | exact go0 (cj rTI (cj @wl_idf @wl_one)))
    exact fun i hi => if_neg (by omega)
  · have hn : ng X = false := decide_eq_false q
    rw [if_neg q] at q1
    rw [hn]
    obtain ⟨v, hv, hv0, hv1⟩ : ∃ v : Int, (if X = 0 then (0 : Int) else 1) = v ∧ 0 ≤ v ∧ v ≤ 1 := ⟨_, rfl, by split <;> omega, by split <;> omega⟩
    rw [hv] at q1
    (first | refine go (cj rTI (cj @wl_idf @wl_one)) ?_ | exact go0 (cj rTI (cj @wl_idf @wl_one)))
    refine aw_reg fun K hK => ?_; refine rn (cj rTI (cj @wl_idf @wl_one)) ?_; refine cont_go q1 ?_; rintro _ s1 ⟨rfl, rfl⟩; (first | refine rn (cj rTI (cj @wl_idf @wl_one)) ?_ | exact rn0 (cj rTI (cj @wl_idf @wl_one))); refine cont_go q2 ?_; rintro _ s2 ⟨rfl, rfl⟩; rw [← WD_eq]; refine rn (cj rTI (cj @wl_idf @wl_one)) ?_; refine hK _ _ ?_; clear hK K
    (first | refine go (cj rTI (cj @wl_idf @wl_one)) ?_ | exact go0 (cj rTI (cj @wl_idf @wl_one)))
    exact fun i hi => if_neg (by omega)
theorem fracW_ax (s : St) (id : Nat) (n d : Int) (hr : RatP s id n d) (hd : 0 < d) (hl : lw n.natAbs ≤ 1000000000000) (hl2 : lw d.natAbs ≤ 1000000000000) : ACall Tryz.prog 67 [.ptr id 0] s fun r s' => r = .ag (RC n d) ∧ s' = s := by
  refine acall_drop (R := fun r => r = .ag (RC n d)) ?_
  have p : ∀ (c : List AV) i, i < s.nx → (s.push c).get i = s.get i := fun c i hi => St.push_ne _ _ _ (by omega)
  have hx1 : RatP (s.push [.v (.bool false), .v (.slice none 0 0), .v (.bool false), .v (.slice none 0 0)]) id n d := hr.mono (Nat.le_succ _) (p _ _ hr.lt)
  have q1 := num_ax _ id n d hx1 hl
  have q0 : (s.push [.v (.bool false), .v (.slice none 0 0), .v (.bool false), .v (.slice none 0 0)]).get s.nx = some [.v (.bool false), .v (.slice none 0 0), .v (.bool false), .v (.slice none 0 0)] := St.push_same _ _
  have qn : (s.push [.v (.bool false), .v (.slice none 0 0), .v (.bool false), .v (.slice none 0 0)]).nx = s.nx + 1 := rfl
  have qp := p [.v (.bool false), .v (.slice none 0 0), .v (.bool false), .v (.slice none 0 0)]
  rw [rc_eq]
  refine acall_of Tryz.func67 rfl rfl (by simp [Tryz.ntmps67]) ?_; rw [Tryz.ntmps67, Tryz.results67]
  (first | refine go (cj rTI (cj @wl_idf @wl_one)) ?_ | exact go0 (cj rTI (cj @wl_idf @wl_one)))
  generalize s.push [.v (.bool false), .v (.slice none 0 0), .v (.bool false), .v (.slice none 0 0)] = t at *
  refine aw_reg fun K hK => ?_
  (first | refine rn (cj rTI (cj @wl_idf @wl_one)) ?_ | exact rn0 (cj rTI (cj @wl_idf @wl_one)))
  refine cont_go q1 ?_
  rintro _ s1 ⟨i1, rfl, w1⟩
  have n1 := w1.nx
  (first | refine rn (cj rTI (cj @wl_idf @wl_one)) ?_ | exact rn0 (cj rTI (cj @wl_idf @wl_one)))
  refine cont_go (give_ax s1 i1 0 n w1.rdP hl) ?_
  rintro _ s2 ⟨rfl, rfl⟩
  (first | refine rn (cj rTI (cj @wl_idf @wl_one)) ?_ | exact rn0 (cj rTI (cj @wl_idf @wl_one)))
  refine cont_go (den_ax s2 id n d (hx1.mono n1 (w1.fr _ hx1.lt)) hd hl2) ?_
  rintro _ s3 ⟨i2, rfl, w2⟩
  have n2 := w2.nx
  (first | refine rn (cj rTI (cj @wl_idf @wl_one)) ?_ | exact rn0 (cj rTI (cj @wl_idf @wl_one)))
  refine cont_go (give_ax s3 i2 0 d w2.rdP hl2) ?_
  rintro _ s4 ⟨rfl, rfl⟩
  have g4 : s4.get s.nx = some [.v (.bool false), .v (.slice none 0 0), .v (.bool false), .v (.slice none 0 0)] := by
    rw [w2.fr _ (by omega), w1.fr _ (by omega)]
    exact q0
  rw [ic_eq, ic_eq]
  (first | refine rn (cj rTI (cj @wl_idf (cj @wl_one @g4))) ?_ | exact rn0 (cj rTI (cj @wl_idf (cj @wl_one @g4))))
  refine hK _ _ ?_
  clear hK K
  (first | refine go (cj rTI (cj @wl_idf @wl_one)) ?_ | exact go0 (cj rTI (cj @wl_idf @wl_one)))
  intro i hi
  rw [if_neg (by omega), w2.fr i (by omega), w1.fr i (by omega), qp i hi]
theorem takeW_ax (s : St) (X : Int) (hl : lw X.natAbs ≤ 1000000000000) : ACall Tryz.prog 134 [.ag (IC X)] s fun r s' => ∃ id, r = .ptr id 0 ∧ New s s' id X := by
  have ho := of_ax (s.push (IC X)) (ng X) (digs W X.natAbs) hl (digs_lt W hW _)
  rw [val_digs W hW, sg_self] at ho
  rw [ic_eq] at ho ⊢
  rw [← WD_eq] at ho
  refine acall_of Tryz.func134 rfl rfl (by simp [Tryz.ntmps134]) ?_; rw [Tryz.ntmps134, Tryz.results134]
  (first | refine go (cj rTI (cj @wl_idf @wl_one)) ?_ | exact go0 (cj rTI (cj @wl_idf @wl_one)))
  refine aw_reg fun K hK => ?_; refine rn (cj rTI (cj @wl_idf @wl_one)) ?_; refine cont_go ho ?_; rintro _ s1 ⟨i, rfl, w⟩; refine rn (cj rTI (cj @wl_idf @wl_one)) ?_; refine hK _ _ ?_; clear hK K
  (first | refine go (cj rTI (cj @wl_idf @wl_one)) ?_ | exact go0 (cj rTI (cj @wl_idf @wl_one)))
  have h1 := w.lo
  have h1' : s.nx + 1 ≤ i := h1
  exact ⟨i, rfl, by omega, w.lt, w.g, fun j hj => by rw [w.fr j (Nat.lt_succ_of_lt hj), St.push_ne _ _ _ (by omega)]⟩
theorem ratW_ax (s : St) (n d : Int) (hl : lw n.natAbs ≤ 1000000000000) (hl2 : lw d.natAbs ≤ 1000000000000) (h0 : d ≠ 0) : ACall Tryz.prog 80 [.ag (RC n d)] s fun r s' => ∃ id, r = .ptr id 0 ∧ NewR s s' id (low n d).1 (low n d).2 := by
  rw [rc_eq]
  have t1 := takeW_ax (s.push (RC n d)) n hl
  rw [ic_eq, rc_eq] at t1
  refine acall_of Tryz.func80 rfl rfl (by simp [Tryz.ntmps80]) ?_; rw [Tryz.ntmps80, Tryz.results80]
  (first | refine go (cj rTI (cj @wl_idf @wl_one)) ?_ | exact go0 (cj rTI (cj @wl_idf @wl_one)))
  have p0 : (s.push (RC n d)).get s.nx = some (RC n d) := St.push_same _ _
  rw [rc_eq] at p0
  refine aw_drw (.take 0 (.take 1 (.take 3 (.take 4 (.one 2 (.one 5 (.one 6 (.take 7 (.done))))))))) [s.nx] (by kernel_rfl) (by kernel_rfl) fun K hK => ?_; refine dr (cj rTI (cj @wl_idf @wl_one)) ?_; refine cont_go t1 ?_; rintro _ s1 ⟨i1, rfl, w1⟩; have n1 : s.nx + 1 ≤ s1.nx := w1.nx; have f1 := w1.fr s.nx (Nat.lt_succ_self _); have t2 := takeW_ax s1 d hl2; rw [ic_eq] at t2; rw [p0] at f1; refine dr (cj rTI (cj @wl_idf @wl_one)) ?_; refine ⟨f1, ?_⟩; refine cont_go t2 ?_; rintro _ s2 ⟨i2, rfl, w2⟩; have n2 := w2.nx; have f2 := w2.fr s.nx n1; have m1 := w1.lt; refine dr (cj rTI (cj @wl_idf @wl_one)) ?_; refine ⟨f2, ?_⟩; refine cont_go (newRat_frac s2 i1 0 i2 0 n d (w2.otherR w1.rdP) w2.rdP h0 hl hl2) ?_; rintro _ s3 ⟨i3, rfl, w3⟩; have f3 := w3.fr s.nx (Nat.lt_of_lt_of_le n1 n2); refine dr (cj rTI (cj @wl_idf @wl_one)) ?_; refine ⟨f3, ?_⟩; refine hK _ _ ?_; clear hK K
  (first | refine go (cj rTI (cj @wl_idf @wl_one)) ?_ | exact go0 (cj rTI (cj @wl_idf @wl_one)))
  have q3 := w3.lo
  exact ⟨i3, rfl, by omega, w3.lt, w3.g, fun j hj => by rw [w3.fr j (by omega), w2.fr j (by omega), w1.fr j (Nat.lt_succ_of_lt hj), St.push_ne _ _ _ (by omega)]⟩
/-- A number that is right: 72 words at most. -/
theorem checkL_ax (X : Int) (hl : lw X.natAbs ≤ 72) : PCall Tryz.prog 169 [.ag (IC X)] (.v (.int .i64 0)) := by
  refine pcall_of fun s => ?_
  have h0 := lw_zero X.natAbs
  have n1 : (digs W X.natAbs).length = lw X.natAbs := rfl
  have l1 := WL_len (digs W X.natAbs)
  rw [ic_eq]
  refine acall_of Tryz.func169 rfl rfl (by simp [Tryz.ntmps169]) ?_; rw [Tryz.ntmps169, Tryz.results169]
  by_cases q : X = 0
  · subst q
    have e : lw (Int.natAbs 0) = 0 := (lw_zero 0).2 rfl
    have e2 : ng 0 = false := rfl
    rw [e, e2]
    (first | refine go (cj rTI (cj @wl_idf @wl_one)) ?_ | exact go0 (cj rTI (cj @wl_idf @wl_one)))
    (try rw [then_normal]); (try refine aw_seq ?_); refine aw_cond rfl ?_ ?_ <;> intro hb <;> (try (cases hb; done)) <;> (try simp only [bq] at hb) <;> (try (exfalso; omega))
    (first | refine go trivial ?_ | exact go0 trivial)
    exact fun i hi => if_neg (by omega)
  · have e : lw X.natAbs ≠ 0 := fun h => q (by have := h0.1 h; omega)
    have o1 := hd_WL (digs W X.natAbs) (lw X.natAbs - 1) (by omega)
    have o2 := digs_last X.natAbs (by omega)
    have o3 : (digs W X.natAbs).getD (lw X.natAbs - 1) 0 < 4294967296 := getD_lt W hW0 _ (digs_lt W hW _) _
    generalize (digs W X.natAbs).getD (lw X.natAbs - 1) 0 = t at *
    (first | refine go (cj rTI (cj @wl_idf (cj @wl_one (cj @o1 (cj @l1 @n1))))) ?_ | exact go0 (cj rTI (cj @wl_idf (cj @wl_one (cj @o1 (cj @l1 @n1))))))
    (try rw [then_normal]); (try refine aw_seq ?_); refine aw_cond rfl ?_ ?_ <;> intro hb <;> (try (cases hb; done)) <;> (try simp only [bq] at hb) <;> (try (exfalso; omega))
    (first | refine go trivial ?_ | exact go0 trivial)
    exact fun i hi => if_neg (by omega)
theorem both_ax (X Y : Int) (hl : lw X.natAbs ≤ 72) (hl2 : lw Y.natAbs ≤ 72) : PCall Tryz.prog 192 [.ag (IC X), .ag (IC Y)] (.v (.int .i64 0)) := by
  refine pcall_of fun s => ?_
  have q1 := checkL_ax X hl
  have q2 := checkL_ax Y hl2
  rw [ic_eq] at q1 q2
  rw [ic_eq, ic_eq]
  refine acall_of Tryz.func192 rfl rfl (by simp [Tryz.ntmps192]) ?_; rw [Tryz.ntmps192, Tryz.results192]
  (first | refine go (cj rTI (cj @wl_idf @wl_one)) ?_ | exact go0 (cj rTI (cj @wl_idf @wl_one)))
  refine aw_reg fun K hK => ?_; refine rn (cj rTI (cj @wl_idf @wl_one)) ?_; refine cont_pure q1 ?_; refine rn (cj rTI (cj @wl_idf @wl_one)) ?_; refine hK _ _ ?_; clear hK K
  rw [then_normal]
  (try rw [then_normal]); (try refine aw_seq ?_); refine aw_cond rfl ?_ ?_ <;> intro hb <;> (try (cases hb; done)) <;> (try simp only [bq] at hb) <;> (try (exfalso; omega))
  (first | refine go trivial ?_ | exact go0 trivial)
  refine aw_reg fun K hK => ?_; refine rn (cj rTI (cj @wl_idf @wl_one)) ?_; refine cont_pure q2 ?_; refine rn (cj rTI (cj @wl_idf @wl_one)) ?_; refine hK _ _ ?_; clear hK K
  (first | refine go trivial ?_ | exact go0 trivial)
  exact fun i hi => by rw [if_neg (by omega), if_neg (by omega)]
theorem gcdL_ax (X Y : Int) (hl : lw X.natAbs ≤ 72) (hl2 : lw Y.natAbs ≤ 72) : PCall Tryz.prog 170 [.ag (IC X), .ag (IC Y)] (.tp [.ag (IC (Nat.gcd X.natAbs Y.natAbs : Nat)), .v (.int .i64 0)]) := by
  refine pcall_of fun s => ?_
  have q1 := both_ax X Y hl hl2
  have lg : lw (Nat.gcd X.natAbs Y.natAbs) ≤ 1000000000000 := by
    by_cases h : Y.natAbs = 0
    · rw [h, Nat.gcd_zero_right]; omega
    · exact Nat.le_trans (lw_mono (Nat.gcd_le_right _ (by omega))) (by omega)
  generalize hz : (Nat.gcd X.natAbs Y.natAbs : Nat) = g at *
  rw [ic_eq, ic_eq] at q1
  rw [ic_eq, ic_eq, ic_eq]
  obtain ⟨t, ht⟩ : ∃ t, t = ((s.push [.v (.bool (ng X)), .sl (lw X.natAbs) (WL (digs W X.natAbs))]).push [.v (.bool (ng Y)), .sl (lw Y.natAbs) (WL (digs W Y.natAbs))]).push [.v (.bool false), .v (.slice none 0 0)] := ⟨_, rfl⟩
  have tn : t.nx = s.nx + 3 := by rw [ht]; rfl
  have t0 : t.get s.nx = some [.v (.bool (ng X)), .sl (lw X.natAbs) (WL (digs W X.natAbs))] := by
    rw [ht, St.push_ne _ _ _ (by show s.nx ≠ s.nx + 1 + 1; omega), St.push_ne _ _ _ (by show s.nx ≠ s.nx + 1; omega), St.push_same]
  have t1 : t.get (s.nx + 1) = some [.v (.bool (ng Y)), .sl (lw Y.natAbs) (WL (digs W Y.natAbs))] := by
    rw [ht, St.push_ne _ _ _ (by show s.nx + 1 ≠ s.nx + 1 + 1; omega)]
    exact St.push_same _ _
  have t2 : t.get (s.nx + 2) = some [.v (.bool false), .v (.slice none 0 0)] := by rw [ht]; exact St.push_same _ _
  have to : ∀ i, i < s.nx → t.get i = s.get i := fun i hi => by
    rw [ht, St.push_ne _ _ _ (by show i ≠ s.nx + 1 + 1; omega), St.push_ne _ _ _ (by show i ≠ s.nx + 1; omega), St.push_ne _ _ _ (by omega)]
  have w1 := takeW_ax t X (by omega)
  rw [ic_eq] at w1
  refine acall_of Tryz.func170 rfl rfl (by simp [Tryz.ntmps170]) ?_; rw [Tryz.ntmps170, Tryz.results170]
  (first | refine go (cj rTI (cj @wl_idf @wl_one)) ?_ | exact go0 (cj rTI (cj @wl_idf @wl_one)))
  rw [← ht]
  refine aw_reg fun K hK => ?_; refine rn (cj rTI (cj @wl_idf (cj @wl_one (cj @t0 @t1)))) ?_; refine cont_pure q1 ?_; refine rn (cj rTI (cj @wl_idf (cj @wl_one (cj @t0 @t1)))) ?_; refine hK _ _ ?_; clear hK K
  rw [then_normal]
  (first | refine go trivial ?_ | exact go0 trivial)
  (try rw [then_normal]); (try refine aw_seq ?_); refine aw_cond rfl ?_ ?_ <;> intro hb <;> (try (cases hb; done)) <;> (try simp only [bq] at hb) <;> (try (exfalso; omega))
  (first | refine go trivial ?_ | exact go0 trivial)
  refine aw_drw (.take 0 (.take 2 (.one 1 (.one 3 (.one 4 (.one 5 (.one 6 (.take 7 (.done))))))))) [s.nx, s.nx + 1] (by kernel_rfl) (by kernel_rfl) fun K hK => ?_; refine dr (cj rTI (cj @wl_idf (cj @wl_one (cj @t0 @t1)))) ?_; refine cont_go w1 ?_; rintro _ s1 ⟨i1, rfl, m1⟩; have n1 := m1.nx; have f0 := m1.fr s.nx (by omega); have f1 := m1.fr (s.nx + 1) (by omega); have h1 := m1.lt; have w2 := takeW_ax s1 Y (by omega); rw [ic_eq] at w2; refine dr (cj rTI (cj @wl_idf (cj @wl_one (cj @t0 @t1)))) ?_; refine ⟨⟨by rw [f0, t0], by rw [f1, t1]⟩, ?_⟩; refine cont_go w2 ?_; rintro _ s2 ⟨i2, rfl, m2⟩; have n2 := m2.nx; have h2 := m2.lt; have f2 := m2.fr s.nx (by omega); have f3 := m2.fr (s.nx + 1) (by omega); refine dr (cj rTI (cj @wl_idf (cj @wl_one (cj @t0 @t1)))) ?_; refine ⟨⟨f2, f3⟩, ?_⟩; refine cont_go (gcd_ax s2 i1 0 i2 0 X Y (m2.otherR m1.rdP) m2.rdP (by omega) (by omega)) ?_; rintro _ s3 ⟨i3, rfl, m3⟩; have n3 := m3.nx; have h3 := m3.lt; have f4 := m3.fr s.nx (by omega); have f5 := m3.fr (s.nx + 1) (by omega); have g3 : s3.get (s.nx + 1 + 1) = some [.v (.bool false), .v (.slice none 0 0)] := (by rw [m3.fr _ (by omega), m2.fr _ (by omega), m1.fr _ (by omega)]; exact t2); refine dr (cj rTI (cj @wl_idf (cj @wl_one (cj @t0 @t1)))) ?_; refine ⟨⟨f4, f5⟩, ?_⟩; rw [hz] at m3; refine cont_go (give_ax s3 i3 0 _ m3.rdP lg) ?_; rintro _ s4 ⟨rfl, rfl⟩; rw [ic_eq]; refine dr (cj rTI (cj @wl_idf (cj @wl_one (cj @t0 (cj @t1 @g3))))) ?_; refine hK _ _ ?_; clear hK K
  (first | refine go (cj rTI (cj @wl_idf @wl_one)) ?_ | exact go0 (cj rTI (cj @wl_idf @wl_one)))
  intro i hi
  rw [if_neg (by omega), m3.fr i (by omega), m2.fr i (by omega), m1.fr i (by omega), to i hi]
end Go.Proofs.YtfjelkjlfcafgaaGreatDoor.BigS
end
section
/- Package rat: Check, all, Cmp, Near, Grid, Round. -/
namespace Go.Proofs.YtfjelkjlfcafgaaGreatDoor.BigT
open Go Go.RowKit Go.Proofs.YtfjelkjlfcafgaaGreatDoor.Ax Go.Proofs.YtfjelkjlfcafgaaGreatDoor.Ti Go.Proofs.YtfjelkjlfcafgaaGreatDoor.BigM Go.Proofs.YtfjelkjlfcafgaaGreatDoor.BigN Go.Proofs.YtfjelkjlfcafgaaGreatDoor.BigA Go.Proofs.YtfjelkjlfcafgaaGreatDoor.BigB Go.Proofs.YtfjelkjlfcafgaaGreatDoor.BigL Go.Proofs.YtfjelkjlfcafgaaGreatDoor.BigF Go.Proofs.YtfjelkjlfcafgaaGreatDoor.BigI Go.Proofs.YtfjelkjlfcafgaaGreatDoor.BigJ Go.Proofs.YtfjelkjlfcafgaaGreatDoor.BigP Go.Proofs.YtfjelkjlfcafgaaGreatDoor.BigQ Go.Proofs.YtfjelkjlfcafgaaGreatDoor.BigR Go.Proofs.YtfjelkjlfcafgaaGreatDoor.BigS
set_option linter.unusedSimpArgs false
set_option linter.unusedVariables false
set_option maxRecDepth 4000
set_option maxHeartbeats 2000000
theorem rTI : type_of% (cj @ti41 (cj @ti35 (cj @ti165 (cj @ti198 (cj @ti3 (cj @ti2 (cj @ti4 (cj @ti176 (cj @ti178 (cj @ti43 (cj @ti45 (cj @ti186 @ti25)))))))))))) := cj @ti41 (cj @ti35 (cj @ti165 (cj @ti198 (cj @ti3 (cj @ti2 (cj @ti4 (cj @ti176 (cj @ti178 (cj @ti43 (cj @ti45 (cj @ti186 @ti25)))))))))))

/-- A right fraction of no more than 72 words. -/
structure Good (n d : Int) : Prop where
  pos : 0 < d
  one : Nat.gcd n.natAbs d.natAbs = 1
  ln : lw n.natAbs ≤ 72
  ld : lw d.natAbs ≤ 72
theorem ratCheck_ax (n d : Int) (h : Good n d) : PCall Tryz.prog 131 [.ag (RC n d)] (.v (.int .i64 0)) := by
  refine pcall_of fun s => ?_
  have q1 := checkL_ax n h.ln
  have q2 := checkL_ax d h.ld
  have q3 := gcdL_ax n d h.ln h.ld
  rw [h.one] at q3
  have e1 : lw (Int.natAbs ((1 : Nat) : Int)) = 1 := by
    have := (lw_lt 1 1).1 (by decide)
    have h2 := (lw_zero 1)
    show lw 1 = 1
    omega
  have e2 : digs W (Int.natAbs ((1 : Nat) : Int)) = [1] := digs_one 1 e1
  have e3 : ng ((1 : Nat) : Int) = false := rfl
  rw [ic_eq] at q1 q2 q3
  rw [ic_eq, ic_eq, e1, e2, e3] at q3
  have hd : ng d = false := decide_eq_false (by have := h.pos; omega)
  have hl : lw d.natAbs ≠ 0 := fun e => by rw [lw_zero] at e; have := h.pos; omega
  have l72 := h.ld
  have wl1 : WL [1] = [AV.v (.int .u32 1)] := rfl
  have tz : Int.toNat 0 = 0 := rfl
  rw [hd] at q2 q3
  rw [wl1] at q3
  rw [rc_eq, hd]
  refine acall_of Tryz.func131 rfl rfl (by simp [Tryz.ntmps131]) ?_; rw [Tryz.ntmps131, Tryz.results131]
  (first | refine go (cj rTI (cj @wl_idf @wl_one)) ?_ | exact go0 (cj rTI (cj @wl_idf @wl_one)))
  refine aw_reg fun K hK => ?_; refine rn (cj rTI (cj @wl_idf @wl_one)) ?_; refine cont_pure q1 ?_; (first | refine rn (cj rTI (cj @wl_idf @wl_one)) ?_ | exact rn0 (cj rTI (cj @wl_idf @wl_one))); refine cont_pure q2 ?_; refine rn (cj rTI (cj @wl_idf @wl_one)) ?_; refine hK _ _ ?_; clear hK K
  rw [then_normal]
  (try rw [then_normal]); (try refine aw_seq ?_); refine aw_cond rfl ?_ ?_ <;> intro hb <;> (try (cases hb; done)) <;> (try simp only [bq] at hb) <;> (try (exfalso; omega))
  (first | refine go (cj rTI (cj @wl_idf @wl_one)) ?_ | exact go0 (cj rTI (cj @wl_idf @wl_one)))
  (try rw [then_normal]); (try refine aw_seq ?_); refine aw_cond rfl ?_ ?_ <;> intro hb <;> (try (cases hb; done)) <;> (try simp only [bq] at hb) <;> (try (exfalso; omega))
  (first | refine go (cj rTI (cj @wl_idf @wl_one)) ?_ | exact go0 (cj rTI (cj @wl_idf @wl_one)))
  refine aw_reg fun K hK => ?_; refine rn (cj rTI (cj @wl_idf @wl_one)) ?_; refine cont_pure q3 ?_; refine rn (cj rTI (cj @wl_idf @wl_one)) ?_; refine hK _ _ ?_; clear hK K
  rw [then_normal]
  (first | refine go (cj rTI (cj @wl_idf (cj @wl_one @tz))) ?_ | exact go0 (cj rTI (cj @wl_idf (cj @wl_one @tz))))
  (try rw [then_normal]); (try refine aw_seq ?_); refine aw_cond rfl ?_ ?_ <;> intro hb <;> (try (cases hb; done)) <;> (try simp only [bq] at hb) <;> (try (exfalso; omega))
  (first | refine go trivial ?_ | exact go0 trivial)
  exact fun i hi => by rw [if_neg (by omega), if_neg (by omega)]
theorem all_ax (a b c d : Int) (h1 : Good a b) (h2 : Good c d) : PCall Tryz.prog 79 [.sl 2 (RC a b ++ RC c d)] (.v (.int .i64 0)) := by
  refine pcall_of fun s => ?_
  have q1 := ratCheck_ax a b h1
  have q2 := ratCheck_ax c d h2
  rw [rc_eq] at q1 q2
  rw [rc_eq, rc_eq, List.cons_append, List.cons_append, List.cons_append, List.cons_append, List.nil_append]
  refine acall_of Tryz.func79 rfl rfl (by simp [Tryz.ntmps79]) ?_; rw [Tryz.ntmps79, Tryz.results79]
  (first | refine go (cj rTI (cj @wl_idf @wl_one)) ?_ | exact go0 (cj rTI (cj @wl_idf @wl_one)))
  refine aw_loop (fun n e s' => ∃ k : Nat, n = 2 - k ∧ k ≤ 2 ∧ e.n = 20 ∧ e.m 3 = .v (.int .i64 0) ∧ e.m 6 = .sl 2 [.v (.bool (ng a)), .sl (lw a.natAbs) (WL (digs W a.natAbs)), .v (.bool (ng b)), .sl (lw b.natAbs) (WL (digs W b.natAbs)), .v (.bool (ng c)), .sl (lw c.natAbs) (WL (digs W c.natAbs)), .v (.bool (ng d)), .sl (lw d.natAbs) (WL (digs W d.natAbs))] ∧ e.m 7 = .v (.int .i64 2) ∧ e.m 8 = .v (.int .i64 k) ∧ s.nx ≤ s'.nx ∧ ∀ i, i < s.nx → s'.get i = s.get i) 2 ?_ ?_
  · refine ⟨0, ?_⟩
    (first | refine rn trivial ?_ | exact rn0 trivial)
    exact ⟨rfl, rfl, Nat.le_refl _⟩
  · rintro n e s' ⟨k, rfl, hk, h1, k3, k6, k7, k8, m1, fr⟩
    have : k = 0 ∨ k = 1 ∨ k = 2 := by omega
    rcases this with rfl | rfl | rfl
    · have k8' : e.m 8 = .v (.int .i64 0) := k8
      clear k8
      have i0 : Int.toNat 0 = 0 := rfl
      (first | refine go (cj @h1 (cj @k7 @k8')) ?_ | exact go0 (cj @h1 (cj @k7 @k8')))
      (try rw [then_normal]); (try refine aw_seq ?_); refine aw_cond rfl ?_ ?_ <;> intro hb <;> (try (cases hb; done)) <;> (try simp only [bq] at hb) <;> (try (exfalso; omega))
      (first | refine go (cj rTI (cj @wl_idf (cj @wl_one (cj @h1 (cj @k6 (cj @k8' @i0)))))) ?_ | exact go0 (cj rTI (cj @wl_idf (cj @wl_one (cj @h1 (cj @k6 (cj @k8' @i0)))))))
      refine aw_reg fun K hK => ?_; refine rn (cj rTI (cj @wl_idf @wl_one)) ?_; refine cont_pure q1 ?_; refine rn (cj rTI (cj @wl_idf @wl_one)) ?_; refine hK _ _ ?_; clear hK K
      rw [then_normal]
      (first | refine go (cj @h1 @k3) ?_ | exact go0 (cj @h1 @k3))
      (try rw [then_normal]); (try refine aw_seq ?_); refine aw_cond rfl ?_ ?_ <;> intro hb <;> (try (cases hb; done)) <;> (try simp only [bq] at hb) <;> (try (exfalso; omega))
      (first | refine go (cj @h1 @k3) ?_ | exact go0 (cj @h1 @k3))
      (try rw [then_normal]); (try refine aw_seq ?_); refine aw_cond rfl ?_ ?_ <;> intro hb <;> (try (cases hb; done)) <;> (try simp only [bq] at hb) <;> (try (exfalso; omega))
      (first | refine go (cj @h1 (cj @k3 @k8')) ?_ | exact go0 (cj @h1 (cj @k3 @k8')))
      simp only [block_normal, loop_normal]
      refine ⟨2 - 1, by omega, 1, ?_⟩
      (first | refine rn (cj @h1 (cj @k3 (cj @k6 (cj @k7 @k8')))) ?_ | exact rn0 (cj @h1 (cj @k3 (cj @k6 (cj @k7 @k8')))))
      exact ⟨rfl, by omega, fun i hi => by first | (rw [if_neg (by omega)]; exact fr i hi) | exact fr i hi⟩
    · have k8' : e.m 8 = .v (.int .i64 1) := k8
      clear k8
      have i1 : Int.toNat 1 = 1 := rfl
      (first | refine go (cj @h1 (cj @k7 @k8')) ?_ | exact go0 (cj @h1 (cj @k7 @k8')))
      (try rw [then_normal]); (try refine aw_seq ?_); refine aw_cond rfl ?_ ?_ <;> intro hb <;> (try (cases hb; done)) <;> (try simp only [bq] at hb) <;> (try (exfalso; omega))
      (first | refine go (cj rTI (cj @wl_idf (cj @wl_one (cj @h1 (cj @k6 (cj @k8' @i1)))))) ?_ | exact go0 (cj rTI (cj @wl_idf (cj @wl_one (cj @h1 (cj @k6 (cj @k8' @i1)))))))
      refine aw_reg fun K hK => ?_; refine rn (cj rTI (cj @wl_idf @wl_one)) ?_; refine cont_pure q2 ?_; refine rn (cj rTI (cj @wl_idf @wl_one)) ?_; refine hK _ _ ?_; clear hK K
      rw [then_normal]
      (first | refine go (cj @h1 @k3) ?_ | exact go0 (cj @h1 @k3))
      (try rw [then_normal]); (try refine aw_seq ?_); refine aw_cond rfl ?_ ?_ <;> intro hb <;> (try (cases hb; done)) <;> (try simp only [bq] at hb) <;> (try (exfalso; omega))
      (first | refine go (cj @h1 @k3) ?_ | exact go0 (cj @h1 @k3))
      (try rw [then_normal]); (try refine aw_seq ?_); refine aw_cond rfl ?_ ?_ <;> intro hb <;> (try (cases hb; done)) <;> (try simp only [bq] at hb) <;> (try (exfalso; omega))
      (first | refine go (cj @h1 (cj @k3 @k8')) ?_ | exact go0 (cj @h1 (cj @k3 @k8')))
      simp only [block_normal, loop_normal]
      refine ⟨2 - 2, by omega, 2, ?_⟩
      (first | refine rn (cj @h1 (cj @k3 (cj @k6 (cj @k7 @k8')))) ?_ | exact rn0 (cj @h1 (cj @k3 (cj @k6 (cj @k7 @k8')))))
      exact ⟨rfl, by omega, fun i hi => by first | (rw [if_neg (by omega)]; exact fr i hi) | exact fr i hi⟩
    · (first | refine go (cj @h1 (cj @k7 @k8)) ?_ | exact go0 (cj @h1 (cj @k7 @k8)))
      (try rw [then_normal]); (try refine aw_seq ?_); refine aw_cond rfl ?_ ?_ <;> intro hb <;> (try (cases hb; done)) <;> (try simp only [bq] at hb) <;> (try (exfalso; omega))
      (first | refine go (cj @h1 @k3) ?_ | exact go0 (cj @h1 @k3))
      exact fr
theorem low_good (n d : Int) (h : Good n d) : low n d = (n, d) := by
  have hp := h.pos
  unfold low
  rw [if_neg (by omega), h.one]
  simp
theorem ratCmp_ax (a b c d : Int) (h1 : Good a b) (h2 : Good c d) : PCall Tryz.prog 28 [.ag (RC a b), .ag (RC c d)] (.tp [.v (.int .i64 (sgn (a * d - c * b))), .v (.int .i64 0)]) := by
  refine pcall_of fun s => ?_
  have q1 := all_ax a b c d h1 h2
  have x1 := h1.ln
  have x2 := h1.ld
  have x3 := h2.ln
  have x4 := h2.ld
  have y1 := h1.pos
  have y2 := h2.pos
  rw [rc_eq, rc_eq, List.cons_append, List.cons_append, List.cons_append, List.cons_append, List.nil_append] at q1
  obtain ⟨t, ht⟩ : ∃ t, t = (s.push (RC a b)).push (RC c d) := ⟨_, rfl⟩
  have tn : t.nx = s.nx + 2 := by rw [ht]; rfl
  have t0 : t.get s.nx = some (RC a b) := by rw [ht]; exact two_g0 s _ _
  have t1 : t.get (s.nx + 1) = some (RC c d) := by rw [ht]; exact two_g1 s _ _
  have to : ∀ i, i < s.nx → t.get i = s.get i := fun i hi => by rw [ht]; exact two_old s _ _ i hi
  rw [rc_eq] at t0 t1
  rw [rc_eq, rc_eq] at ht
  rw [rc_eq, rc_eq]
  refine acall_of Tryz.func28 rfl rfl (by simp [Tryz.ntmps28]) ?_; rw [Tryz.ntmps28, Tryz.results28]
  (first | refine go (cj rTI (cj @wl_idf @wl_one)) ?_ | exact go0 (cj rTI (cj @wl_idf @wl_one)))
  rw [← ht]
  have zr : zrow [Value.bool false, Value.slice none 0 0, Value.bool false, Value.slice none 0 0] 8 = [.v (.bool false), .v (.slice none 0 0), .v (.bool false), .v (.slice none 0 0), .v (.bool false), .v (.slice none 0 0), .v (.bool false), .v (.slice none 0 0)] := rfl
  refine aw_reg fun K hK => ?_
  (first | refine rn (cj rTI (cj @wl_idf (cj @wl_one (cj @t0 (cj @t1 @zr))))) ?_ | exact rn0 (cj rTI (cj @wl_idf (cj @wl_one (cj @t0 (cj @t1 @zr))))))
  refine acall_frz t.nx _ (St.push_same _ _) (fun _ => false) ?_
  (first | refine rn trivial ?_ | exact rn0 trivial)
  obtain ⟨u, hu⟩ : ∃ u, u = ((t.push [.v (.bool (ng a)), .sl (lw a.natAbs) (WL (digs W a.natAbs)), .v (.bool (ng b)), .sl (lw b.natAbs) (WL (digs W b.natAbs)), .v (.bool (ng c)), .sl (lw c.natAbs) (WL (digs W c.natAbs)), .v (.bool (ng d)), .sl (lw d.natAbs) (WL (digs W d.natAbs))]).frz t.nx [.v (.bool (ng a)), .sl (lw a.natAbs) (WL (digs W a.natAbs)), .v (.bool (ng b)), .sl (lw b.natAbs) (WL (digs W b.natAbs)), .v (.bool (ng c)), .sl (lw c.natAbs) (WL (digs W c.natAbs)), .v (.bool (ng d)), .sl (lw d.natAbs) (WL (digs W d.natAbs))] fun _ => false) := ⟨_, rfl⟩
  rw [← hu]
  have un : u.nx = s.nx + 3 := by rw [hu]; show t.nx + 1 = s.nx + 3; omega
  have uo : ∀ i, i < t.nx → u.get i = t.get i := fun i hi => by rw [hu, frz_false _ _ _ _ (by omega), St.push_ne _ _ _ (by omega)]
  have u0 := uo s.nx (by omega)
  have u1 := uo (s.nx + 1) (by omega)
  rw [t0] at u0
  rw [t1] at u1
  refine cont_pure q1 ?_
  (first | refine rn (cj rTI (cj @wl_idf @wl_one)) ?_ | exact rn0 (cj rTI (cj @wl_idf @wl_one)))
  refine hK _ _ ?_
  clear hK K hu
  (first | refine go trivial ?_ | exact go0 trivial)
  (try rw [then_normal]); (try refine aw_seq ?_); refine aw_cond rfl ?_ ?_ <;> intro hb <;> (try (cases hb; done)) <;> (try simp only [bq] at hb) <;> (try (exfalso; omega))
  (first | refine go trivial ?_ | exact go0 trivial)
  have r1 := ratW_ax u a b (by omega) (by omega) (by omega)
  rw [low_good a b h1, rc_eq] at r1
  refine aw_drw (.take 0 (.take 2 (.one 1 (.one 3 (.one 4 (.take 5 (.take 6 (.done)))))))) [s.nx, s.nx + 1] (by kernel_rfl) (by kernel_rfl) fun K hK => ?_; refine dr (cj rTI (cj @wl_idf (cj @wl_one (cj @u0 @u1)))) ?_; refine cont_go r1 ?_; rintro _ s1 ⟨i1, rfl, m1⟩; have n1 := m1.nx; have k1 := m1.lt; have k0 := m1.lo; have f0 := m1.fr s.nx (by omega); have f1 := m1.fr (s.nx + 1) (by omega); have r2 := ratW_ax s1 c d (by omega) (by omega) (by omega); rw [low_good c d h2, rc_eq] at r2; refine dr (cj rTI (cj @wl_idf (cj @wl_one (cj @u0 @u1)))) ?_; refine ⟨⟨by rw [f0, u0], by rw [f1, u1]⟩, ?_⟩; refine cont_go r2 ?_; rintro _ s2 ⟨i2, rfl, m2⟩; have n2 := m2.nx; have k2 := m2.lt; have f2 := m2.fr s.nx (by omega); have f3 := m2.fr (s.nx + 1) (by omega); have r3 := cmpR_ax s2 i1 i2 a b c d (m1.rat.mono n2 (m2.fr _ k1)) m2.rat y1 y2 (by omega) (by omega); refine dr (cj rTI (cj @wl_idf (cj @wl_one (cj @u0 @u1)))) ?_; refine ⟨⟨f2, f3⟩, ?_⟩; refine cont_go r3 ?_; rintro _ s3 ⟨rfl, rfl⟩; refine dr (cj rTI (cj @wl_idf (cj @wl_one (cj @u0 @u1)))) ?_; refine hK _ _ ?_; clear hK K
  (first | refine go (cj rTI (cj @wl_idf @wl_one)) ?_ | exact go0 (cj rTI (cj @wl_idf @wl_one)))
  intro i hi
  rw [m2.fr i (by omega), m1.fr i (by omega), uo i (by omega), to i hi]
/-- A whole number as one on the grid. -/
theorem gridR_ax (s : St) (ix ox : Nat) (X : Int) (hx : RdP s ix ox X) (hl : lw X.natAbs ≤ 1000000000000) : ACall Tryz.prog 132 [.ptr ix ox] s fun r s' => r = (if -1000000000000000000 ≤ X ∧ X ≤ 1000000000000000000 then .tp [.v (.int .i64 X), .v (.int .i64 0)] else .tp [.v (.int .i64 0), .v (.int .i64 4)]) ∧ s' = s := by
  have q1 := int64_ax s ix ox X hx hl
  refine acall_of Tryz.func132 rfl rfl (by simp [Tryz.ntmps132]) ?_; rw [Tryz.ntmps132, Tryz.results132]
  (first | refine go trivial ?_ | exact go0 trivial)
  by_cases hf : fits X
  · rw [show decide (fits X) = true from decide_eq_true hf] at q1
    refine aw_reg fun K hK => ?_; refine rn (cj rTI (cj @wl_idf @wl_one)) ?_; refine cont_go q1 ?_; rintro _ s1 ⟨⟨w, rfl, hw⟩, rfl⟩; obtain rfl := hw hf; refine rn (cj rTI (cj @wl_idf @wl_one)) ?_; refine hK _ _ ?_; clear hK K
    clear q1 hf
    rw [then_normal]
    by_cases h1 : -1000000000000000000 ≤ w
    · by_cases h2 : w ≤ 1000000000000000000
      · rw [if_pos ⟨h1, h2⟩]
        (first | refine go trivial ?_ | exact go0 trivial)
        (try rw [then_normal]); (try refine aw_seq ?_); refine aw_cond rfl ?_ ?_ <;> intro hb <;> (try (cases hb; done)) <;> (try simp only [bq] at hb) <;> (try (exfalso; omega))
        (first | refine go trivial ?_ | exact go0 trivial)
      · rw [if_neg (fun h => h2 h.2)]
        (first | refine go trivial ?_ | exact go0 trivial)
        (try rw [then_normal]); (try refine aw_seq ?_); refine aw_cond rfl ?_ ?_ <;> intro hb <;> (try (cases hb; done)) <;> (try simp only [bq] at hb) <;> (try (exfalso; omega))
        (first | refine go trivial ?_ | exact go0 trivial)
    · rw [if_neg (fun h => h1 h.1)]
      have h2 : w ≤ 1000000000000000000 := by omega
      (first | refine go trivial ?_ | exact go0 trivial)
      (try rw [then_normal]); (try refine aw_seq ?_); refine aw_cond rfl ?_ ?_ <;> intro hb <;> (try (cases hb; done)) <;> (try simp only [bq] at hb) <;> (try (exfalso; omega))
      (first | refine go trivial ?_ | exact go0 trivial)
  · rw [show decide (fits X) = false from decide_eq_false hf] at q1
    refine aw_reg fun K hK => ?_; refine rn (cj rTI (cj @wl_idf @wl_one)) ?_; refine cont_go q1 ?_; rintro _ s1 ⟨⟨w, rfl, hw⟩, rfl⟩; refine rn (cj rTI (cj @wl_idf @wl_one)) ?_; refine hK _ _ ?_; clear hK K
    rw [if_neg (fun h => hf ⟨by omega, by omega⟩)]
    clear q1 hf hw
    rw [then_normal]
    (first | refine go trivial ?_ | exact go0 trivial)
    (try rw [then_normal]); (try refine aw_seq ?_); refine aw_cond rfl ?_ ?_ <;> intro hb <;> (try (cases hb; done)) <;> (try simp only [bq] at hb) <;> (try (exfalso; omega))
    (first | refine go trivial ?_ | exact go0 trivial)
end Go.Proofs.YtfjelkjlfcafgaaGreatDoor.BigT
end
section
/- Package rat: Near, Round. -/
namespace Go.Proofs.YtfjelkjlfcafgaaGreatDoor.BigU
open Go Go.RowKit Go.Proofs.YtfjelkjlfcafgaaGreatDoor.Ax Go.Proofs.YtfjelkjlfcafgaaGreatDoor.Ti Go.Proofs.YtfjelkjlfcafgaaGreatDoor.BigM Go.Proofs.YtfjelkjlfcafgaaGreatDoor.BigN Go.Proofs.YtfjelkjlfcafgaaGreatDoor.BigA Go.Proofs.YtfjelkjlfcafgaaGreatDoor.BigB Go.Proofs.YtfjelkjlfcafgaaGreatDoor.BigL Go.Proofs.YtfjelkjlfcafgaaGreatDoor.BigF Go.Proofs.YtfjelkjlfcafgaaGreatDoor.BigI Go.Proofs.YtfjelkjlfcafgaaGreatDoor.BigJ Go.Proofs.YtfjelkjlfcafgaaGreatDoor.BigP Go.Proofs.YtfjelkjlfcafgaaGreatDoor.BigQ Go.Proofs.YtfjelkjlfcafgaaGreatDoor.BigR Go.Proofs.YtfjelkjlfcafgaaGreatDoor.BigS Go.Proofs.YtfjelkjlfcafgaaGreatDoor.BigT
set_option linter.unusedSimpArgs false
set_option linter.unusedVariables false
set_option maxRecDepth 4000
set_option maxHeartbeats 2000000
theorem rTI : type_of% (cj @ti41 (cj @ti35 (cj @ti165 (cj @ti198 (cj @ti3 (cj @ti2 (cj @ti4 (cj @ti176 (cj @ti178 (cj @ti43 (cj @ti45 (cj @ti186 @ti25)))))))))))) := cj @ti41 (cj @ti35 (cj @ti165 (cj @ti198 (cj @ti3 (cj @ti2 (cj @ti4 (cj @ti176 (cj @ti178 (cj @ti43 (cj @ti45 (cj @ti186 @ti25)))))))))))

def near (n d : Int) : Int :=
  let q := n.tdiv d
  let r := n.tmod d
  if d < 2 * (r.natAbs : Int) ∨ (2 * (r.natAbs : Int) = d ∧ q.tmod 2 ≠ 0) then (if n < 0 then q - 1 else q + 1) else q
theorem near_eq (n d q r : Int) (hq : q = n.tdiv d) (hr : r = n.tmod d) : near n d = if d < 2 * (r.natAbs : Int) ∨ (2 * (r.natAbs : Int) = d ∧ q.tmod 2 ≠ 0) then (if n < 0 then q - 1 else q + 1) else q := by rw [hq, hr]; rfl
theorem odd_iff (q : Int) : q % 2 = 1 ↔ q.tmod 2 ≠ 0 := by
  have h : q.tmod 2 = 0 ↔ q % 2 = 0 := by rw [← Int.dvd_iff_tmod_eq_zero, ← Int.dvd_iff_emod_eq_zero]
  rw [ne_eq, h]
  omega
theorem near_ax (s : St) (ix ox iy oy : Nat) (n d : Int) (hx : RdP s ix ox n) (hy : RdP s iy oy d) (hd : 0 < d) (hl : lw n.natAbs ≤ 1000000000) (hl2 : lw d.natAbs ≤ 1000000000) :
    ACall Tryz.prog 133 [.ptr ix ox, .ptr iy oy] s fun r s' => ∃ id, r = .ptr id 0 ∧ New s s' id (near n d) := by
  have lx := hx.lt
  have ly := hy.lt
  obtain ⟨t, ht⟩ : ∃ t, t = (s.push [.v (.bool false), .v (.slice none 0 0)]).push [.v (.bool false), .v (.slice none 0 0)] := ⟨_, rfl⟩
  have tn : t.nx = s.nx + 2 := by rw [ht]; rfl
  have to : ∀ i, i < s.nx → t.get i = s.get i := fun i hi => by rw [ht]; exact two_old s _ _ i hi
  have t0 : t.get s.nx = some [.v (.bool false), .v (.slice none 0 0)] := by rw [ht]; exact two_g0 s _ _
  have t1 : t.get (s.nx + 1) = some [.v (.bool false), .v (.slice none 0 0)] := by rw [ht]; exact two_g1 s _ _
  have x1 : RdP t ix ox n := hx.mono (by omega) (to _ lx)
  have y1 : RdP t iy oy d := hy.mono (by omega) (to _ ly)
  have c1 := quoRem_ax t s.nx ix ox iy oy (s.nx + 1) n d ⟨by omega, _, _, t0⟩ x1 y1 ⟨by omega, _, _, t1⟩ (by omega) (by omega) (by omega) (by omega)
  have hn := near_eq n d _ _ rfl rfl
  have lq : lw (n.tdiv d).natAbs ≤ lw n.natAbs := lw_mono (by rw [Int.natAbs_tdiv]; exact Nat.div_le_self _ _)
  have lr : lw (n.tmod d).natAbs ≤ lw d.natAbs := lw_mono (by
    rw [Int.natAbs_tmod]
    exact Nat.le_of_lt (Nat.mod_lt _ (by omega)))
  have h0 : n = 0 → n.tmod d = 0 := fun e => by rw [e, Int.zero_tmod]
  generalize n.tdiv d = q at *
  generalize n.tmod d = r at *
  refine acall_of Tryz.func133 rfl rfl (by simp [Tryz.ntmps133]) ?_; rw [Tryz.ntmps133, Tryz.results133]
  (first | refine go trivial ?_ | exact go0 trivial)
  refine aw_reg fun K hK => ?_
  (first | refine rn (cj rTI (cj @wl_idf @wl_one)) ?_ | exact rn0 (cj rTI (cj @wl_idf @wl_one)))
  rw [← ht]
  refine cont_go c1 ?_
  rintro _ s1 ⟨rfl, n1, g0, g1, fr1⟩
  (first | refine rn (cj rTI (cj @wl_idf @wl_one)) ?_ | exact rn0 (cj rTI (cj @wl_idf @wl_one)))
  refine hK _ _ ?_
  clear hK K
  have x2 : RdP s1 ix ox n := x1.mono n1 (fr1 ix (by omega) (by omega) (by omega))
  have y2 : RdP s1 iy oy d := y1.mono n1 (fr1 iy (by omega) (by omega) (by omega))
  have p1 : ∀ (c : List AV) i, i < s1.nx → (s1.push c).get i = s1.get i := fun c i hi => St.push_ne _ _ _ (by omega)
  have c2 := abs_ax (s1.push [.v (.bool false), .v (.slice none 0 0)]) s1.nx (s.nx + 1) 0 r ⟨Nat.lt_succ_self _, _, _, St.push_same _ _⟩ ⟨by show s.nx + 1 < s1.nx + 1; omega, _, by rw [p1 _ _ (by omega)]; exact g1, rfl, rfl⟩ (by omega)
  rw [then_normal]
  (first | refine go trivial ?_ | exact go0 trivial)
  refine aw_reg fun K hK => ?_; refine rn (cj rTI (cj @wl_idf @wl_one)) ?_; refine cont_go c2 ?_; rintro _ s2 ⟨rfl, u1⟩; refine rn (cj rTI (cj @wl_idf @wl_one)) ?_; refine hK _ _ ?_; clear hK K
  have n2 : s1.nx + 1 ≤ s2.nx := u1.nx
  have o2 : ∀ i, i < s1.nx → s2.get i = s1.get i := fun i hi => by rw [u1.fr i (Nat.lt_succ_of_lt hi) (by omega), p1 _ _ hi]
  have c3 := addI_ax s2 s1.nx s1.nx 0 s1.nx 0 r.natAbs r.natAbs u1.dst u1.rdP u1.rdP (by rw [Int.natAbs_natCast]; omega) (by rw [Int.natAbs_natCast]; omega)
  rw [then_normal]
  have lrr : lw ((r.natAbs : Int) + (r.natAbs : Int)).natAbs ≤ 1000000001 := by
    have : ((r.natAbs : Int) + (r.natAbs : Int)).natAbs = r.natAbs + r.natAbs := by omega
    rw [this]
    exact lw_add _ _ _ (by omega) (by omega)
  have y3 : RdP s2 iy oy d := y2.mono (by omega) (o2 _ (by omega))
  (first | refine go trivial ?_ | exact go0 trivial)
  refine aw_reg fun K hK => ?_; refine rn (cj rTI (cj @wl_idf @wl_one)) ?_; refine cont_go c3 ?_; rintro _ s3 ⟨rfl, u2⟩; have n3 := u2.nx; (first | refine rn (cj rTI (cj @wl_idf @wl_one)) ?_ | exact rn0 (cj rTI (cj @wl_idf @wl_one))); refine cont_go (cmpI_ax s3 s1.nx 0 iy oy _ d u2.rdP (u2.other y3 (by omega)) (by omega) (by omega)) ?_; rintro _ s4 ⟨rfl, rfl⟩; refine rn (cj rTI (cj @wl_idf @wl_one)) ?_; refine hK _ _ ?_; clear hK K
  rw [then_normal]
  have g04 : s4.get s.nx = some (IC q) := by rw [u2.fr _ (by omega) (by omega), o2 _ (by omega)]; exact g0
  have o4 : ∀ i, i < s.nx → s4.get i = s.get i := fun i hi => by rw [u2.fr i (by omega) (by omega), o2 i (by omega), fr1 i (by omega) (by omega) (by omega), to i hi]
  have c4 := odd_ax s4 s.nx 0 q ⟨by omega, _, g04, rfl, rfl⟩ (by omega)
  have x4 : RdP s4 ix ox n := hx.mono (by omega) (o4 _ lx)
  have c5 := sign_ax s4 ix ox n x4 (by omega)
  have lone : ∀ v : Int, -1 ≤ v → v ≤ 1 → lw v.natAbs ≤ 1 := fun v h1 h2 => (lw_lt _ 1).1 (by unfold W; omega)
  have hs : ∀ V : Int, V = (if n < 0 then (-1 : Int) else if n = 0 then 0 else 1) → -1 ≤ V ∧ V ≤ 1 := fun V h => by rw [h]; split <;> (try split) <;> omega
  have hsg : sgn ((r.natAbs : Int) + (r.natAbs : Int) - d) = if d < 2 * (r.natAbs : Int) then 1 else if 2 * (r.natAbs : Int) = d then 0 else -1 := by
    unfold sgn
    split <;> (try split) <;> (try split) <;> (try split) <;> omega
  obtain ⟨V, hVe⟩ : ∃ V : Int, V = (if n < 0 then (-1 : Int) else if n = 0 then 0 else 1) := ⟨_, rfl⟩
  rw [← hVe] at c5
  have hV := hs V hVe
  have hne : d ≤ 2 * (r.natAbs : Int) → n ≠ 0 := fun h e => by have := h0 e; omega
  have hqV : d ≤ 2 * (r.natAbs : Int) → q + V = if n < 0 then q - 1 else q + 1 := fun h => by
    have := hne h
    rw [hVe]
    by_cases hn0 : n < 0
    · rw [if_pos hn0, if_pos hn0]; omega
    · rw [if_neg hn0, if_neg hn0, if_neg this]
  have c6 := newInt_ax s4 V (by omega) (by omega)
  have lV := Nat.le_trans (lone _ hV.1 hV.2) (by decide : 1 ≤ 1000000000000)
  have hod := odd_iff q
  clear hs lone hne hVe
  by_cases A : d < 2 * (r.natAbs : Int)
  · rw [if_pos A] at hsg
    have hqV := hqV (by omega)
    rw [if_pos (.inl A), ← hqV] at hn
    rw [hsg]
    clear hsg
    (first | refine go trivial ?_ | exact go0 trivial)
    rw [then_normal]
    (try rw [then_normal]); (try refine aw_seq ?_); refine aw_cond rfl ?_ ?_ <;> intro hb <;> (try (cases hb; done)) <;> (try simp only [bq] at hb) <;> (try (exfalso; omega))
    refine aw_reg fun K hK => ?_
    (first | refine rn (cj rTI (cj @wl_idf @wl_one)) ?_ | exact rn0 (cj rTI (cj @wl_idf @wl_one)))
    refine cont_go c5 ?_
    rintro _ s5 ⟨rfl, rfl⟩
    (first | refine rn (cj rTI (cj @wl_idf @wl_one)) ?_ | exact rn0 (cj rTI (cj @wl_idf @wl_one)))
    refine cont_go c6 ?_
    rintro _ s6 ⟨i6, rfl, w6⟩
    have n6 := w6.nx
    have c7 := addI_ax s6 s.nx s.nx 0 i6 0 q V ⟨by omega, _, _, by rw [w6.fr _ (by omega)]; exact g04⟩ ⟨by omega, _, by rw [w6.fr _ (by omega)]; exact g04, rfl, rfl⟩ w6.rdP (by omega) lV
    (first | refine rn (cj rTI (cj @wl_idf @wl_one)) ?_ | exact rn0 (cj rTI (cj @wl_idf @wl_one)))
    refine cont_go c7 ?_
    rintro _ s7 ⟨rfl, u7⟩
    (first | refine rn (cj rTI (cj @wl_idf @wl_one)) ?_ | exact rn0 (cj rTI (cj @wl_idf @wl_one)))
    refine hK _ _ ?_
    clear hK K
    rw [then_normal]
    (first | refine go trivial ?_ | exact go0 trivial)
    rw [hn]
    exact ⟨s.nx, rfl, Nat.le_refl _, u7.lt, u7.g, fun i hi => by rw [u7.fr i (by omega) (by omega), w6.fr i (by omega), o4 i hi]⟩
  · rw [if_neg A] at hsg
    by_cases B : 2 * (r.natAbs : Int) = d
    · rw [if_pos B] at hsg
      have hqV := hqV (by omega)
      rw [hsg]
      clear hsg
      by_cases C : q % 2 = 1
      · have C2 : q.tmod 2 ≠ 0 := hod.1 C
        rw [if_pos (.inr ⟨B, C2⟩), ← hqV] at hn
        rw [decide_eq_true C] at c4
        (first | refine go trivial ?_ | exact go0 trivial)
        refine aw_reg fun K hK => ?_; refine rn (cj rTI (cj @wl_idf @wl_one)) ?_; refine cont_go c4 ?_; rintro _ s5 ⟨rfl, rfl⟩; refine rn (cj rTI (cj @wl_idf @wl_one)) ?_; refine hK _ _ ?_; clear hK K
        rw [then_normal]
        (try rw [then_normal]); (try refine aw_seq ?_); refine aw_cond rfl ?_ ?_ <;> intro hb <;> (try (cases hb; done)) <;> (try simp only [bq] at hb) <;> (try (exfalso; omega))
        refine aw_reg fun K hK => ?_
        (first | refine rn (cj rTI (cj @wl_idf @wl_one)) ?_ | exact rn0 (cj rTI (cj @wl_idf @wl_one)))
        refine cont_go c5 ?_
        rintro _ s5 ⟨rfl, rfl⟩
        (first | refine rn (cj rTI (cj @wl_idf @wl_one)) ?_ | exact rn0 (cj rTI (cj @wl_idf @wl_one)))
        refine cont_go c6 ?_
        rintro _ s6 ⟨i6, rfl, w6⟩
        have n6 := w6.nx
        have c7 := addI_ax s6 s.nx s.nx 0 i6 0 q V ⟨by omega, _, _, by rw [w6.fr _ (by omega)]; exact g04⟩ ⟨by omega, _, by rw [w6.fr _ (by omega)]; exact g04, rfl, rfl⟩ w6.rdP (by omega) lV
        (first | refine rn (cj rTI (cj @wl_idf @wl_one)) ?_ | exact rn0 (cj rTI (cj @wl_idf @wl_one)))
        refine cont_go c7 ?_
        rintro _ s7 ⟨rfl, u7⟩
        (first | refine rn (cj rTI (cj @wl_idf @wl_one)) ?_ | exact rn0 (cj rTI (cj @wl_idf @wl_one)))
        refine hK _ _ ?_
        clear hK K
        rw [then_normal]
        (first | refine go trivial ?_ | exact go0 trivial)
        rw [hn]
        exact ⟨s.nx, rfl, Nat.le_refl _, u7.lt, u7.g, fun i hi => by rw [u7.fr i (by omega) (by omega), w6.fr i (by omega), o4 i hi]⟩
      · have C2 : ¬ q.tmod 2 ≠ 0 := fun h => C (hod.2 h)
        rw [if_neg (fun h => h.elim A fun h => C2 h.2)] at hn
        rw [decide_eq_false C] at c4
        (first | refine go trivial ?_ | exact go0 trivial)
        refine aw_reg fun K hK => ?_; refine rn (cj rTI (cj @wl_idf @wl_one)) ?_; refine cont_go c4 ?_; rintro _ s5 ⟨rfl, rfl⟩; refine rn (cj rTI (cj @wl_idf @wl_one)) ?_; refine hK _ _ ?_; clear hK K
        rw [then_normal]
        (try rw [then_normal]); (try refine aw_seq ?_); refine aw_cond rfl ?_ ?_ <;> intro hb <;> (try (cases hb; done)) <;> (try simp only [bq] at hb) <;> (try (exfalso; omega))
        (first | refine go trivial ?_ | exact go0 trivial)
        rw [hn]
        exact ⟨s.nx, rfl, Nat.le_refl _, by show s.nx < s5.nx; omega, g04, o4⟩
    · rw [if_neg B] at hsg
      rw [if_neg (fun h => h.elim A fun h => B h.1)] at hn
      rw [hsg]
      clear hsg
      (first | refine go trivial ?_ | exact go0 trivial)
      rw [then_normal]
      (try rw [then_normal]); (try refine aw_seq ?_); refine aw_cond rfl ?_ ?_ <;> intro hb <;> (try (cases hb; done)) <;> (try simp only [bq] at hb) <;> (try (exfalso; omega))
      (first | refine go trivial ?_ | exact go0 trivial)
      rw [hn]
      exact ⟨s.nx, rfl, Nat.le_refl _, by show s.nx < s4.nx; omega, g04, o4⟩
def gridV (z : Int) : AV := if -1000000000000000000 ≤ z ∧ z ≤ 1000000000000000000 then .tp [.v (.int .i64 z), .v (.int .i64 0)] else .tp [.v (.int .i64 0), .v (.int .i64 4)]
theorem gridV_cases (z : Int) : ∃ a b : Int, gridV z = .tp [.v (.int .i64 a), .v (.int .i64 b)] := by
  unfold gridV
  split
  · exact ⟨_, _, rfl⟩
  · exact ⟨_, _, rfl⟩
theorem near_lw (n d : Int) (k : Nat) (h : lw n.natAbs ≤ k) (hk : 0 < k) : lw (near n d).natAbs ≤ k + 1 := by
  have h1 := near_eq n d _ _ rfl rfl
  have h2 : (n.tdiv d).natAbs ≤ n.natAbs := by rw [Int.natAbs_tdiv]; exact Nat.div_le_self _ _
  have h3 : (near n d).natAbs ≤ n.natAbs + 1 := by
    rw [h1]
    split
    · split <;> omega
    · omega
  refine Nat.le_trans (lw_mono h3) (lw_add _ _ _ h ?_)
  have : lw 1 ≤ 1 := (lw_lt 1 1).1 (by decide)
  omega
theorem round_ax (n d : Int) (h : BigT.Good n d) : PCall Tryz.prog 73 [.ag (RC n d)] (gridV (near n d)) := by
  refine pcall_of fun s => ?_
  have q1 := ratCheck_ax n d h
  have x1 := h.ln
  have x2 := h.ld
  have x3 := h.pos
  have ps : ∀ i, i < s.nx → (s.push (RC n d)).get i = s.get i := fun i hi => St.push_ne _ _ _ (by omega)
  have p0 : (s.push (RC n d)).get s.nx = some (RC n d) := St.push_same _ _
  have w1 := takeW_ax (s.push (RC n d)) n (by omega)
  have pn : (s.push (RC n d)).nx = s.nx + 1 := rfl
  have hz := near_lw n d 72 x1 (by decide)
  obtain ⟨a, b, hab⟩ := gridV_cases (near n d)
  have hg : ∀ s', ∀ ix, RdP s' ix 0 (near n d) → ACall Tryz.prog 132 [.ptr ix 0] s' fun r s2 => r = .tp [.v (.int .i64 a), .v (.int .i64 b)] ∧ s2 = s' := fun s' ix hr => by
    have := gridR_ax s' ix 0 (near n d) hr (by omega)
    rw [show (if -1000000000000000000 ≤ near n d ∧ near n d ≤ 1000000000000000000 then AV.tp [.v (.int .i64 (near n d)), .v (.int .i64 0)] else .tp [.v (.int .i64 0), .v (.int .i64 4)]) = .tp [.v (.int .i64 a), .v (.int .i64 b)] from hab] at this
    exact this
  rw [hab]
  rw [ic_eq, rc_eq] at w1
  rw [rc_eq] at q1 p0 pn
  rw [rc_eq] at ps
  rw [rc_eq]
  refine acall_of Tryz.func73 rfl rfl (by simp [Tryz.ntmps73]) ?_; rw [Tryz.ntmps73, Tryz.results73]
  (first | refine go (cj rTI (cj @wl_idf @wl_one)) ?_ | exact go0 (cj rTI (cj @wl_idf @wl_one)))
  generalize s.push [.v (.bool (ng n)), .sl (lw n.natAbs) (WL (digs W n.natAbs)), .v (.bool (ng d)), .sl (lw d.natAbs) (WL (digs W d.natAbs))] = t at *
  refine aw_reg fun K hK => ?_; refine rn (cj rTI (cj @wl_idf (cj @wl_one @p0))) ?_; refine cont_pure q1 ?_; refine rn (cj rTI (cj @wl_idf (cj @wl_one @p0))) ?_; refine hK _ _ ?_; clear hK K
  rw [then_normal]
  (first | refine go trivial ?_ | exact go0 trivial)
  (try rw [then_normal]); (try refine aw_seq ?_); refine aw_cond rfl ?_ ?_ <;> intro hb <;> (try (cases hb; done)) <;> (try simp only [bq] at hb) <;> (try (exfalso; omega))
  (first | refine go trivial ?_ | exact go0 trivial)
  refine aw_drw (.take 0 (.take 1 (.take 3 (.take 4 (.one 2 (.one 5 (.one 6 (.one 7 (.take 8 (.take 9 (.take 10 (.take 11 (.done))))))))))))) [s.nx] (by kernel_rfl) (by kernel_rfl) fun K hK => ?_; refine dr (cj rTI (cj @wl_idf (cj @wl_one @p0))) ?_; refine cont_go w1 ?_; rintro _ s1 ⟨i1, rfl, m1⟩; have n1 := m1.nx; have k1 := m1.lt; have f1 := m1.fr s.nx (by omega); have w2 := takeW_ax s1 d (by omega); rw [ic_eq] at w2; refine dr (cj rTI (cj @wl_idf (cj @wl_one @p0))) ?_; refine ⟨by rw [f1, p0], ?_⟩; refine cont_go w2 ?_; rintro _ s2 ⟨i2, rfl, m2⟩; have n2 := m2.nx; have k2 := m2.lt; have f2 := m2.fr s.nx (by omega); refine dr (cj rTI (cj @wl_idf (cj @wl_one @p0))) ?_; refine ⟨f2, ?_⟩; refine cont_go (near_ax s2 i1 0 i2 0 n d (m2.otherR m1.rdP) m2.rdP x3 (by omega) (by omega)) ?_; rintro _ s3 ⟨i3, rfl, m3⟩; have n3 := m3.nx; have f3 := m3.fr s.nx (by omega); refine dr (cj rTI (cj @wl_idf (cj @wl_one @p0))) ?_; refine ⟨f3, ?_⟩; refine cont_go (hg s3 i3 m3.rdP) ?_; rintro _ s4 ⟨rfl, rfl⟩; refine dr (cj rTI (cj @wl_idf (cj @wl_one @p0))) ?_; refine hK _ _ ?_; clear hK K
  (first | refine go (cj rTI (cj @wl_idf @wl_one)) ?_ | exact go0 (cj rTI (cj @wl_idf @wl_one)))
  intro i hi
  rw [m3.fr i (by omega), m2.fr i (by omega), m1.fr i (by omega), ps i hi]
end Go.Proofs.YtfjelkjlfcafgaaGreatDoor.BigU
end
section
/- The document's whole numbers (layer 1): the inner functions, walked. -/
namespace Go.Proofs.YtfjelkjlfcafgaaGreatDoor.RefA
open Go Go.RowKit Go.Proofs.YtfjelkjlfcafgaaGreatDoor.Ax Go.Proofs.YtfjelkjlfcafgaaGreatDoor.Ti Go.Proofs.YtfjelkjlfcafgaaGreatDoor.BigM
set_option maxHeartbeats 2000000
set_option linter.unusedSimpArgs false
set_option linter.unusedVariables false

/-- A list of digits, as the machine has it. -/
def DN (xs : List Nat) : AV := .sl xs.length (xs.map fun x : Nat => .v (.int .i64 (x : Int)))
def B : Nat := 65536
theorem trimZ_snoc0 : ∀ (l : List Nat), trimZ (l ++ [0]) = trimZ l
  | [] => rfl
  | d :: l => by
    rw [List.cons_append, trimZ, trimZ, trimZ_snoc0 l]
theorem trimZ_snoc (x : Nat) (hx : x ≠ 0) : ∀ (l : List Nat), trimZ (l ++ [x]) = l ++ [x]
  | [] => by simp [trimZ, hx]
  | d :: l => by
    rw [List.cons_append, trimZ, trimZ_snoc x hx l]
    simp
theorem take_pred (xs : List Nat) (n : Nat) (hn : 0 < n) (h : n ≤ xs.length) : xs.take n = xs.take (n - 1) ++ [xs.getD (n - 1) 0] := by
  have h1 : n - 1 < xs.length := by omega
  have := List.take_succ_eq_append_getElem h1
  rw [show n - 1 + 1 = n by omega] at this
  rw [this, List.getD_eq_getElem?_getD, List.getElem?_eq_getElem h1]
  rfl
theorem trimZ_last (xs : List Nat) (n : Nat) (hn : 0 < n) (h : n ≤ xs.length) (h0 : xs.getD (n - 1) 0 = 0) : trimZ (xs.take (n - 1)) = trimZ (xs.take n) := by
  rw [take_pred xs n hn h, h0, trimZ_snoc0]
theorem trimZ_stop (xs : List Nat) (n : Nat) (h : n ≤ xs.length) (h0 : n = 0 ∨ xs.getD (n - 1) 0 ≠ 0) : trimZ (xs.take n) = xs.take n := by
  by_cases hn : n = 0
  · subst hn; rfl
  · rw [take_pred xs n (by omega) h, trimZ_snoc _ (h0.resolve_left hn)]

theorem trim_ax (xs : List Nat) (hl : xs.length ≤ 140737488355328) : PCall Tryz.prog 115 [DN xs] (DN (trimZ xs)) := by
  refine pcall_of fun s => ?_
  refine acall_of Tryz.func115 rfl rfl (by simp [Tryz.ntmps115]) ?_; rw [Tryz.ntmps115, Tryz.results115]
  unfold DN
  (first | refine go @ti63 ?_ | exact go0 @ti63)
  refine aw_loop (fun n e s' => n ≤ xs.length ∧ e.n = 21 ∧ e.m 0 = DN xs ∧ e.m 3 = .v (.int .i64 n) ∧ s' = s ∧ trimZ (xs.take n) = trimZ xs) xs.length ?_ ?_
  · (first | refine rn (cj @DN.eq_1 (cj @Nat.le_refl rlt)) ?_ | exact rn0 (cj @DN.eq_1 (cj @Nat.le_refl rlt)))
  · rintro n e s' ⟨hn, h1, h2, h3, rfl, h4⟩
    unfold DN at h2
    by_cases hk : 0 < n
    · by_cases hz : xs.getD (n - 1) 0 = 0
      · (first | refine go (cj @ti63 (cj @h1 (cj @h2 (cj @h3 @ti3)))) ?_ | exact go0 (cj @ti63 (cj @h1 (cj @h2 (cj @h3 @ti3)))))
        (try rw [then_normal]); (try refine aw_seq ?_); refine aw_cond rfl ?_ ?_ <;> intro hb <;> (try (cases hb; done)) <;> (try simp only [bq] at hb) <;> (try (exfalso; omega))
        (first | refine go (cj @ti63 (cj @h1 (cj @h2 (cj @h3 @ti3)))) ?_ | exact go0 (cj @ti63 (cj @h1 (cj @h2 (cj @h3 @ti3)))))
        have h5 := trimZ_last xs n hk hn hz
        simp only [block_normal, loop_normal]; refine ⟨n - 1, by omega, ?_⟩; (first | refine rn (cj @DN.eq_1 (cj @h1 @h2)) ?_ | exact rn0 (cj @DN.eq_1 (cj @h1 @h2)))
        exact ⟨by omega, by congr 2; omega, by rw [h5, h4]⟩
      · (first | refine go (cj @ti63 (cj @h1 (cj @h2 (cj @h3 @ti3)))) ?_ | exact go0 (cj @ti63 (cj @h1 (cj @h2 (cj @h3 @ti3)))))
        (try rw [then_normal]); (try refine aw_seq ?_); refine aw_cond rfl ?_ ?_ <;> intro hb <;> (try (cases hb; done)) <;> (try simp only [bq] at hb) <;> (try (exfalso; omega))
        have h5 := trimZ_stop xs n hn (.inr hz)
        rw [h4] at h5
        (first | refine go (cj @ti63 (cj @h1 (cj @h2 (cj @h3 @ti3)))) ?_ | exact go0 (cj @ti63 (cj @h1 (cj @h2 (cj @h3 @ti3)))))
        rw [h5]
        simp [List.map_take, Nat.min_eq_left hn]
    · have h5 := trimZ_stop xs n hn (.inl (by omega))
      rw [h4] at h5
      (first | refine go (cj @ti63 (cj @h1 (cj @h2 (cj @h3 @ti3)))) ?_ | exact go0 (cj @ti63 (cj @h1 (cj @h2 (cj @h3 @ti3)))))
      (try rw [then_normal]); (try refine aw_seq ?_); refine aw_cond rfl ?_ ?_ <;> intro hb <;> (try (cases hb; done)) <;> (try simp only [bq] at hb) <;> (try (exfalso; omega))
      (first | refine go (cj @ti63 (cj @h1 (cj @h2 (cj @h3 @ti3)))) ?_ | exact go0 (cj @ti63 (cj @h1 (cj @h2 (cj @h3 @ti3)))))
      rw [h5]
      simp [List.map_take, Nat.min_eq_left hn]

/-- Held against one another. -/
def cmpN (x y : Nat) : Int := if x < y then -1 else if x = y then 0 else 1
theorem cmpN_lt {x y : Nat} (h : x < y) : cmpN x y = -1 := if_pos h
theorem cmpN_gt {x y : Nat} (h : y < x) : cmpN x y = 1 := by unfold cmpN; rw [if_neg (by omega), if_neg (by omega)]
theorem cmpN_eq {x y : Nat} (h : x = y) : cmpN x y = 0 := by unfold cmpN; rw [if_neg (by omega), if_pos h]
theorem hB : 1 < B := by decide
theorem len_lt {x y : Nat} (h : (digs B x).length < (digs B y).length) : x < y := by
  have h1 := (digs_length_le B hB (digs B x).length x).1 (Nat.le_refl _)
  have h2 : ¬ y < B ^ (digs B x).length := fun h3 => by
    have := (digs_length_le B hB (digs B x).length y).2 h3
    omega
  omega
theorem val_split (l : List Nat) (n : Nat) (h : n ≤ l.length) : val B l = val B (l.take n) + B ^ n * val B (l.drop n) := by
  have := val_append B (l.take n) (l.drop n)
  rw [List.take_append_drop, List.length_take, Nat.min_eq_left h] at this
  exact this
/-- Equal above, less at a digit: less. -/
theorem digit_lt (xs ys : List Nat) (n : Nat) (hn : 0 < n) (hx : n ≤ xs.length) (hy : n ≤ ys.length) (hd : ∀ d ∈ xs, d < B) (he : ∀ d ∈ ys, d < B) (h : xs.drop n = ys.drop n) (hlt : xs.getD (n - 1) 0 < ys.getD (n - 1) 0) : val B xs < val B ys := by
  rw [val_split xs n hx, val_split ys n hy, h]
  have t1 := val_lt B (by decide) (xs.take (n - 1)) (fun d hm => hd d (List.mem_of_mem_take hm))
  have e1 := val_take_snoc B xs (n - 1) (by omega)
  have e2 := val_take_snoc B ys (n - 1) (by omega)
  rw [show n - 1 + 1 = n by omega] at e1 e2
  rw [List.length_take, Nat.min_eq_left (by omega)] at t1
  rw [e1, e2]
  have : B ^ (n - 1) * (xs.getD (n - 1) 0 + 1) ≤ B ^ (n - 1) * ys.getD (n - 1) 0 := Nat.mul_le_mul_left _ hlt
  rw [Nat.mul_add, Nat.mul_one] at this
  omega
theorem drop_pred (xs : List Nat) (n : Nat) (hn : 0 < n) (h : n ≤ xs.length) : xs.drop (n - 1) = xs.getD (n - 1) 0 :: xs.drop n := by
  have h1 : n - 1 < xs.length := by omega
  rw [List.drop_eq_getElem_cons h1, List.getD_eq_getElem?_getD, List.getElem?_eq_getElem h1, show n - 1 + 1 = n by omega]
  rfl
theorem mags_ax (x y : Nat) (hx : (digs B x).length ≤ 140737488355328) (hy : (digs B y).length ≤ 140737488355328) : PCall Tryz.prog 113 [DN (digs B x), DN (digs B y)] (.v (.int .i64 (cmpN x y))) := by
  refine pcall_of fun s => ?_
  have vx := val_digs B hB x
  have vy := val_digs B hB y
  have dx := digs_lt B hB x
  have dy := digs_lt B hB y
  have l1 := @len_lt x y
  have l2 := @len_lt y x
  generalize digs B x = xs at *
  generalize digs B y = ys at *
  refine acall_of Tryz.func113 rfl rfl (by simp [Tryz.ntmps113]) ?_; rw [Tryz.ntmps113, Tryz.results113]
  unfold DN
  (first | refine go @ti63 ?_ | exact go0 @ti63)
  by_cases hl : xs.length = ys.length
  · (first | refine rn @hl ?_ | exact rn0 @hl)
    (try rw [then_normal]); (try refine aw_seq ?_); refine aw_cond rfl ?_ ?_ <;> intro hb <;> (try (cases hb; done)) <;> (try simp only [bq] at hb) <;> (try (exfalso; omega))
    (first | refine go @ti63 ?_ | exact go0 @ti63)
    refine aw_loop (fun n e s' => n ≤ xs.length ∧ e.n = 41 ∧ e.m 0 = DN xs ∧ e.m 1 = DN ys ∧ e.m 5 = .v (.int .i64 ((n : Int) - 1)) ∧ s' = s ∧ xs.drop n = ys.drop n) xs.length ?_ ?_
    · (first | refine rn (cj @DN.eq_1 @Nat.le_refl) ?_ | exact rn0 (cj @DN.eq_1 @Nat.le_refl))
      simp [hl]
    · rintro n e s' ⟨hn, h1, h2, h3, h4, rfl, h5⟩
      unfold DN at h2 h3
      by_cases hk : 0 < n
      · (first | refine go (cj @h1 @h4) ?_ | exact go0 (cj @h1 @h4))
        (try rw [then_normal]); (try refine aw_seq ?_); refine aw_cond rfl ?_ ?_ <;> intro hb <;> (try (cases hb; done)) <;> (try simp only [bq] at hb) <;> (try (exfalso; omega))
        (first | refine go (cj @h1 @h4) ?_ | exact go0 (cj @h1 @h4))
        have r1 : xs.getD (n - 1) 0 < B := getD_lt B (by decide) xs dx _
        by_cases q1 : xs.getD (n - 1) 0 < ys.getD (n - 1) 0
        · have hv := digit_lt xs ys n hk hn (by omega) dx dy h5 q1
          rw [vx, vy] at hv
          refine aw_drw (.take 0 (.take 1 (.take 2 (.take 3 (.take 4 (.take 5 (.take 6 (.take 7 (.take 8 (.done)))))))))) [] (by kernel_rfl) (by kernel_rfl) fun K hK => ?_; refine dr (cj @ti63 (cj @h1 (cj @h2 (cj @h3 (cj @h4 @ti3))))) ?_; refine hK _ _ ?_; clear hK K
          (try rw [then_normal]); (try refine aw_seq ?_); refine aw_cond rfl ?_ ?_ <;> intro hb <;> (try (cases hb; done)) <;> (try simp only [bq] at hb) <;> (try (exfalso; omega))
          (first | refine go @h1 ?_ | exact go0 @h1)
          rw [cmpN_lt hv]
        · refine aw_drw (.take 0 (.take 1 (.take 2 (.take 3 (.take 4 (.take 5 (.take 6 (.take 7 (.take 8 (.done)))))))))) [] (by kernel_rfl) (by kernel_rfl) fun K hK => ?_; refine dr (cj @ti63 (cj @h1 (cj @h2 (cj @h3 (cj @h4 @ti3))))) ?_; refine hK _ _ ?_; clear hK K
          (try rw [then_normal]); (try refine aw_seq ?_); refine aw_cond rfl ?_ ?_ <;> intro hb <;> (try (cases hb; done)) <;> (try simp only [bq] at hb) <;> (try (exfalso; omega))
          (first | refine go @h1 ?_ | exact go0 @h1)
          by_cases q2 : ys.getD (n - 1) 0 < xs.getD (n - 1) 0
          · have hv := digit_lt ys xs n hk (by omega) hn dy dx h5.symm q2
            rw [vx, vy] at hv
            refine aw_drw (.take 0 (.take 1 (.take 2 (.take 3 (.take 4 (.take 5 (.take 6 (.take 7 (.take 8 (.done)))))))))) [] (by kernel_rfl) (by kernel_rfl) fun K hK => ?_; refine dr (cj @ti63 (cj @h1 (cj @h2 (cj @h3 (cj @h4 @ti3))))) ?_; refine hK _ _ ?_; clear hK K
            (try rw [then_normal]); (try refine aw_seq ?_); refine aw_cond rfl ?_ ?_ <;> intro hb <;> (try (cases hb; done)) <;> (try simp only [bq] at hb) <;> (try (exfalso; omega))
            (first | refine go @h1 ?_ | exact go0 @h1)
            rw [cmpN_gt hv]
          · refine aw_drw (.take 0 (.take 1 (.take 2 (.take 3 (.take 4 (.take 5 (.take 6 (.take 7 (.take 8 (.done)))))))))) [] (by kernel_rfl) (by kernel_rfl) fun K hK => ?_; refine dr (cj @ti63 (cj @h1 (cj @h2 (cj @h3 (cj @h4 @ti3))))) ?_; refine hK _ _ ?_; clear hK K
            (try rw [then_normal]); (try refine aw_seq ?_); refine aw_cond rfl ?_ ?_ <;> intro hb <;> (try (cases hb; done)) <;> (try simp only [bq] at hb) <;> (try (exfalso; omega))
            (first | refine go (cj @h1 @h4) ?_ | exact go0 (cj @h1 @h4))
            simp only [block_normal, loop_normal]; refine ⟨n - 1, by omega, ?_⟩; (first | refine rn (cj @DN.eq_1 (cj @h1 (cj @h2 @h3))) ?_ | exact rn0 (cj @DN.eq_1 (cj @h1 (cj @h2 @h3))))
            refine ⟨by omega, by congr 2; omega, ?_⟩
            rw [drop_pred xs n hk hn, drop_pred ys n hk (by omega), h5, show xs.getD (n - 1) 0 = ys.getD (n - 1) 0 by omega]
      · obtain rfl : n = 0 := by omega
        rw [List.drop_zero, List.drop_zero] at h5
        have : x = y := by rw [← vx, ← vy, h5]
        (first | refine go (cj @h1 @h4) ?_ | exact go0 (cj @h1 @h4))
        (try rw [then_normal]); (try refine aw_seq ?_); refine aw_cond rfl ?_ ?_ <;> intro hb <;> (try (cases hb; done)) <;> (try simp only [bq] at hb) <;> (try (exfalso; omega))
        (first | refine go (cj @h1 @h4) ?_ | exact go0 (cj @h1 @h4))
        rw [cmpN_eq this]
  · (first | refine rn @hl ?_ | exact rn0 @hl)
    (try rw [then_normal]); (try refine aw_seq ?_); refine aw_cond rfl ?_ ?_ <;> intro hb <;> (try (cases hb; done)) <;> (try simp only [bq] at hb) <;> (try (exfalso; omega))
    (first | refine go @ti63 ?_ | exact go0 @ti63)
    by_cases q : xs.length < ys.length
    · (first | refine rn trivial ?_ | exact rn0 trivial)
      (try rw [then_normal]); (try refine aw_seq ?_); refine aw_cond rfl ?_ ?_ <;> intro hb <;> (try (cases hb; done)) <;> (try simp only [bq] at hb) <;> (try (exfalso; omega))
      (first | refine go trivial ?_ | exact go0 trivial)
      rw [cmpN_lt (l1 q)]
    · (first | refine rn trivial ?_ | exact rn0 trivial)
      (try rw [then_normal]); (try refine aw_seq ?_); refine aw_cond rfl ?_ ?_ <;> intro hb <;> (try (cases hb; done)) <;> (try simp only [bq] at hb) <;> (try (exfalso; omega))
      (first | refine go trivial ?_ | exact go0 trivial)
      rw [cmpN_gt (l2 (by omega))]

/-- The digits up to k of both, and the carry. -/
theorem plus_step (xs ys ds : List Nat) (k cr : Nat) (hds : ds.length = k) (h : val B ds + B ^ k * cr = val B (xs.take k) + val B (ys.take k)) (z : Nat) (hz : z = cr + xs.getD k 0 + ys.getD k 0) :
    val B (ds ++ [z % B]) + B ^ (k + 1) * (z / B) = val B (xs.take (k + 1)) + val B (ys.take (k + 1)) := by
  have tk : ∀ l : List Nat, val B (l.take (k + 1)) = val B (l.take k) + B ^ k * l.getD k 0 := by
    intro l
    by_cases hk : k < l.length
    · exact val_take_snoc B l k hk
    · rw [List.take_of_length_le (by omega), List.take_of_length_le (by omega), List.getD_eq_getElem?_getD, List.getElem?_eq_none (by omega)]
      simp
  rw [tk, tk, val_snoc, hds, Nat.pow_succ]
  have e1 : z = z % B + B * (z / B) := (Nat.mod_add_div z B).symm
  have e2 : B ^ k * z = B ^ k * (z % B) + B ^ k * B * (z / B) := by
    conv => lhs; rw [e1]
    rw [Nat.mul_add, ← Nat.mul_assoc]
  have e3 : B ^ k * z = B ^ k * cr + B ^ k * xs.getD k 0 + B ^ k * ys.getD k 0 := by
    rw [hz, Nat.mul_add, Nat.mul_add]
  omega
def DL (xs : List Nat) : List AV := xs.map fun x : Nat => .v (.int .i64 (x : Int))
/-- At the head of a round of plus. -/
structure PlusI (xs ys : List Nat) (s : St) (n k cr id : Nat) (ds : List Nat) (e : Env) (s' : St) : Prop where
  imu : n = 2 * (max xs.length ys.length - k) + cr
  icr : cr ≤ 1
  ik : k ≤ max xs.length ys.length + 1
  ilast : k = max xs.length ys.length + 1 → cr = 0
  en : e.n = 55
  e0 : e.m 0 = DN xs
  e1 : e.m 1 = DN ys
  e5 : e.m 5 = .own id 0 k 1
  e6 : e.m 6 = .v (.int .i64 cr)
  e7 : e.m 7 = .v (.int .i64 k)
  iget : s'.get id = some (DL ds)
  ilo : s.nx ≤ id
  ihi : id < s'.nx
  ifr : ∀ i, i < s.nx → s'.get i = s.get i
  ilen : ds.length = k
  ilt : ∀ d ∈ ds, d < B
  ival : val B ds + B ^ k * cr = val B (xs.take k) + val B (ys.take k)
theorem getD_out (l : List Nat) (k : Nat) (h : ¬ k < l.length) : l.getD k 0 = 0 := by rw [List.getD_eq_getElem?_getD, List.getElem?_eq_none (by omega)]; rfl
theorem PlusI.step {xs ys : List Nat} {s : St} {n k cr id : Nat} {ds : List Nat} {e : Env} {s' : St} (h : PlusI xs ys s n k cr id ds e s') (hgo : k < xs.length ∨ k < ys.length ∨ 0 < cr) (dx : ∀ d ∈ xs, d < B) (dy : ∀ d ∈ ys, d < B)
    {z q r : Nat} (hz : z = cr + xs.getD k 0 + ys.getD k 0) (hq : q = z / 65536) (hr : r = z % 65536) {e' : Env} {s2 : St} {id' : Nat} (q1 : e'.n = 55) (q2 : e'.m 0 = DN xs) (q3 : e'.m 1 = DN ys) (q4 : e'.m 5 = .own id' 0 (k + 1) 1)
    (q5 : e'.m 6 = .v (.int .i64 (q : Int))) (q6 : e'.m 7 = .v (.int .i64 ((k : Int) + 1))) (q7 : s2.get id' = some (DL (ds ++ [r]))) (q8 : s.nx ≤ id') (q9 : id' < s2.nx) (q10 : ∀ i, i < s.nx → s2.get i = s.get i) :
    ∃ n', n' < n ∧ ∃ (k cr id : Nat) (ds : List Nat), PlusI xs ys s n' k cr id ds e' s2 := by
  have bx : xs.getD k 0 < 65536 := getD_lt B (by decide) xs dx k
  have by' : ys.getD k 0 < 65536 := getD_lt B (by decide) ys dy k
  have ox := getD_out xs k
  have oy := getD_out ys k
  have hs := plus_step xs ys ds k cr h.ilen h.ival z hz
  rw [show z / B = q from hq.symm, show z % B = r from hr.symm] at hs
  have hn := h.imu
  have hcr := h.icr
  have hk := h.ik
  have hlast := h.ilast
  have hm : q ≤ 1 ∧ 2 * (max xs.length ys.length - (k + 1)) + q < n ∧ k + 1 ≤ max xs.length ys.length + 1 ∧ (k + 1 = max xs.length ys.length + 1 → q = 0) := by
    by_cases hM : k < max xs.length ys.length
    · omega
    · have o1 := ox (by omega)
      have o2 := oy (by omega)
      omega
  refine ⟨_, hm.2.1, k + 1, q, id', ds ++ [r], rfl, hm.1, hm.2.2.1, hm.2.2.2, q1, q2, q3, q4, q5, by rw [q6]; rfl, q7, q8, q9, q10, by simp [h.ilen], ?_, hs⟩
  intro d hd
  rcases List.mem_append.1 hd with hd | hd
  · exact h.ilt d hd
  · rw [List.mem_singleton.1 hd, hr]; exact Nat.mod_lt _ (by decide)
theorem DL_snoc (ds : List Nat) (r : Nat) : DL (ds ++ [r]) = DL ds ++ [.v (.int .i64 (r : Int))] := by unfold DL; rw [List.map_append]; rfl
theorem DL_len (ds : List Nat) : (DL ds).length = ds.length := List.length_map _
theorem DL_take (ds : List Nat) (k : Nat) (h : ds.length = k) : (DL ds).take k = DL ds := List.take_of_length_le (by rw [DL_len]; omega)
theorem plus_ax (xs ys : List Nat) (hx : xs.length ≤ 1099511627776) (hy : ys.length ≤ 1099511627776) (dx : ∀ d ∈ xs, d < B) (dy : ∀ d ∈ ys, d < B) : PCall Tryz.prog 112 [DN xs, DN ys] (DN (digs B (val B xs + val B ys))) := by
  refine pcall_of fun s => ?_
  refine acall_of Tryz.func112 rfl rfl (by simp [Tryz.ntmps112]) ?_; rw [Tryz.ntmps112, Tryz.results112]
  unfold DN
  (first | refine go @ti63 ?_ | exact go0 @ti63)
  refine aw_nil 5 1 rfl rfl ?_
  refine aw_loop (fun n e s' => ∃ (k cr id : Nat) (ds : List Nat), PlusI xs ys s n k cr id ds e s') (2 * max xs.length ys.length) ?_ ?_
  · exact ⟨0, 0, s.nx, [], by omega, by omega, by omega, by omega, rfl, rfl, rfl, rfl, rfl, rfl, St.push_same _ _, Nat.le_refl _, Nat.lt_succ_self _, fun i hi => St.push_ne _ _ _ (by omega), rfl, fun d hd => by simp at hd, by simp [val]⟩
  · rintro n e s' ⟨k, cr, id, ds, hI⟩
    obtain rfl := hI.ilen
    have h1 := hI.en
    have h2 := hI.e0
    have h3 := hI.e1
    have h4 := hI.e5
    have h5 := hI.e6
    have h6 := hI.e7
    have h7 := hI.iget
    have b1 := hI.icr
    have b2 := hI.ik
    have b3 := hI.ilo
    have b4 := hI.ihi
    have l1 := DL_len ds
    unfold DN at h2 h3
    by_cases hgo : ds.length < xs.length ∨ ds.length < ys.length ∨ 0 < cr
    · have bx : xs.getD ds.length 0 < 65536 := getD_lt B (by decide) xs dx _
      have by' : ys.getD ds.length 0 < 65536 := getD_lt B (by decide) ys dy _
      have ox := getD_out xs ds.length
      have oy := getD_out ys ds.length
      by_cases c1 : ds.length < xs.length <;> by_cases c2 : ds.length < ys.length
      · (first | refine go (cj @ti63 (cj @h1 (cj @h2 (cj @h3 (cj @h4 (cj @h5 @h6)))))) ?_ | exact go0 (cj @ti63 (cj @h1 (cj @h2 (cj @h3 (cj @h4 (cj @h5 @h6)))))))
        (try rw [then_normal]); (try refine aw_seq ?_); refine aw_cond rfl ?_ ?_ <;> intro hb <;> (try (cases hb; done)) <;> (try simp only [bq] at hb) <;> (try (exfalso; omega))
        (first | refine go (cj @ti63 (cj @h1 (cj @h2 (cj @h3 (cj @h4 (cj @h5 @h6)))))) ?_ | exact go0 (cj @ti63 (cj @h1 (cj @h2 (cj @h3 (cj @h4 (cj @h5 @h6)))))))
        (try rw [then_normal]); (try refine aw_seq ?_); refine aw_cond rfl ?_ ?_ <;> intro hb <;> (try (cases hb; done)) <;> (try simp only [bq] at hb) <;> (try (exfalso; omega))
        (first | refine go (cj @ti63 (cj @ti3 (cj @h1 (cj @h2 (cj @h3 (cj @h4 (cj @h5 @h6))))))) ?_ | exact go0 (cj @ti63 (cj @ti3 (cj @h1 (cj @h2 (cj @h3 (cj @h4 (cj @h5 @h6))))))))
        (try rw [then_normal]); (try refine aw_seq ?_); refine aw_cond rfl ?_ ?_ <;> intro hb <;> (try (cases hb; done)) <;> (try simp only [bq] at hb) <;> (try (exfalso; omega))
        (first | refine go (cj @ti63 (cj @ti3 (cj @h1 (cj @h2 (cj @h3 (cj @h4 (cj @h5 (cj @h6 (cj @h7 @l1))))))))) ?_ | exact go0 (cj @ti63 (cj @ti3 (cj @h1 (cj @h2 (cj @h3 (cj @h4 (cj @h5 (cj @h6 (cj @h7 @l1))))))))))
        simp only [block_normal, loop_normal]
        refine hI.step hgo dx dy (z := cr + xs.getD ds.length 0 + ys.getD ds.length 0) rfl rfl rfl (id' := s'.nx + 1) ?_ ?_ ?_ ?_ ?_ ?_ ?_ (by omega) ?_ ?_ <;> (first | refine rn (cj @h1 (cj @h2 (cj @h3 @DN.eq_1))) ?_ | exact rn0 (cj @h1 (cj @h2 (cj @h3 @DN.eq_1))))
        all_goals (first | done | omega | (refine congrArg some ?_; rfl) | rfl | (refine congrArg (fun z : Int => AV.v (.int .i64 z)) ?_; omega) | (intro i hi; (first | refine rn (hI.ifr i hi) ?_ | exact rn0 (hI.ifr i hi))) | skip)
        all_goals (rw [DL_snoc]; refine congrArg (fun z : Int => some (DL ds ++ [.v (.int .i64 z)])) ?_; omega)
      · (first | refine go (cj @ti63 (cj @h1 (cj @h2 (cj @h3 (cj @h4 (cj @h5 @h6)))))) ?_ | exact go0 (cj @ti63 (cj @h1 (cj @h2 (cj @h3 (cj @h4 (cj @h5 @h6)))))))
        (try rw [then_normal]); (try refine aw_seq ?_); refine aw_cond rfl ?_ ?_ <;> intro hb <;> (try (cases hb; done)) <;> (try simp only [bq] at hb) <;> (try (exfalso; omega))
        (first | refine go (cj @ti63 (cj @h1 (cj @h2 (cj @h3 (cj @h4 (cj @h5 @h6)))))) ?_ | exact go0 (cj @ti63 (cj @h1 (cj @h2 (cj @h3 (cj @h4 (cj @h5 @h6)))))))
        (try rw [then_normal]); (try refine aw_seq ?_); refine aw_cond rfl ?_ ?_ <;> intro hb <;> (try (cases hb; done)) <;> (try simp only [bq] at hb) <;> (try (exfalso; omega))
        (first | refine go (cj @ti63 (cj @ti3 (cj @h1 (cj @h2 (cj @h3 (cj @h4 (cj @h5 @h6))))))) ?_ | exact go0 (cj @ti63 (cj @ti3 (cj @h1 (cj @h2 (cj @h3 (cj @h4 (cj @h5 @h6))))))))
        (try rw [then_normal]); (try refine aw_seq ?_); refine aw_cond rfl ?_ ?_ <;> intro hb <;> (try (cases hb; done)) <;> (try simp only [bq] at hb) <;> (try (exfalso; omega))
        (first | refine go (cj @ti63 (cj @ti3 (cj @h1 (cj @h2 (cj @h3 (cj @h4 (cj @h5 (cj @h6 (cj @h7 @l1))))))))) ?_ | exact go0 (cj @ti63 (cj @ti3 (cj @h1 (cj @h2 (cj @h3 (cj @h4 (cj @h5 (cj @h6 (cj @h7 @l1))))))))))
        simp only [block_normal, loop_normal]
        refine hI.step hgo dx dy (z := cr + xs.getD ds.length 0 + ys.getD ds.length 0) rfl rfl rfl (id' := s'.nx + 1) ?_ ?_ ?_ ?_ ?_ ?_ ?_ (by omega) ?_ ?_ <;> (first | refine rn (cj @h1 (cj @h2 (cj @h3 @DN.eq_1))) ?_ | exact rn0 (cj @h1 (cj @h2 (cj @h3 @DN.eq_1))))
        all_goals (first | done | omega | (refine congrArg some ?_; rfl) | rfl | (refine congrArg (fun z : Int => AV.v (.int .i64 z)) ?_; omega) | (intro i hi; (first | refine rn (hI.ifr i hi) ?_ | exact rn0 (hI.ifr i hi))) | skip)
        all_goals (rw [DL_snoc]; refine congrArg (fun z : Int => some (DL ds ++ [.v (.int .i64 z)])) ?_; omega)
      · (first | refine go (cj @ti63 (cj @h1 (cj @h2 (cj @h3 (cj @h4 (cj @h5 @h6)))))) ?_ | exact go0 (cj @ti63 (cj @h1 (cj @h2 (cj @h3 (cj @h4 (cj @h5 @h6)))))))
        (try rw [then_normal]); (try refine aw_seq ?_); refine aw_cond rfl ?_ ?_ <;> intro hb <;> (try (cases hb; done)) <;> (try simp only [bq] at hb) <;> (try (exfalso; omega))
        (first | refine go (cj @ti63 (cj @h1 (cj @h2 (cj @h3 (cj @h4 (cj @h5 @h6)))))) ?_ | exact go0 (cj @ti63 (cj @h1 (cj @h2 (cj @h3 (cj @h4 (cj @h5 @h6)))))))
        (try rw [then_normal]); (try refine aw_seq ?_); refine aw_cond rfl ?_ ?_ <;> intro hb <;> (try (cases hb; done)) <;> (try simp only [bq] at hb) <;> (try (exfalso; omega))
        (first | refine go (cj @ti63 (cj @ti3 (cj @h1 (cj @h2 (cj @h3 (cj @h4 (cj @h5 @h6))))))) ?_ | exact go0 (cj @ti63 (cj @ti3 (cj @h1 (cj @h2 (cj @h3 (cj @h4 (cj @h5 @h6))))))))
        (try rw [then_normal]); (try refine aw_seq ?_); refine aw_cond rfl ?_ ?_ <;> intro hb <;> (try (cases hb; done)) <;> (try simp only [bq] at hb) <;> (try (exfalso; omega))
        (first | refine go (cj @ti63 (cj @ti3 (cj @h1 (cj @h2 (cj @h3 (cj @h4 (cj @h5 (cj @h6 (cj @h7 @l1))))))))) ?_ | exact go0 (cj @ti63 (cj @ti3 (cj @h1 (cj @h2 (cj @h3 (cj @h4 (cj @h5 (cj @h6 (cj @h7 @l1))))))))))
        simp only [block_normal, loop_normal]
        refine hI.step hgo dx dy (z := cr + xs.getD ds.length 0 + ys.getD ds.length 0) rfl rfl rfl (id' := s'.nx + 1) ?_ ?_ ?_ ?_ ?_ ?_ ?_ (by omega) ?_ ?_ <;> (first | refine rn (cj @h1 (cj @h2 (cj @h3 @DN.eq_1))) ?_ | exact rn0 (cj @h1 (cj @h2 (cj @h3 @DN.eq_1))))
        all_goals (first | done | omega | (refine congrArg some ?_; rfl) | rfl | (refine congrArg (fun z : Int => AV.v (.int .i64 z)) ?_; omega) | (intro i hi; (first | refine rn (hI.ifr i hi) ?_ | exact rn0 (hI.ifr i hi))) | skip)
        all_goals (rw [DL_snoc]; refine congrArg (fun z : Int => some (DL ds ++ [.v (.int .i64 z)])) ?_; omega)
      · have c3 : 0 < cr := by omega
        (first | refine go (cj @ti63 (cj @h1 (cj @h2 (cj @h3 (cj @h4 (cj @h5 @h6)))))) ?_ | exact go0 (cj @ti63 (cj @h1 (cj @h2 (cj @h3 (cj @h4 (cj @h5 @h6)))))))
        (try rw [then_normal]); (try refine aw_seq ?_); refine aw_cond rfl ?_ ?_ <;> intro hb <;> (try (cases hb; done)) <;> (try simp only [bq] at hb) <;> (try (exfalso; omega))
        (first | refine go (cj @ti63 (cj @h1 (cj @h2 (cj @h3 (cj @h4 (cj @h5 @h6)))))) ?_ | exact go0 (cj @ti63 (cj @h1 (cj @h2 (cj @h3 (cj @h4 (cj @h5 @h6)))))))
        (try rw [then_normal]); (try refine aw_seq ?_); refine aw_cond rfl ?_ ?_ <;> intro hb <;> (try (cases hb; done)) <;> (try simp only [bq] at hb) <;> (try (exfalso; omega))
        (first | refine go (cj @ti63 (cj @ti3 (cj @h1 (cj @h2 (cj @h3 (cj @h4 (cj @h5 @h6))))))) ?_ | exact go0 (cj @ti63 (cj @ti3 (cj @h1 (cj @h2 (cj @h3 (cj @h4 (cj @h5 @h6))))))))
        (try rw [then_normal]); (try refine aw_seq ?_); refine aw_cond rfl ?_ ?_ <;> intro hb <;> (try (cases hb; done)) <;> (try simp only [bq] at hb) <;> (try (exfalso; omega))
        (first | refine go (cj @ti63 (cj @ti3 (cj @h1 (cj @h2 (cj @h3 (cj @h4 (cj @h5 (cj @h6 (cj @h7 @l1))))))))) ?_ | exact go0 (cj @ti63 (cj @ti3 (cj @h1 (cj @h2 (cj @h3 (cj @h4 (cj @h5 (cj @h6 (cj @h7 @l1))))))))))
        simp only [block_normal, loop_normal]
        refine hI.step hgo dx dy (z := cr + xs.getD ds.length 0 + ys.getD ds.length 0) rfl rfl rfl (id' := s'.nx + 1) ?_ ?_ ?_ ?_ ?_ ?_ ?_ (by omega) ?_ ?_ <;> (first | refine rn (cj @h1 (cj @h2 (cj @h3 @DN.eq_1))) ?_ | exact rn0 (cj @h1 (cj @h2 (cj @h3 @DN.eq_1))))
        all_goals (first | done | omega | (refine congrArg some ?_; rfl) | rfl | (refine congrArg (fun z : Int => AV.v (.int .i64 z)) ?_; omega) | (intro i hi; (first | refine rn (hI.ifr i hi) ?_ | exact rn0 (hI.ifr i hi))) | skip)
        all_goals (rw [DL_snoc]; refine congrArg (fun z : Int => some (DL ds ++ [.v (.int .i64 z)])) ?_; omega)
    · have cr0 : cr = 0 := by omega
      have hv := hI.ival
      rw [List.take_of_length_le (by omega), List.take_of_length_le (by omega), cr0, Nat.mul_zero, Nat.add_zero] at hv
      have ht := digs_val B hB ds hI.ilt
      rw [hv] at ht
      have b5 : ds.length ≤ 140737488355328 := by omega
      clear b2 hv
      (first | refine go (cj @ti63 (cj @h1 (cj @h2 (cj @h3 (cj @h4 (cj @h5 @h6)))))) ?_ | exact go0 (cj @ti63 (cj @h1 (cj @h2 (cj @h3 (cj @h4 (cj @h5 @h6)))))))
      (try rw [then_normal]); (try refine aw_seq ?_); refine aw_cond rfl ?_ ?_ <;> intro hb <;> (try (cases hb; done)) <;> (try simp only [bq] at hb) <;> (try (exfalso; omega))
      (first | refine go (cj @ti63 (cj @h1 (cj @h2 (cj @h3 (cj @h4 (cj @h5 @h6)))))) ?_ | exact go0 (cj @ti63 (cj @h1 (cj @h2 (cj @h3 (cj @h4 (cj @h5 @h6)))))))
      refine aw_reg fun K hK => ?_; refine rn (cj @h1 @h4) ?_; refine acall_frz id (DL ds) h7 (fun _ => false) ?_; (first | refine rn @DL.eq_1 ?_ | exact rn0 @DL.eq_1); refine cont_pure (trim_ax ds b5) ?_; refine rn (cj @h1 @h4) ?_; refine hK _ _ ?_; clear hK K
      (first | refine go (cj @h1 @h4) ?_ | exact go0 (cj @h1 @h4))
      rw [ht]
      exact ⟨rfl, fun i hi => by rw [if_neg (by omega)]; exact hI.ifr i hi⟩
end Go.Proofs.YtfjelkjlfcafgaaGreatDoor.RefA
end
section
/- The document's whole numbers (layer 1): minus, and the numbers with a sign. -/
namespace Go.Proofs.YtfjelkjlfcafgaaGreatDoor.RefB
open Go Go.RowKit Go.Proofs.YtfjelkjlfcafgaaGreatDoor.Ax Go.Proofs.YtfjelkjlfcafgaaGreatDoor.Ti Go.Proofs.YtfjelkjlfcafgaaGreatDoor.BigM Go.Proofs.YtfjelkjlfcafgaaGreatDoor.RefA
set_option maxHeartbeats 2000000
set_option linter.unusedSimpArgs false
set_option linter.unusedVariables false

/-- At the head of a round of minus. -/
structure MinusI (xs ys : List Nat) (s : St) (n k cr id : Nat) (ds : List Nat) (e : Env) (s' : St) : Prop where
  imu : n = xs.length - k
  icr : cr ≤ 1
  ik : k ≤ xs.length
  en : e.n = 41
  e0 : e.m 0 = DN xs
  e1 : e.m 1 = DN ys
  e5 : e.m 5 = .own id 0 k 1
  e6 : e.m 6 = .v (.int .i64 cr)
  e7 : e.m 7 = .v (.int .i64 k)
  iget : s'.get id = some (DL ds)
  ilo : s.nx ≤ id
  ihi : id < s'.nx
  ifr : ∀ i, i < s.nx → s'.get i = s.get i
  ilen : ds.length = k
  ilt : ∀ d ∈ ds, d < B
  ival : val B ds + val B (ys.take k) = val B (xs.take k) + B ^ k * cr
theorem tk_snoc (l : List Nat) (k : Nat) : val B (l.take (k + 1)) = val B (l.take k) + B ^ k * l.getD k 0 := by
  by_cases hk : k < l.length
  · exact val_take_snoc B l k hk
  · rw [List.take_of_length_le (by omega), List.take_of_length_le (by omega), List.getD_eq_getElem?_getD, List.getElem?_eq_none (by omega)]
    simp
theorem MinusI.step {xs ys : List Nat} {s : St} {n k cr id : Nat} {ds : List Nat} {e : Env} {s' : St} (h : MinusI xs ys s n k cr id ds e s') (hgo : k < xs.length) (dx : ∀ d ∈ xs, d < B) (dy : ∀ d ∈ ys, d < B)
    {q r : Nat} (hq : q ≤ 1) (hr : r < 65536) (hz : (r : Int) = xs.getD k 0 - cr - ys.getD k 0 + 65536 * q) {e' : Env} {s2 : St} {id' : Nat} (q1 : e'.n = 41) (q2 : e'.m 0 = DN xs) (q3 : e'.m 1 = DN ys) (q4 : e'.m 5 = .own id' 0 (k + 1) 1)
    (q5 : e'.m 6 = .v (.int .i64 (q : Int))) (q6 : e'.m 7 = .v (.int .i64 ((k : Int) + 1))) (q7 : s2.get id' = some (DL (ds ++ [r]))) (q8 : s.nx ≤ id') (q9 : id' < s2.nx) (q10 : ∀ i, i < s.nx → s2.get i = s.get i) :
    ∃ n', n' < n ∧ ∃ (k cr id : Nat) (ds : List Nat), MinusI xs ys s n' k cr id ds e' s2 := by
  have hn := h.imu
  have hv := h.ival
  refine ⟨xs.length - (k + 1), by omega, k + 1, q, id', ds ++ [r], rfl, hq, by omega, q1, q2, q3, q4, q5, by rw [q6]; rfl, q7, q8, q9, q10, by simp [h.ilen], ?_, ?_⟩
  · intro d hd
    rcases List.mem_append.1 hd with hd | hd
    · exact h.ilt d hd
    · rw [List.mem_singleton.1 hd]; exact hr
  · rw [tk_snoc, tk_snoc, val_snoc, h.ilen, Nat.pow_succ]
    have e0 : r + cr + ys.getD k 0 = xs.getD k 0 + 65536 * q := by omega
    have e1 : B ^ k * (r + cr + ys.getD k 0) = B ^ k * (xs.getD k 0 + B * q) := by rw [e0]; rfl
    rw [Nat.mul_add, Nat.mul_add, Nat.mul_add, ← Nat.mul_assoc] at e1
    omega
theorem minus_ax (xs ys : List Nat) (hx : xs.length ≤ 1099511627776) (dx : ∀ d ∈ xs, d < B) (dy : ∀ d ∈ ys, d < B) (hyx : val B ys ≤ val B xs) (hyl : ys.length ≤ xs.length) : PCall Tryz.prog 114 [DN xs, DN ys] (DN (digs B (val B xs - val B ys))) := by
  refine pcall_of fun s => ?_
  refine acall_of Tryz.func114 rfl rfl (by simp [Tryz.ntmps114]) ?_; rw [Tryz.ntmps114, Tryz.results114]
  unfold DN
  (first | refine go @ti63 ?_ | exact go0 @ti63)
  refine aw_nil 5 1 rfl rfl ?_
  refine aw_loop (fun n e s' => ∃ (k cr id : Nat) (ds : List Nat), MinusI xs ys s n k cr id ds e s') xs.length ?_ ?_
  · exact ⟨0, 0, s.nx, [], rfl, by omega, by omega, rfl, rfl, rfl, rfl, rfl, rfl, St.push_same _ _, Nat.le_refl _, Nat.lt_succ_self _, fun i hi => St.push_ne _ _ _ (by omega), rfl, fun d hd => by simp at hd, by simp [val]⟩
  · rintro n e s' ⟨k, cr, id, ds, hI⟩
    obtain rfl := hI.ilen
    have h1 := hI.en
    have h2 := hI.e0
    have h3 := hI.e1
    have h4 := hI.e5
    have h5 := hI.e6
    have h6 := hI.e7
    have h7 := hI.iget
    have b1 := hI.icr
    have b2 := hI.ik
    have b3 := hI.ilo
    have b4 := hI.ihi
    have l1 := DL_len ds
    unfold DN at h2 h3
    by_cases hgo : ds.length < xs.length
    · have bx : xs.getD ds.length 0 < 65536 := getD_lt B (by decide) xs dx _
      have by' : ys.getD ds.length 0 < 65536 := getD_lt B (by decide) ys dy _
      have oy := getD_out ys ds.length
      have fin : ∀ (y : Nat), ys.getD ds.length 0 = y → y < 65536 → (∃ q r : Nat, q ≤ 1 ∧ r < 65536 ∧ (r : Int) = xs.getD ds.length 0 - cr - y + 65536 * q) := by
        intro y hy hyb
        by_cases hneg : xs.getD ds.length 0 < cr + y
        · exact ⟨1, xs.getD ds.length 0 + 65536 - cr - y, by omega, by omega, by omega⟩
        · exact ⟨0, xs.getD ds.length 0 - cr - y, by omega, by omega, by omega⟩
      by_cases c2 : ds.length < ys.length
      · (first | refine go (cj @ti63 (cj @h1 (cj @h2 (cj @h3 (cj @h4 (cj @h5 @h6)))))) ?_ | exact go0 (cj @ti63 (cj @h1 (cj @h2 (cj @h3 (cj @h4 (cj @h5 @h6)))))))
        (try rw [then_normal]); (try refine aw_seq ?_); refine aw_cond rfl ?_ ?_ <;> intro hb <;> (try (cases hb; done)) <;> (try simp only [bq] at hb) <;> (try (exfalso; omega))
        (first | refine go (cj @ti63 (cj @ti3 (cj @h1 (cj @h2 (cj @h3 (cj @h4 (cj @h5 @h6))))))) ?_ | exact go0 (cj @ti63 (cj @ti3 (cj @h1 (cj @h2 (cj @h3 (cj @h4 (cj @h5 @h6))))))))
        (try rw [then_normal]); (try refine aw_seq ?_); refine aw_cond rfl ?_ ?_ <;> intro hb <;> (try (cases hb; done)) <;> (try simp only [bq] at hb) <;> (try (exfalso; omega))
        by_cases hneg : xs.getD ds.length 0 < cr + ys.getD ds.length 0
        · (first | refine go (cj @ti63 (cj @ti3 (cj @h1 (cj @h2 (cj @h3 (cj @h4 (cj @h5 @h6))))))) ?_ | exact go0 (cj @ti63 (cj @ti3 (cj @h1 (cj @h2 (cj @h3 (cj @h4 (cj @h5 @h6))))))))
          (try rw [then_normal]); (try refine aw_seq ?_); refine aw_cond rfl ?_ ?_ <;> intro hb <;> (try (cases hb; done)) <;> (try simp only [bq] at hb) <;> (try (exfalso; omega))
          (first | refine go (cj @ti63 (cj @ti3 (cj @h1 (cj @h2 (cj @h3 (cj @h4 (cj @h5 (cj @h6 (cj @h7 @l1))))))))) ?_ | exact go0 (cj @ti63 (cj @ti3 (cj @h1 (cj @h2 (cj @h3 (cj @h4 (cj @h5 (cj @h6 (cj @h7 @l1))))))))))
          simp only [block_normal, loop_normal]
          refine hI.step hgo dx dy (q := 1) (r := xs.getD ds.length 0 + 65536 - cr - ys.getD ds.length 0) (by omega) (by omega) (by omega) (id' := s'.nx + 1) ?_ ?_ ?_ ?_ ?_ ?_ ?_ (by omega) ?_ ?_ <;> (first | refine rn (cj @h1 (cj @h2 (cj @h3 @DN.eq_1))) ?_ | exact rn0 (cj @h1 (cj @h2 (cj @h3 @DN.eq_1))))
          all_goals (first | done | omega | (refine congrArg some ?_; rfl) | rfl | (refine congrArg (fun z : Int => AV.v (.int .i64 z)) ?_; omega) | (intro i hi; (first | refine rn (hI.ifr i hi) ?_ | exact rn0 (hI.ifr i hi))) | skip)
          all_goals (rw [DL_snoc]; refine congrArg (fun z : Int => some (DL ds ++ [.v (.int .i64 z)])) ?_; omega)
        · (first | refine go (cj @ti63 (cj @ti3 (cj @h1 (cj @h2 (cj @h3 (cj @h4 (cj @h5 @h6))))))) ?_ | exact go0 (cj @ti63 (cj @ti3 (cj @h1 (cj @h2 (cj @h3 (cj @h4 (cj @h5 @h6))))))))
          (try rw [then_normal]); (try refine aw_seq ?_); refine aw_cond rfl ?_ ?_ <;> intro hb <;> (try (cases hb; done)) <;> (try simp only [bq] at hb) <;> (try (exfalso; omega))
          (first | refine go (cj @ti63 (cj @ti3 (cj @h1 (cj @h2 (cj @h3 (cj @h4 (cj @h5 (cj @h6 (cj @h7 @l1))))))))) ?_ | exact go0 (cj @ti63 (cj @ti3 (cj @h1 (cj @h2 (cj @h3 (cj @h4 (cj @h5 (cj @h6 (cj @h7 @l1))))))))))
          simp only [block_normal, loop_normal]
          refine hI.step hgo dx dy (q := 0) (r := xs.getD ds.length 0 - cr - ys.getD ds.length 0) (by omega) (by omega) (by omega) (id' := s'.nx + 1) ?_ ?_ ?_ ?_ ?_ ?_ ?_ (by omega) ?_ ?_ <;> (first | refine rn (cj @h1 (cj @h2 (cj @h3 @DN.eq_1))) ?_ | exact rn0 (cj @h1 (cj @h2 (cj @h3 @DN.eq_1))))
          all_goals (first | done | omega | (refine congrArg some ?_; rfl) | rfl | (refine congrArg (fun z : Int => AV.v (.int .i64 z)) ?_; omega) | (intro i hi; (first | refine rn (hI.ifr i hi) ?_ | exact rn0 (hI.ifr i hi))) | skip)
          all_goals (rw [DL_snoc]; refine congrArg (fun z : Int => some (DL ds ++ [.v (.int .i64 z)])) ?_; omega)
      · (first | refine go (cj @ti63 (cj @h1 (cj @h2 (cj @h3 (cj @h4 (cj @h5 @h6)))))) ?_ | exact go0 (cj @ti63 (cj @h1 (cj @h2 (cj @h3 (cj @h4 (cj @h5 @h6)))))))
        (try rw [then_normal]); (try refine aw_seq ?_); refine aw_cond rfl ?_ ?_ <;> intro hb <;> (try (cases hb; done)) <;> (try simp only [bq] at hb) <;> (try (exfalso; omega))
        (first | refine go (cj @ti63 (cj @ti3 (cj @h1 (cj @h2 (cj @h3 (cj @h4 (cj @h5 @h6))))))) ?_ | exact go0 (cj @ti63 (cj @ti3 (cj @h1 (cj @h2 (cj @h3 (cj @h4 (cj @h5 @h6))))))))
        (try rw [then_normal]); (try refine aw_seq ?_); refine aw_cond rfl ?_ ?_ <;> intro hb <;> (try (cases hb; done)) <;> (try simp only [bq] at hb) <;> (try (exfalso; omega))
        by_cases hneg : xs.getD ds.length 0 < cr + ys.getD ds.length 0
        · (first | refine go (cj @ti63 (cj @ti3 (cj @h1 (cj @h2 (cj @h3 (cj @h4 (cj @h5 @h6))))))) ?_ | exact go0 (cj @ti63 (cj @ti3 (cj @h1 (cj @h2 (cj @h3 (cj @h4 (cj @h5 @h6))))))))
          (try rw [then_normal]); (try refine aw_seq ?_); refine aw_cond rfl ?_ ?_ <;> intro hb <;> (try (cases hb; done)) <;> (try simp only [bq] at hb) <;> (try (exfalso; omega))
          (first | refine go (cj @ti63 (cj @ti3 (cj @h1 (cj @h2 (cj @h3 (cj @h4 (cj @h5 (cj @h6 (cj @h7 @l1))))))))) ?_ | exact go0 (cj @ti63 (cj @ti3 (cj @h1 (cj @h2 (cj @h3 (cj @h4 (cj @h5 (cj @h6 (cj @h7 @l1))))))))))
          simp only [block_normal, loop_normal]
          refine hI.step hgo dx dy (q := 1) (r := xs.getD ds.length 0 + 65536 - cr - ys.getD ds.length 0) (by omega) (by omega) (by omega) (id' := s'.nx + 1) ?_ ?_ ?_ ?_ ?_ ?_ ?_ (by omega) ?_ ?_ <;> (first | refine rn (cj @h1 (cj @h2 (cj @h3 @DN.eq_1))) ?_ | exact rn0 (cj @h1 (cj @h2 (cj @h3 @DN.eq_1))))
          all_goals (first | done | omega | (refine congrArg some ?_; rfl) | rfl | (refine congrArg (fun z : Int => AV.v (.int .i64 z)) ?_; omega) | (intro i hi; (first | refine rn (hI.ifr i hi) ?_ | exact rn0 (hI.ifr i hi))) | skip)
          all_goals (rw [DL_snoc]; refine congrArg (fun z : Int => some (DL ds ++ [.v (.int .i64 z)])) ?_; omega)
        · (first | refine go (cj @ti63 (cj @ti3 (cj @h1 (cj @h2 (cj @h3 (cj @h4 (cj @h5 @h6))))))) ?_ | exact go0 (cj @ti63 (cj @ti3 (cj @h1 (cj @h2 (cj @h3 (cj @h4 (cj @h5 @h6))))))))
          (try rw [then_normal]); (try refine aw_seq ?_); refine aw_cond rfl ?_ ?_ <;> intro hb <;> (try (cases hb; done)) <;> (try simp only [bq] at hb) <;> (try (exfalso; omega))
          (first | refine go (cj @ti63 (cj @ti3 (cj @h1 (cj @h2 (cj @h3 (cj @h4 (cj @h5 (cj @h6 (cj @h7 @l1))))))))) ?_ | exact go0 (cj @ti63 (cj @ti3 (cj @h1 (cj @h2 (cj @h3 (cj @h4 (cj @h5 (cj @h6 (cj @h7 @l1))))))))))
          simp only [block_normal, loop_normal]
          refine hI.step hgo dx dy (q := 0) (r := xs.getD ds.length 0 - cr - ys.getD ds.length 0) (by omega) (by omega) (by omega) (id' := s'.nx + 1) ?_ ?_ ?_ ?_ ?_ ?_ ?_ (by omega) ?_ ?_ <;> (first | refine rn (cj @h1 (cj @h2 (cj @h3 @DN.eq_1))) ?_ | exact rn0 (cj @h1 (cj @h2 (cj @h3 @DN.eq_1))))
          all_goals (first | done | omega | (refine congrArg some ?_; rfl) | rfl | (refine congrArg (fun z : Int => AV.v (.int .i64 z)) ?_; omega) | (intro i hi; (first | refine rn (hI.ifr i hi) ?_ | exact rn0 (hI.ifr i hi))) | skip)
          all_goals (rw [DL_snoc]; refine congrArg (fun z : Int => some (DL ds ++ [.v (.int .i64 z)])) ?_; omega)
    · have hv := hI.ival
      rw [List.take_of_length_le (by omega), List.take_of_length_le (by omega)] at hv
      have hlt := val_lt B (by decide) ds hI.ilt
      have cr0 : cr = 0 := by
        rcases Nat.eq_zero_or_pos cr with h | h
        · exact h
        · obtain rfl : cr = 1 := by omega
          omega
      rw [cr0, Nat.mul_zero, Nat.add_zero] at hv
      have ht := digs_val B hB ds hI.ilt
      rw [show val B ds = val B xs - val B ys by omega] at ht
      have b5 : ds.length ≤ 140737488355328 := by omega
      clear hv hlt
      (first | refine go (cj @ti63 (cj @h1 (cj @h2 (cj @h3 (cj @h4 (cj @h5 @h6)))))) ?_ | exact go0 (cj @ti63 (cj @h1 (cj @h2 (cj @h3 (cj @h4 (cj @h5 @h6)))))))
      (try rw [then_normal]); (try refine aw_seq ?_); refine aw_cond rfl ?_ ?_ <;> intro hb <;> (try (cases hb; done)) <;> (try simp only [bq] at hb) <;> (try (exfalso; omega))
      (first | refine go (cj @ti63 (cj @h1 (cj @h2 (cj @h3 (cj @h4 (cj @h5 @h6)))))) ?_ | exact go0 (cj @ti63 (cj @h1 (cj @h2 (cj @h3 (cj @h4 (cj @h5 @h6)))))))
      refine aw_reg fun K hK => ?_; refine rn (cj @h1 @h4) ?_; refine acall_frz id (DL ds) h7 (fun _ => false) ?_; (first | refine rn @DL.eq_1 ?_ | exact rn0 @DL.eq_1); refine cont_pure (trim_ax ds b5) ?_; refine rn (cj @h1 @h4) ?_; refine hK _ _ ?_; clear hK K
      (first | refine go (cj @h1 @h4) ?_ | exact go0 (cj @h1 @h4))
      rw [ht]
      exact ⟨rfl, fun i hi => by rw [if_neg (by omega)]; exact hI.ifr i hi⟩
end Go.Proofs.YtfjelkjlfcafgaaGreatDoor.RefB
end
section
/- The document's whole numbers (layer 1): with a sign. -/
namespace Go.Proofs.YtfjelkjlfcafgaaGreatDoor.RefC
open Go Go.RowKit Go.Proofs.YtfjelkjlfcafgaaGreatDoor.Ax Go.Proofs.YtfjelkjlfcafgaaGreatDoor.Ti Go.Proofs.YtfjelkjlfcafgaaGreatDoor.BigM Go.Proofs.YtfjelkjlfcafgaaGreatDoor.RefA Go.Proofs.YtfjelkjlfcafgaaGreatDoor.RefB
set_option maxHeartbeats 2000000
set_option linter.unusedSimpArgs false
set_option linter.unusedVariables false
set_option maxRecDepth 4000
theorem rTI : type_of% (cj @ti105 (cj @ti63 (cj @ti3 @ti4))) := cj @ti105 (cj @ti63 (cj @ti3 @ti4))

/-- The number with the digits of n and a sign. -/
def NS (b : Bool) (n : Nat) : AV := .ag [.v (.bool b), DN (digs B n)]
/-- A whole number, as the document has it. -/
def NI (z : Int) : AV := NS (decide (z < 0)) z.natAbs
/-- How many digits. -/
def ln (n : Nat) : Nat := (digs B n).length
def lz (z : Int) : Nat := ln z.natAbs
theorem dl_idf (l : List Nat) : idf.idfL (DL l) = true := by
  rw [idfL_iff]
  intro z hz
  obtain ⟨x, _, rfl⟩ := List.mem_map.1 hz
  rfl
theorem ln_zero (n : Nat) : ln n = 0 ↔ n = 0 := by unfold ln; rw [List.length_eq_zero_iff, digs_nil B hB]
theorem DN_ln (n : Nat) : DN (digs B n) = .sl (ln n) (DL (digs B n)) := rfl
theorem NS_eq (b : Bool) (n : Nat) : NS b n = .ag [.v (.bool b), .sl (ln n) (DL (digs B n))] := rfl
theorem ln_lt (n k : Nat) : n < B ^ k ↔ ln n ≤ k := (digs_length_le B hB k n).symm
theorem ln_mul (a b : Nat) : ln (a * b) ≤ ln a + ln b := by
  rw [← ln_lt, Nat.pow_add]
  have h1 := (ln_lt a _).2 (Nat.le_refl _)
  have h2 := (ln_lt b _).2 (Nat.le_refl _)
  exact Nat.mul_lt_mul'' h1 h2
theorem ln_mono {a b : Nat} (h : a ≤ b) : ln a ≤ ln b := (ln_lt _ _).1 (Nat.lt_of_le_of_lt h ((ln_lt b _).2 (Nat.le_refl _)))
theorem ln_add (a b k : Nat) (ha : ln a ≤ k) (hb : ln b ≤ k) : ln (a + b) ≤ k + 1 := by
  rw [← ln_lt, Nat.pow_succ]
  have h1 := (ln_lt a k).2 ha
  have h2 := (ln_lt b k).2 hb
  have : B ^ k * 2 ≤ B ^ k * B := Nat.mul_le_mul_left _ (by decide)
  omega
theorem lz_mul (a b : Int) : lz (a * b) ≤ lz a + lz b := by unfold lz; rw [Int.natAbs_mul]; exact ln_mul _ _
theorem lz_add (a b : Int) (k : Nat) (ha : lz a ≤ k) (hb : lz b ≤ k) : lz (a + b) ≤ k + 1 :=
  Nat.le_trans (ln_mono (Int.natAbs_add_le a b)) (ln_add _ _ k ha hb)
theorem lz_neg (a : Int) : lz (-a) = lz a := by unfold lz; rw [Int.natAbs_neg]
def sgn (z : Int) : Int := if z < 0 then -1 else if z = 0 then 0 else 1

theorem sign_ax (z : Int) : PCall Tryz.prog 60 [NI z] (.v (.int .i64 (sgn z))) := by
  refine pcall_of fun s => ?_
  refine acall_of Tryz.func60 rfl rfl (by simp [Tryz.ntmps60]) ?_; rw [Tryz.ntmps60, Tryz.results60]
  have l0 := ln_zero z.natAbs
  unfold NI
  rw [NS_eq]
  (first | refine go (cj rTI @dl_idf) ?_ | exact go0 (cj rTI @dl_idf))
  (try rw [then_normal]); (try refine aw_seq ?_); refine aw_cond rfl ?_ ?_ <;> intro hb <;> (try (cases hb; done)) <;> (try simp only [bq] at hb) <;> (try (exfalso; omega))
  · have h0 : z = 0 := by omega
    (first | refine go (cj rTI @dl_idf) ?_ | exact go0 (cj rTI @dl_idf))
    (repeat' refine And.intro ?_ ?_) <;> (first | done | exact rfl | (intro i hi; simp (disch := omega) only [↓core, ↓List.getElem?_toArray, ↓List.getElem?_cons_succ, ↓List.getElem?_cons_zero, ↓onO_some, more, xbuild, if_pos, if_neg, onO_some, onO_none, onV_eq, xbuiltin, xlen, xload, loadA, xstore, spl, xfield, xindexAddr, xindex, xslice, bnd, xbin, xint, xshift, xstr, xeq, xun, xconv, xmake, xappend, xsrc, xbuildSlice, fillA, xminmax, gval, isK, mapM_nil_o, mapM_cons_o, AV.cells, AV.boxable, AV.one, TI.agg, resA, retA, zrow_one, eq_self, List.map, List.map_cons, List.map_nil, Option.map_some, Option.map_none, Option.bind_some, Option.bind_none, ↓reduceIte, Nat.reduceLT, Nat.reduceEqDiff, Nat.reduceAdd, Nat.reduceMul, Nat.mul_one, Nat.reduceLeDiff, decide_true, decide_false, true_and, and_true, if_true, if_false, List.toList_toArray, List.size_toArray, beq_self_eq_true, Bool.true_eq_false, Bool.false_eq_true, forall_const, false_implies, implies_true, undef, IntKind.bits, List.drop_zero, List.drop_succ_cons, List.take_succ_cons, List.take_zero, List.length_cons, List.length_nil, List.set_cons_zero, List.set_cons_succ, List.head?_cons, List.all_cons, List.all_nil, List.replicate_succ, List.replicate_zero, Bool.and_true, Bool.and_self, Value.oneCell', Bool.true_and, Bool.or_true, Bool.or_false, Bool.not_true, Bool.not_false, h0, sgn]; done) | (simp (disch := omega) only [↓core, ↓List.getElem?_toArray, ↓List.getElem?_cons_succ, ↓List.getElem?_cons_zero, ↓onO_some, more, xbuild, if_pos, if_neg, onO_some, onO_none, onV_eq, xbuiltin, xlen, xload, loadA, xstore, spl, xfield, xindexAddr, xindex, xslice, bnd, xbin, xint, xshift, xstr, xeq, xun, xconv, xmake, xappend, xsrc, xbuildSlice, fillA, xminmax, gval, isK, mapM_nil_o, mapM_cons_o, AV.cells, AV.boxable, AV.one, TI.agg, resA, retA, zrow_one, eq_self, List.map, List.map_cons, List.map_nil, Option.map_some, Option.map_none, Option.bind_some, Option.bind_none, ↓reduceIte, Nat.reduceLT, Nat.reduceEqDiff, Nat.reduceAdd, Nat.reduceMul, Nat.mul_one, Nat.reduceLeDiff, decide_true, decide_false, true_and, and_true, if_true, if_false, List.toList_toArray, List.size_toArray, beq_self_eq_true, Bool.true_eq_false, Bool.false_eq_true, forall_const, false_implies, implies_true, undef, IntKind.bits, List.drop_zero, List.drop_succ_cons, List.take_succ_cons, List.take_zero, List.length_cons, List.length_nil, List.set_cons_zero, List.set_cons_succ, List.head?_cons, List.all_cons, List.all_nil, List.replicate_succ, List.replicate_zero, Bool.and_true, Bool.and_self, Value.oneCell', Bool.true_and, Bool.or_true, Bool.or_false, Bool.not_true, Bool.not_false, h0, sgn]; done) | skip)
  · have h0 : z ≠ 0 := by omega
    (first | refine go (cj rTI @dl_idf) ?_ | exact go0 (cj rTI @dl_idf))
    (try rw [then_normal]); (try refine aw_seq ?_); refine aw_cond rfl ?_ ?_ <;> intro hb <;> (try (cases hb; done)) <;> (try simp only [bq] at hb) <;> (try (exfalso; omega))
    · (first | refine go (cj rTI @dl_idf) ?_ | exact go0 (cj rTI @dl_idf))
      (repeat' refine And.intro ?_ ?_) <;> (first | done | exact rfl | (intro i hi; exact rn0 trivial; done) | (exact rn0 trivial; done) | skip)
      rw [sgn, if_pos hb]
    · (first | refine go (cj rTI @dl_idf) ?_ | exact go0 (cj rTI @dl_idf))
      (repeat' refine And.intro ?_ ?_) <;> (first | done | exact rfl | (intro i hi; exact rn0 trivial; done) | (exact rn0 trivial; done) | skip)
      rw [sgn, if_neg hb, if_neg h0]

theorem sgn_neg (z : Int) : sgn (-z) = - sgn z := by unfold sgn; split <;> split <;> (try split) <;> (try split) <;> omega

/-- A slice that may be none, as the list of no cells. -/
theorem NS_zero (b : Bool) : NS b 0 = .ag [.v (.bool b), .sl 0 []] := by rw [NS_eq]; unfold ln; rw [digs_zero]; rfl
theorem NI_nn (z : Int) (h : 0 ≤ z) : NI z = NS false z.natAbs := by unfold NI; rw [decide_eq_false (by omega)]
theorem NI_neg (z : Int) (h : z < 0) : NI z = NS true z.natAbs := by unfold NI; rw [decide_eq_true h]
theorem minusN_ax (z : Int) : PCall Tryz.prog 165 [NI z] (NI (-z)) := by
  refine pcall_le fun s => ?_
  refine acall_of Tryz.func165 rfl rfl (by simp [Tryz.ntmps165]) ?_; rw [Tryz.ntmps165, Tryz.results165]
  have l0 := ln_zero z.natAbs
  rcases Int.lt_trichotomy z 0 with h | h | h
  · rw [NI_neg z h, NI_nn (-z) (by omega), Int.natAbs_neg, NS_eq, NS_eq]
    (first | refine go (cj rTI @dl_idf) ?_ | exact go0 (cj rTI @dl_idf))
    (try rw [then_normal]); (try refine aw_seq ?_); refine aw_cond rfl ?_ ?_ <;> intro hb <;> (try (cases hb; done)) <;> (try simp only [bq] at hb) <;> (try (exfalso; omega))
    (first | refine go (cj rTI @dl_idf) ?_ | exact go0 (cj rTI @dl_idf))
    (repeat' refine And.intro ?_ ?_) <;> (first | done | exact rfl | (intro i hi; exact rn0 trivial; done) | (exact rn0 trivial; done) | skip)
    exact Le.refl _
  · subst h
    rw [NI_nn _ (by omega), NI_nn _ (by omega), Int.neg_zero, Int.natAbs_zero, NS_zero]
    (first | refine go (cj rTI @dl_idf) ?_ | exact go0 (cj rTI @dl_idf))
    (try rw [then_normal]); (try refine aw_seq ?_); refine aw_cond rfl ?_ ?_ <;> intro hb <;> (try (cases hb; done)) <;> (try simp only [bq] at hb) <;> (try (exfalso; omega))
    (first | refine go (cj rTI @dl_idf) ?_ | exact go0 (cj rTI @dl_idf))
    (repeat' refine And.intro ?_ ?_) <;> (first | done | exact rfl | (intro i hi; exact rn0 trivial; done) | (exact rn0 trivial; done) | skip)
    exact Le.two (Le.refl _) (Le.nil _ _ rfl)
  · rw [NI_nn z (by omega), NI_neg (-z) (by omega), Int.natAbs_neg, NS_eq, NS_eq]
    (first | refine go (cj rTI @dl_idf) ?_ | exact go0 (cj rTI @dl_idf))
    (try rw [then_normal]); (try refine aw_seq ?_); refine aw_cond rfl ?_ ?_ <;> intro hb <;> (try (cases hb; done)) <;> (try simp only [bq] at hb) <;> (try (exfalso; omega))
    (first | refine go (cj rTI @dl_idf) ?_ | exact go0 (cj rTI @dl_idf))
    (repeat' refine And.intro ?_ ?_) <;> (first | done | exact rfl | (intro i hi; exact rn0 trivial; done) | (exact rn0 trivial; done) | skip)
    exact Le.refl _
theorem abs_ax (z : Int) : PCall Tryz.prog 176 [NI z] (NI z.natAbs) := by
  refine pcall_of fun s => ?_
  refine acall_of Tryz.func176 rfl rfl (by simp [Tryz.ntmps176]) ?_; rw [Tryz.ntmps176, Tryz.results176]
  rw [NI_nn (z.natAbs : Int) (by omega), Int.natAbs_natCast]
  unfold NI
  rw [NS_eq, NS_eq]
  (first | refine go (cj rTI @dl_idf) ?_ | exact go0 (cj rTI @dl_idf))
  (repeat' refine And.intro ?_ ?_) <;> (first | done | exact rfl | (intro i hi; exact rn0 trivial; done) | (exact rn0 trivial; done) | skip)

theorem plusd_ax (m n : Nat) (hm : ln m ≤ 1099511627776) (hn : ln n ≤ 1099511627776) : PCall Tryz.prog 112 [DN (digs B m), DN (digs B n)] (DN (digs B (m + n))) := by
  have := plus_ax (digs B m) (digs B n) hm hn (digs_lt B hB m) (digs_lt B hB n)
  rwa [val_digs B hB, val_digs B hB] at this
theorem minusd_ax (m n : Nat) (hm : ln m ≤ 1099511627776) (h : n ≤ m) : PCall Tryz.prog 114 [DN (digs B m), DN (digs B n)] (DN (digs B (m - n))) := by
  have := minus_ax (digs B m) (digs B n) hm (digs_lt B hB m) (digs_lt B hB n) (by rw [val_digs B hB, val_digs B hB]; exact h) (ln_mono h)
  rwa [val_digs B hB, val_digs B hB] at this
/-- What Plus gives. -/
def plusS (a b : Bool) (m n : Nat) : AV := if a = b then NS (a && decide (0 < m + n)) (m + n) else if n ≤ m then NS (a && decide (n < m)) (m - n) else NS b (n - m)
theorem plusS_ax (a b : Bool) (m n : Nat) (hm : ln m ≤ 1099511627776) (hn : ln n ≤ 1099511627776) : PCall Tryz.prog 57 [NS a m, NS b n] (plusS a b m n) := by
  refine pcall_of fun s => ?_
  refine acall_of Tryz.func57 rfl rfl (by simp [Tryz.ntmps57]) ?_; rw [Tryz.ntmps57, Tryz.results57]
  have p0 := plusd_ax m n hm hn
  have p1 := minusd_ax m n hm
  have p2 := minusd_ax n m hn
  have p3 := mags_ax m n (show ln m ≤ _ by omega) (show ln n ≤ _ by omega)
  unfold plusS
  have l0 := ln_zero (m + n)
  have l1 := ln_zero (m - n)
  simp only [NS_eq, DN_ln] at p0 p1 p2 p3 ⊢
  cases a <;> cases b
  · (first | refine go (cj rTI @dl_idf) ?_ | exact go0 (cj rTI @dl_idf))
    (try rw [then_normal]); (try refine aw_seq ?_); refine aw_cond rfl ?_ ?_ <;> intro hb <;> (try (cases hb; done)) <;> (try simp only [bq] at hb) <;> (try (exfalso; omega))
    (first | refine go (cj rTI @dl_idf) ?_ | exact go0 (cj rTI @dl_idf))
    refine aw_reg fun K hK => ?_; refine rn (cj rTI @dl_idf) ?_; refine cont_pure p0 ?_; refine rn (cj rTI @dl_idf) ?_; refine hK _ _ ?_; clear hK K
    (first | refine go (cj rTI @dl_idf) ?_ | exact go0 (cj rTI @dl_idf))
    (repeat' refine And.intro ?_ ?_) <;> (first | done | exact rfl | (intro i hi; exact rn0 trivial; done) | (exact rn0 trivial; done) | skip)
  · (first | refine go (cj rTI @dl_idf) ?_ | exact go0 (cj rTI @dl_idf))
    (try rw [then_normal]); (try refine aw_seq ?_); refine aw_cond rfl ?_ ?_ <;> intro hb <;> (try (cases hb; done)) <;> (try simp only [bq] at hb) <;> (try (exfalso; omega))
    (first | refine go (cj rTI @dl_idf) ?_ | exact go0 (cj rTI @dl_idf))
    refine aw_reg fun K hK => ?_; refine rn (cj rTI @dl_idf) ?_; refine cont_pure p3 ?_; refine rn (cj rTI @dl_idf) ?_; refine hK _ _ ?_; clear hK K
    by_cases h : n ≤ m
    · have h' : ¬ m < n := by omega
      by_cases h2 : n < m
      · have h3 : m ≠ n := by omega
        have h4 : 0 < ln (m - n) := by omega
        rw [cmpN_gt h2] at *
        (try rw [then_normal]); (try refine aw_seq ?_); refine aw_cond rfl ?_ ?_ <;> intro hb <;> (try (cases hb; done)) <;> (try simp only [bq] at hb) <;> (try (exfalso; omega))
        (first | refine go (cj rTI @dl_idf) ?_ | exact go0 (cj rTI @dl_idf))
        refine aw_reg fun K hK => ?_; refine rn (cj rTI @dl_idf) ?_; refine cont_pure (p1 h) ?_; refine rn (cj rTI @dl_idf) ?_; refine hK _ _ ?_; clear hK K
        (first | refine go (cj rTI @dl_idf) ?_ | exact go0 (cj rTI @dl_idf))
        (repeat' refine And.intro ?_ ?_) <;> (first | done | exact rfl | (intro i hi; exact rn0 (cj rTI @dl_idf); done) | (exact rn0 (cj rTI @dl_idf); done) | skip)
      · obtain rfl : m = n := by omega
        have h4 : ln (m - m) = 0 := by omega
        rw [cmpN_eq rfl] at *
        (try rw [then_normal]); (try refine aw_seq ?_); refine aw_cond rfl ?_ ?_ <;> intro hb <;> (try (cases hb; done)) <;> (try simp only [bq] at hb) <;> (try (exfalso; omega))
        (first | refine go (cj rTI @dl_idf) ?_ | exact go0 (cj rTI @dl_idf))
        refine aw_reg fun K hK => ?_; refine rn (cj rTI @dl_idf) ?_; refine cont_pure (p1 h) ?_; refine rn (cj rTI @dl_idf) ?_; refine hK _ _ ?_; clear hK K
        (first | refine go (cj rTI @dl_idf) ?_ | exact go0 (cj rTI @dl_idf))
        (repeat' refine And.intro ?_ ?_) <;> (first | done | exact rfl | (intro i hi; exact rn0 (cj rTI @dl_idf); done) | (exact rn0 (cj rTI @dl_idf); done) | skip)
    · have h' : m < n := by omega
      rw [cmpN_lt h'] at *
      (try rw [then_normal]); (try refine aw_seq ?_); refine aw_cond rfl ?_ ?_ <;> intro hb <;> (try (cases hb; done)) <;> (try simp only [bq] at hb) <;> (try (exfalso; omega))
      (first | refine go (cj rTI @dl_idf) ?_ | exact go0 (cj rTI @dl_idf))
      refine aw_drw (.take 0 (.take 1 (.take 2 (.take 3 (.take 4 (.take 5 (.one 6 (.take 7 (.one 8 (.done)))))))))) [s.nx, s.nx + 1] (by kernel_rfl) (by kernel_rfl) fun K hK => ?_; refine dr (cj rTI @dl_idf) ?_; refine cont_pure (p2 (by omega)) ?_; refine dr (cj rTI @dl_idf) ?_; refine hK _ _ ?_; clear hK K
      (first | refine go (cj rTI @dl_idf) ?_ | exact go0 (cj rTI @dl_idf))
      (repeat' refine And.intro ?_ ?_) <;> (first | done | exact rfl | (intro i hi; exact rn0 (cj rTI @dl_idf); done) | (exact rn0 (cj rTI @dl_idf); done) | skip)
  · (first | refine go (cj rTI @dl_idf) ?_ | exact go0 (cj rTI @dl_idf))
    (try rw [then_normal]); (try refine aw_seq ?_); refine aw_cond rfl ?_ ?_ <;> intro hb <;> (try (cases hb; done)) <;> (try simp only [bq] at hb) <;> (try (exfalso; omega))
    (first | refine go (cj rTI @dl_idf) ?_ | exact go0 (cj rTI @dl_idf))
    refine aw_reg fun K hK => ?_; refine rn (cj rTI @dl_idf) ?_; refine cont_pure p3 ?_; refine rn (cj rTI @dl_idf) ?_; refine hK _ _ ?_; clear hK K
    by_cases h : n ≤ m
    · have h' : ¬ m < n := by omega
      by_cases h2 : n < m
      · have h3 : m ≠ n := by omega
        have h4 : 0 < ln (m - n) := by omega
        rw [cmpN_gt h2] at *
        (try rw [then_normal]); (try refine aw_seq ?_); refine aw_cond rfl ?_ ?_ <;> intro hb <;> (try (cases hb; done)) <;> (try simp only [bq] at hb) <;> (try (exfalso; omega))
        (first | refine go (cj rTI @dl_idf) ?_ | exact go0 (cj rTI @dl_idf))
        refine aw_reg fun K hK => ?_; refine rn (cj rTI @dl_idf) ?_; refine cont_pure (p1 h) ?_; refine rn (cj rTI @dl_idf) ?_; refine hK _ _ ?_; clear hK K
        (first | refine go (cj rTI @dl_idf) ?_ | exact go0 (cj rTI @dl_idf))
        (repeat' refine And.intro ?_ ?_) <;> (first | done | exact rfl | (intro i hi; exact rn0 (cj rTI @dl_idf); done) | (exact rn0 (cj rTI @dl_idf); done) | skip)
      · obtain rfl : m = n := by omega
        have h4 : ln (m - m) = 0 := by omega
        rw [cmpN_eq rfl] at *
        (try rw [then_normal]); (try refine aw_seq ?_); refine aw_cond rfl ?_ ?_ <;> intro hb <;> (try (cases hb; done)) <;> (try simp only [bq] at hb) <;> (try (exfalso; omega))
        (first | refine go (cj rTI @dl_idf) ?_ | exact go0 (cj rTI @dl_idf))
        refine aw_reg fun K hK => ?_; refine rn (cj rTI @dl_idf) ?_; refine cont_pure (p1 h) ?_; refine rn (cj rTI @dl_idf) ?_; refine hK _ _ ?_; clear hK K
        (first | refine go (cj rTI @dl_idf) ?_ | exact go0 (cj rTI @dl_idf))
        (repeat' refine And.intro ?_ ?_) <;> (first | done | exact rfl | (intro i hi; exact rn0 (cj rTI @dl_idf); done) | (exact rn0 (cj rTI @dl_idf); done) | skip)
    · have h' : m < n := by omega
      rw [cmpN_lt h'] at *
      (try rw [then_normal]); (try refine aw_seq ?_); refine aw_cond rfl ?_ ?_ <;> intro hb <;> (try (cases hb; done)) <;> (try simp only [bq] at hb) <;> (try (exfalso; omega))
      (first | refine go (cj rTI @dl_idf) ?_ | exact go0 (cj rTI @dl_idf))
      refine aw_drw (.take 0 (.take 1 (.take 2 (.take 3 (.take 4 (.take 5 (.one 6 (.take 7 (.one 8 (.done)))))))))) [s.nx, s.nx + 1] (by kernel_rfl) (by kernel_rfl) fun K hK => ?_; refine dr (cj rTI @dl_idf) ?_; refine cont_pure (p2 (by omega)) ?_; refine dr (cj rTI @dl_idf) ?_; refine hK _ _ ?_; clear hK K
      (first | refine go (cj rTI @dl_idf) ?_ | exact go0 (cj rTI @dl_idf))
      (repeat' refine And.intro ?_ ?_) <;> (first | done | exact rfl | (intro i hi; exact rn0 (cj rTI @dl_idf); done) | (exact rn0 (cj rTI @dl_idf); done) | skip)
  · by_cases h : 0 < m + n
    · have h4 : 0 < ln (m + n) := by omega
      (first | refine go (cj rTI @dl_idf) ?_ | exact go0 (cj rTI @dl_idf))
      (try rw [then_normal]); (try refine aw_seq ?_); refine aw_cond rfl ?_ ?_ <;> intro hb <;> (try (cases hb; done)) <;> (try simp only [bq] at hb) <;> (try (exfalso; omega))
      (first | refine go (cj rTI @dl_idf) ?_ | exact go0 (cj rTI @dl_idf))
      refine aw_reg fun K hK => ?_; refine rn (cj rTI @dl_idf) ?_; refine cont_pure p0 ?_; refine rn (cj rTI @dl_idf) ?_; refine hK _ _ ?_; clear hK K
      (first | refine go (cj rTI @dl_idf) ?_ | exact go0 (cj rTI @dl_idf))
      (repeat' refine And.intro ?_ ?_) <;> (first | done | exact rfl | (intro i hi; exact rn0 (cj rTI @dl_idf); done) | (exact rn0 (cj rTI @dl_idf); done) | skip)
    · have h4 : ln (m + n) = 0 := by omega
      (first | refine go (cj rTI @dl_idf) ?_ | exact go0 (cj rTI @dl_idf))
      (try rw [then_normal]); (try refine aw_seq ?_); refine aw_cond rfl ?_ ?_ <;> intro hb <;> (try (cases hb; done)) <;> (try simp only [bq] at hb) <;> (try (exfalso; omega))
      (first | refine go (cj rTI @dl_idf) ?_ | exact go0 (cj rTI @dl_idf))
      refine aw_reg fun K hK => ?_; refine rn (cj rTI @dl_idf) ?_; refine cont_pure p0 ?_; refine rn (cj rTI @dl_idf) ?_; refine hK _ _ ?_; clear hK K
      (first | refine go (cj rTI @dl_idf) ?_ | exact go0 (cj rTI @dl_idf))
      (repeat' refine And.intro ?_ ?_) <;> (first | done | exact rfl | (intro i hi; exact rn0 (cj rTI @dl_idf); done) | (exact rn0 (cj rTI @dl_idf); done) | skip)

theorem plusN_ax (x y : Int) (hx : lz x ≤ 1099511627776) (hy : lz y ≤ 1099511627776) : PCall Tryz.prog 57 [NI x, NI y] (NI (x + y)) := by
  have h := plusS_ax (decide (x < 0)) (decide (y < 0)) x.natAbs y.natAbs hx hy
  have e : plusS (decide (x < 0)) (decide (y < 0)) x.natAbs y.natAbs = NI (x + y) := by
    unfold plusS NI
    by_cases h1 : x < 0 <;> by_cases h2 : y < 0
    · rw [if_pos (by simp [h1, h2]), show x.natAbs + y.natAbs = (x + y).natAbs by omega]
      congr 1
      rw [Bool.eq_iff_iff]; simp only [Bool.and_eq_true, decide_eq_true_eq]; omega
    · rw [if_neg (by simp [h1, h2])]
      split
      · rw [show x.natAbs - y.natAbs = (x + y).natAbs by omega]
        congr 1
        rw [Bool.eq_iff_iff]; simp only [Bool.and_eq_true, decide_eq_true_eq]; omega
      · rw [show y.natAbs - x.natAbs = (x + y).natAbs by omega]
        congr 1
        rw [Bool.eq_iff_iff]; simp only [decide_eq_true_eq]; omega
    · rw [if_neg (by simp [h1, h2])]
      split
      · rw [show x.natAbs - y.natAbs = (x + y).natAbs by omega]
        congr 1
        rw [Bool.eq_iff_iff]; simp only [Bool.and_eq_true, decide_eq_true_eq]; omega
      · rw [show y.natAbs - x.natAbs = (x + y).natAbs by omega]
        congr 1
        rw [Bool.eq_iff_iff]; simp only [decide_eq_true_eq]; omega
    · rw [if_pos (by simp [h1, h2]), show x.natAbs + y.natAbs = (x + y).natAbs by omega]
      congr 1
      rw [Bool.eq_iff_iff]; simp only [Bool.and_eq_true, decide_eq_true_eq]; omega
  rw [e] at h
  exact h
theorem lessN_ax (x y : Int) (hx : lz x ≤ 1099511627776) (hy : lz y ≤ 1099511627776) : PCall Tryz.prog 155 [NI x, NI y] (NI (x - y)) := by
  refine pcall_of fun s => ?_
  refine acall_of Tryz.func155 rfl rfl (by simp [Tryz.ntmps155]) ?_; rw [Tryz.ntmps155, Tryz.results155]
  have p0 := minusN_ax y
  have p1 := plusN_ax x (-y) hx (by rw [lz_neg]; exact hy)
  rw [show x + -y = x - y by omega] at p1
  unfold NI at p0 p1 ⊢
  simp only [NS_eq, DN_ln] at p0 p1 ⊢
  (first | refine go (cj rTI @dl_idf) ?_ | exact go0 (cj rTI @dl_idf))
  refine aw_drw (.take 0 (.take 1 (.one 2 (.one 3 (.one 4 (.done)))))) [s.nx, s.nx + 1] (by kernel_rfl) (by kernel_rfl) fun K hK => ?_; refine dr (cj rTI @dl_idf) ?_; refine cont_pure p0 ?_; refine dr (cj rTI @dl_idf) ?_; refine cont_pure p1 ?_; refine dr (cj rTI @dl_idf) ?_; refine hK _ _ ?_; clear hK K
  (first | refine go (cj rTI @dl_idf) ?_ | exact go0 (cj rTI @dl_idf))
  (repeat' refine And.intro ?_ ?_) <;> (first | done | exact rfl | (intro i hi; exact rn0 (cj rTI @dl_idf); done) | (exact rn0 (cj rTI @dl_idf); done) | skip)
theorem heldN_ax (x y : Int) (hx : lz x ≤ 1099511627776) (hy : lz y ≤ 1099511627776) : PCall Tryz.prog 117 [NI x, NI y] (.v (.int .i64 (sgn (x - y)))) := by
  refine pcall_of fun s => ?_
  refine acall_of Tryz.func117 rfl rfl (by simp [Tryz.ntmps117]) ?_; rw [Tryz.ntmps117, Tryz.results117]
  have p0 := lessN_ax x y hx hy
  have p1 := sign_ax (x - y)
  unfold NI at p0 p1 ⊢
  simp only [NS_eq, DN_ln] at p0 p1 ⊢
  (first | refine go (cj rTI @dl_idf) ?_ | exact go0 (cj rTI @dl_idf))
  refine aw_reg fun K hK => ?_; refine rn (cj rTI @dl_idf) ?_; refine cont_pure p0 ?_; (first | refine rn (cj rTI @dl_idf) ?_ | exact rn0 (cj rTI @dl_idf)); refine cont_pure p1 ?_; refine rn (cj rTI @dl_idf) ?_; refine hK _ _ ?_; clear hK K
  (first | refine go (cj rTI @dl_idf) ?_ | exact go0 (cj rTI @dl_idf))
  (repeat' refine And.intro ?_ ?_) <;> (first | done | exact rfl | (intro i hi; exact rn0 (cj rTI @dl_idf); done) | (exact rn0 (cj rTI @dl_idf); done) | skip)
end Go.Proofs.YtfjelkjlfcafgaaGreatDoor.RefC
end
section
/- The document's whole numbers (layer 1): made from a machine's number. -/
namespace Go.Proofs.YtfjelkjlfcafgaaGreatDoor.RefD
open Go Go.RowKit Go.Proofs.YtfjelkjlfcafgaaGreatDoor.Ax Go.Proofs.YtfjelkjlfcafgaaGreatDoor.Ti Go.Proofs.YtfjelkjlfcafgaaGreatDoor.BigM Go.Proofs.YtfjelkjlfcafgaaGreatDoor.RefA Go.Proofs.YtfjelkjlfcafgaaGreatDoor.RefB Go.Proofs.YtfjelkjlfcafgaaGreatDoor.RefC
set_option maxHeartbeats 2000000
set_option linter.unusedSimpArgs false
set_option linter.unusedVariables false
set_option maxRecDepth 4000
theorem rTU : type_of% (cj @ti105 (cj @ti63 (cj @ti3 (cj @ti4 (cj @ti2 @ti165))))) := cj @ti105 (cj @ti63 (cj @ti3 (cj @ti4 (cj @ti2 @ti165))))
theorem rTI : type_of% (cj @ti105 (cj @ti63 (cj @ti3 @ti4))) := cj @ti105 (cj @ti63 (cj @ti3 @ti4))

/-- At the head of a round of Small. -/
structure SmallI (m sl : Nat) (kd : IntKind) (s : St) (N : Nat) (b : Bool) (n id : Nat) (ds : List Nat) (e : Env) (s' : St) : Prop where
  en : e.n = m
  e0 : e.m sl = .v (.int kd n)
  e2 : e.m 2 = .ptr s.nx 0
  e3 : e.m 3 = .ptr (s.nx + 1) 0
  g0 : s'.get s.nx = some [.v (.bool false), .v (.slice none 0 0)]
  g1 : s'.get (s.nx + 1) = some [.v (.bool b), .own id 0 ds.length 1]
  gi : s'.get id = some (DL ds)
  lo : s.nx + 1 < id
  hi : id < s'.nx
  fr : ∀ i, i < s.nx → s'.get i = s.get i
  all : digs B N = ds ++ digs B n
  sz : n ≤ N
theorem small_ax (z : Int) (h1 : -9223372036854775808 < z) (h2 : z < 9223372036854775808) : PCall Tryz.prog 55 [.v (.int .i64 z)] (NI z) := by
  have l0 : ln z.natAbs ≤ 4 := (ln_lt _ 4).1 (by unfold B; omega)
  refine pcall_of fun s => ?_
  refine acall_of Tryz.func55 rfl rfl (by simp [Tryz.ntmps55]) ?_; rw [Tryz.ntmps55, Tryz.results55]
  by_cases hz : z < 0
  · rw [NI_neg z hz, NS_eq]
    (first | refine go (cj rTI @dl_idf) ?_ | exact go0 (cj rTI @dl_idf))
    (try rw [then_normal]); (try refine aw_seq ?_); refine aw_cond rfl ?_ ?_ <;> intro hb <;> (try (cases hb; done)) <;> (try simp only [bq] at hb) <;> (try (exfalso; omega))
    (first | refine go (cj rTI @dl_idf) ?_ | exact go0 (cj rTI @dl_idf))
    refine aw_nil_box (s.nx + 1) 1 1 _ (by (first | refine rn (cj rTI @dl_idf) ?_ | exact rn0 (cj rTI @dl_idf)); rfl) rfl ?_
    refine aw_loop (fun n e s' => ∃ (id : Nat) (ds : List Nat), SmallI 21 0 .i64 s z.natAbs true n id ds e s') z.natAbs ?_ ?_
    · refine ⟨s.nx + 2, [], ?_⟩
      constructor <;> (try (first | refine rn trivial ?_ | exact rn0 trivial))
      all_goals (first | done | omega | (refine congrArg some ?_; rfl) | rfl | (refine congrArg (fun z : Int => AV.v (.int .i64 z)) ?_; omega) | (intro i hi; (first | refine rn trivial ?_ | exact rn0 trivial)) | skip)
    · rintro n e s' ⟨id, ds, hI⟩
      have k0 := hI.en
      have k9 := hI.sz
      have k1 := hI.e0
      have k2 := hI.e2
      have k3 := hI.e3
      have k4 := hI.g0
      have k5 := hI.g1
      have k6 := hI.gi
      have k7 := hI.lo
      have k8 := hI.hi
      have l1 := DL_len ds
      have l2 := congrArg List.length hI.all
      rw [List.length_append] at l2
      change ln _ = _ + ln _ at l2
      by_cases hn : 0 < n
      · (first | refine go (cj rTI (cj @dl_idf (cj @k0 (cj @k1 (cj @k2 (cj @k3 (cj @k4 (cj @k5 (cj @k6 @l1))))))))) ?_ | exact go0 (cj rTI (cj @dl_idf (cj @k0 (cj @k1 (cj @k2 (cj @k3 (cj @k4 (cj @k5 (cj @k6 @l1))))))))))
        (try rw [then_normal]); (try refine aw_seq ?_); refine aw_cond rfl ?_ ?_ <;> intro hb <;> (try (cases hb; done)) <;> (try simp only [bq] at hb) <;> (try (exfalso; omega))
        (first | refine go (cj rTI (cj @dl_idf (cj @k0 (cj @k1 (cj @k2 (cj @k3 (cj @k4 (cj @k5 (cj @k6 @l1))))))))) ?_ | exact go0 (cj rTI (cj @dl_idf (cj @k0 (cj @k1 (cj @k2 (cj @k3 (cj @k4 (cj @k5 (cj @k6 @l1))))))))))
        have hst := digs_pos B n hB hn
        simp only [block_normal, loop_normal]; refine ⟨n / 65536, by omega, ?_⟩
        refine ⟨s'.nx + 1, ds ++ [n % B], ?_⟩
        constructor <;> (try (first | refine rn (cj rTI (cj @dl_idf (cj @k0 (cj @k1 (cj @k2 (cj @k3 (cj @k4 (cj @k5 (cj @k6 (cj @l1 (cj @DL_snoc rla))))))))))) ?_ | exact rn0 (cj rTI (cj @dl_idf (cj @k0 (cj @k1 (cj @k2 (cj @k3 (cj @k4 (cj @k5 (cj @k6 (cj @l1 (cj @DL_snoc rla)))))))))))))
        all_goals (first | done | omega | (refine congrArg some ?_; rfl) | rfl | (refine congrArg (fun z : Int => AV.v (.int .i64 z)) ?_; omega) | (intro i hi; (first | refine rn (hI.fr i hi) ?_ | exact rn0 (hI.fr i hi))) | skip)
        rw [hI.all, hst]; simp; rfl
      · (first | refine go (cj rTI (cj @dl_idf (cj @k0 (cj @k1 (cj @k2 (cj @k3 (cj @k4 (cj @k5 (cj @k6 @l1))))))))) ?_ | exact go0 (cj rTI (cj @dl_idf (cj @k0 (cj @k1 (cj @k2 (cj @k3 (cj @k4 (cj @k5 (cj @k6 @l1))))))))))
        (try rw [then_normal]); (try refine aw_seq ?_); refine aw_cond rfl ?_ ?_ <;> intro hb <;> (try (cases hb; done)) <;> (try simp only [bq] at hb) <;> (try (exfalso; omega))
        have ha := hI.all
        rw [show n = 0 by omega, digs_zero, List.append_nil] at ha
        have hb2 : ln z.natAbs = ds.length := congrArg List.length ha
        refine aw_freeze2 id (DL ds) k6 (fun i => i == s.nx + 1) fun e' s'' f1 f2 f3 f4 => ?_
        (first | refine go (cj rTI (cj @dl_idf (cj @k0 (cj @k1 (cj @k2 (cj @k3 (cj @k4 (cj @k5 (cj @k6 (cj @l1 (cj @f1 (cj @f2 (cj @f3 (cj @f4 (cj frw (cj @DL_take rbe)))))))))))))))) ?_ | exact go0 (cj rTI (cj @dl_idf (cj @k0 (cj @k1 (cj @k2 (cj @k3 (cj @k4 (cj @k5 (cj @k6 (cj @l1 (cj @f1 (cj @f2 (cj @f3 (cj @f4 (cj frw (cj @DL_take rbe)))))))))))))))))
        (repeat' refine And.intro ?_ ?_) <;> (first | done | exact rfl | (intro i hi; exact rn0 trivial; done) | (exact rn0 trivial; done) | skip)
        · rw [ha, hb2]
        · intro i hi
          (first | refine rn (hI.fr i hi) ?_ | exact rn0 (hI.fr i hi))
  · rw [NI_nn z (by omega), NS_eq]
    (first | refine go (cj rTI @dl_idf) ?_ | exact go0 (cj rTI @dl_idf))
    (try rw [then_normal]); (try refine aw_seq ?_); refine aw_cond rfl ?_ ?_ <;> intro hb <;> (try (cases hb; done)) <;> (try simp only [bq] at hb) <;> (try (exfalso; omega))
    (first | refine go (cj rTI @dl_idf) ?_ | exact go0 (cj rTI @dl_idf))
    refine aw_nil_box (s.nx + 1) 1 1 _ (by (first | refine rn (cj rTI @dl_idf) ?_ | exact rn0 (cj rTI @dl_idf)); rfl) rfl ?_
    refine aw_loop (fun n e s' => ∃ (id : Nat) (ds : List Nat), SmallI 21 0 .i64 s z.natAbs false n id ds e s') z.natAbs ?_ ?_
    · refine ⟨s.nx + 2, [], ?_⟩
      constructor <;> (try (first | refine rn trivial ?_ | exact rn0 trivial))
      all_goals (first | done | omega | (refine congrArg some ?_; rfl) | rfl | (refine congrArg (fun z : Int => AV.v (.int .i64 z)) ?_; omega) | (intro i hi; (first | refine rn trivial ?_ | exact rn0 trivial)) | skip)
    · rintro n e s' ⟨id, ds, hI⟩
      have k0 := hI.en
      have k9 := hI.sz
      have k1 := hI.e0
      have k2 := hI.e2
      have k3 := hI.e3
      have k4 := hI.g0
      have k5 := hI.g1
      have k6 := hI.gi
      have k7 := hI.lo
      have k8 := hI.hi
      have l1 := DL_len ds
      have l2 := congrArg List.length hI.all
      rw [List.length_append] at l2
      change ln _ = _ + ln _ at l2
      by_cases hn : 0 < n
      · (first | refine go (cj rTI (cj @dl_idf (cj @k0 (cj @k1 (cj @k2 (cj @k3 (cj @k4 (cj @k5 (cj @k6 @l1))))))))) ?_ | exact go0 (cj rTI (cj @dl_idf (cj @k0 (cj @k1 (cj @k2 (cj @k3 (cj @k4 (cj @k5 (cj @k6 @l1))))))))))
        (try rw [then_normal]); (try refine aw_seq ?_); refine aw_cond rfl ?_ ?_ <;> intro hb <;> (try (cases hb; done)) <;> (try simp only [bq] at hb) <;> (try (exfalso; omega))
        (first | refine go (cj rTI (cj @dl_idf (cj @k0 (cj @k1 (cj @k2 (cj @k3 (cj @k4 (cj @k5 (cj @k6 @l1))))))))) ?_ | exact go0 (cj rTI (cj @dl_idf (cj @k0 (cj @k1 (cj @k2 (cj @k3 (cj @k4 (cj @k5 (cj @k6 @l1))))))))))
        have hst := digs_pos B n hB hn
        simp only [block_normal, loop_normal]; refine ⟨n / 65536, by omega, ?_⟩
        refine ⟨s'.nx + 1, ds ++ [n % B], ?_⟩
        constructor <;> (try (first | refine rn (cj rTI (cj @dl_idf (cj @k0 (cj @k1 (cj @k2 (cj @k3 (cj @k4 (cj @k5 (cj @k6 (cj @l1 (cj @DL_snoc rla))))))))))) ?_ | exact rn0 (cj rTI (cj @dl_idf (cj @k0 (cj @k1 (cj @k2 (cj @k3 (cj @k4 (cj @k5 (cj @k6 (cj @l1 (cj @DL_snoc rla)))))))))))))
        all_goals (first | done | omega | (refine congrArg some ?_; rfl) | rfl | (refine congrArg (fun z : Int => AV.v (.int .i64 z)) ?_; omega) | (intro i hi; (first | refine rn (hI.fr i hi) ?_ | exact rn0 (hI.fr i hi))) | skip)
        rw [hI.all, hst]; simp; rfl
      · (first | refine go (cj rTI (cj @dl_idf (cj @k0 (cj @k1 (cj @k2 (cj @k3 (cj @k4 (cj @k5 (cj @k6 @l1))))))))) ?_ | exact go0 (cj rTI (cj @dl_idf (cj @k0 (cj @k1 (cj @k2 (cj @k3 (cj @k4 (cj @k5 (cj @k6 @l1))))))))))
        (try rw [then_normal]); (try refine aw_seq ?_); refine aw_cond rfl ?_ ?_ <;> intro hb <;> (try (cases hb; done)) <;> (try simp only [bq] at hb) <;> (try (exfalso; omega))
        have ha := hI.all
        rw [show n = 0 by omega, digs_zero, List.append_nil] at ha
        have hb2 : ln z.natAbs = ds.length := congrArg List.length ha
        refine aw_freeze2 id (DL ds) k6 (fun i => i == s.nx + 1) fun e' s'' f1 f2 f3 f4 => ?_
        (first | refine go (cj rTI (cj @dl_idf (cj @k0 (cj @k1 (cj @k2 (cj @k3 (cj @k4 (cj @k5 (cj @k6 (cj @l1 (cj @f1 (cj @f2 (cj @f3 (cj @f4 (cj frw (cj @DL_take rbe)))))))))))))))) ?_ | exact go0 (cj rTI (cj @dl_idf (cj @k0 (cj @k1 (cj @k2 (cj @k3 (cj @k4 (cj @k5 (cj @k6 (cj @l1 (cj @f1 (cj @f2 (cj @f3 (cj @f4 (cj frw (cj @DL_take rbe)))))))))))))))))
        (repeat' refine And.intro ?_ ?_) <;> (first | done | exact rfl | (intro i hi; exact rn0 trivial; done) | (exact rn0 trivial; done) | skip)
        · rw [ha, hb2]
        · intro i hi
          (first | refine rn (hI.fr i hi) ?_ | exact rn0 (hI.fr i hi))
theorem wide_ax (z : Int) (h1 : -9223372036854775808 ≤ z) (h2 : z < 9223372036854775808) : PCall Tryz.prog 66 [.v (.int .i64 z)] (NI z) := by
  have l0 : ln z.natAbs ≤ 4 := (ln_lt _ 4).1 (by unfold B; omega)
  refine pcall_of fun s => ?_
  refine acall_of Tryz.func66 rfl rfl (by simp [Tryz.ntmps66]) ?_; rw [Tryz.ntmps66, Tryz.results66]
  by_cases hz : z < 0
  · rw [NI_neg z hz, NS_eq]
    (first | refine go (cj rTU @dl_idf) ?_ | exact go0 (cj rTU @dl_idf))
    (try rw [then_normal]); (try refine aw_seq ?_); refine aw_cond rfl ?_ ?_ <;> intro hb <;> (try (cases hb; done)) <;> (try simp only [bq] at hb) <;> (try (exfalso; omega))
    (first | refine go (cj rTU @dl_idf) ?_ | exact go0 (cj rTU @dl_idf))
    refine aw_nil_box (s.nx + 1) 1 1 _ (by (first | refine rn (cj rTU @dl_idf) ?_ | exact rn0 (cj rTU @dl_idf)); rfl) rfl ?_
    refine aw_loop (fun n e s' => ∃ (id : Nat) (ds : List Nat), SmallI 25 4 .u64 s z.natAbs true n id ds e s') z.natAbs ?_ ?_
    · refine ⟨s.nx + 2, [], ?_⟩
      constructor <;> (try (first | refine rn trivial ?_ | exact rn0 trivial))
      all_goals (first | done | omega | (refine congrArg some ?_; rfl) | rfl | (refine congrArg (fun z : Int => AV.v (.int .i64 z)) ?_; omega) | (intro i hi; (first | refine rn trivial ?_ | exact rn0 trivial)) | skip)
      all_goals (refine congrArg (fun z : Int => AV.v (.int .u64 z)) ?_; (try simp only [wrap_u64]); omega)
    · rintro n e s' ⟨id, ds, hI⟩
      have k0 := hI.en
      have k9 := hI.sz
      have k1 := hI.e0
      have k2 := hI.e2
      have k3 := hI.e3
      have k4 := hI.g0
      have k5 := hI.g1
      have k6 := hI.gi
      have k7 := hI.lo
      have k8 := hI.hi
      have l1 := DL_len ds
      have l2 := congrArg List.length hI.all
      rw [List.length_append] at l2
      change ln _ = _ + ln _ at l2
      by_cases hn : 0 < n
      · (first | refine go (cj rTU (cj @dl_idf (cj @k0 (cj @k1 (cj @k2 (cj @k3 (cj @k4 (cj @k5 (cj @k6 @l1))))))))) ?_ | exact go0 (cj rTU (cj @dl_idf (cj @k0 (cj @k1 (cj @k2 (cj @k3 (cj @k4 (cj @k5 (cj @k6 @l1))))))))))
        (try rw [then_normal]); (try refine aw_seq ?_); refine aw_cond rfl ?_ ?_ <;> intro hb <;> (try (cases hb; done)) <;> (try simp only [bq] at hb) <;> (try (exfalso; omega))
        (first | refine go (cj rTU (cj @dl_idf (cj @k0 (cj @k1 (cj @k2 (cj @k3 (cj @k4 (cj @k5 (cj @k6 @l1))))))))) ?_ | exact go0 (cj rTU (cj @dl_idf (cj @k0 (cj @k1 (cj @k2 (cj @k3 (cj @k4 (cj @k5 (cj @k6 @l1))))))))))
        have hst := digs_pos B n hB hn
        simp only [block_normal, loop_normal]; refine ⟨n / 65536, by omega, ?_⟩
        refine ⟨s'.nx + 1, ds ++ [n % B], ?_⟩
        constructor <;> (try (first | refine rn (cj rTU (cj @dl_idf (cj @k0 (cj @k1 (cj @k2 (cj @k3 (cj @k4 (cj @k5 (cj @k6 (cj @l1 (cj @DL_snoc rla))))))))))) ?_ | exact rn0 (cj rTU (cj @dl_idf (cj @k0 (cj @k1 (cj @k2 (cj @k3 (cj @k4 (cj @k5 (cj @k6 (cj @l1 (cj @DL_snoc rla)))))))))))))
        all_goals (first | done | omega | (refine congrArg some ?_; rfl) | rfl | (refine congrArg (fun z : Int => AV.v (.int .i64 z)) ?_; omega) | (intro i hi; (first | refine rn (hI.fr i hi) ?_ | exact rn0 (hI.fr i hi))) | skip)
        rw [hI.all, hst]; simp; rfl
      · (first | refine go (cj rTU (cj @dl_idf (cj @k0 (cj @k1 (cj @k2 (cj @k3 (cj @k4 (cj @k5 (cj @k6 @l1))))))))) ?_ | exact go0 (cj rTU (cj @dl_idf (cj @k0 (cj @k1 (cj @k2 (cj @k3 (cj @k4 (cj @k5 (cj @k6 @l1))))))))))
        (try rw [then_normal]); (try refine aw_seq ?_); refine aw_cond rfl ?_ ?_ <;> intro hb <;> (try (cases hb; done)) <;> (try simp only [bq] at hb) <;> (try (exfalso; omega))
        have ha := hI.all
        rw [show n = 0 by omega, digs_zero, List.append_nil] at ha
        have hb2 : ln z.natAbs = ds.length := congrArg List.length ha
        refine aw_freeze2 id (DL ds) k6 (fun i => i == s.nx + 1) fun e' s'' f1 f2 f3 f4 => ?_
        (first | refine go (cj rTU (cj @dl_idf (cj @k0 (cj @k1 (cj @k2 (cj @k3 (cj @k4 (cj @k5 (cj @k6 (cj @l1 (cj @f1 (cj @f2 (cj @f3 (cj @f4 (cj frw (cj @DL_take rbe)))))))))))))))) ?_ | exact go0 (cj rTU (cj @dl_idf (cj @k0 (cj @k1 (cj @k2 (cj @k3 (cj @k4 (cj @k5 (cj @k6 (cj @l1 (cj @f1 (cj @f2 (cj @f3 (cj @f4 (cj frw (cj @DL_take rbe)))))))))))))))))
        (repeat' refine And.intro ?_ ?_) <;> (first | done | exact rfl | (intro i hi; exact rn0 trivial; done) | (exact rn0 trivial; done) | skip)
        · rw [ha, hb2]
        · intro i hi
          (first | refine rn (hI.fr i hi) ?_ | exact rn0 (hI.fr i hi))
  · rw [NI_nn z (by omega), NS_eq]
    (first | refine go (cj rTU @dl_idf) ?_ | exact go0 (cj rTU @dl_idf))
    (try rw [then_normal]); (try refine aw_seq ?_); refine aw_cond rfl ?_ ?_ <;> intro hb <;> (try (cases hb; done)) <;> (try simp only [bq] at hb) <;> (try (exfalso; omega))
    (first | refine go (cj rTU @dl_idf) ?_ | exact go0 (cj rTU @dl_idf))
    refine aw_nil_box (s.nx + 1) 1 1 _ (by (first | refine rn (cj rTU @dl_idf) ?_ | exact rn0 (cj rTU @dl_idf)); rfl) rfl ?_
    refine aw_loop (fun n e s' => ∃ (id : Nat) (ds : List Nat), SmallI 25 4 .u64 s z.natAbs false n id ds e s') z.natAbs ?_ ?_
    · refine ⟨s.nx + 2, [], ?_⟩
      constructor <;> (try (first | refine rn trivial ?_ | exact rn0 trivial))
      all_goals (first | done | omega | (refine congrArg some ?_; rfl) | rfl | (refine congrArg (fun z : Int => AV.v (.int .i64 z)) ?_; omega) | (intro i hi; (first | refine rn trivial ?_ | exact rn0 trivial)) | skip)
      all_goals (refine congrArg (fun z : Int => AV.v (.int .u64 z)) ?_; (try simp only [wrap_u64]); omega)
    · rintro n e s' ⟨id, ds, hI⟩
      have k0 := hI.en
      have k9 := hI.sz
      have k1 := hI.e0
      have k2 := hI.e2
      have k3 := hI.e3
      have k4 := hI.g0
      have k5 := hI.g1
      have k6 := hI.gi
      have k7 := hI.lo
      have k8 := hI.hi
      have l1 := DL_len ds
      have l2 := congrArg List.length hI.all
      rw [List.length_append] at l2
      change ln _ = _ + ln _ at l2
      by_cases hn : 0 < n
      · (first | refine go (cj rTU (cj @dl_idf (cj @k0 (cj @k1 (cj @k2 (cj @k3 (cj @k4 (cj @k5 (cj @k6 @l1))))))))) ?_ | exact go0 (cj rTU (cj @dl_idf (cj @k0 (cj @k1 (cj @k2 (cj @k3 (cj @k4 (cj @k5 (cj @k6 @l1))))))))))
        (try rw [then_normal]); (try refine aw_seq ?_); refine aw_cond rfl ?_ ?_ <;> intro hb <;> (try (cases hb; done)) <;> (try simp only [bq] at hb) <;> (try (exfalso; omega))
        (first | refine go (cj rTU (cj @dl_idf (cj @k0 (cj @k1 (cj @k2 (cj @k3 (cj @k4 (cj @k5 (cj @k6 @l1))))))))) ?_ | exact go0 (cj rTU (cj @dl_idf (cj @k0 (cj @k1 (cj @k2 (cj @k3 (cj @k4 (cj @k5 (cj @k6 @l1))))))))))
        have hst := digs_pos B n hB hn
        simp only [block_normal, loop_normal]; refine ⟨n / 65536, by omega, ?_⟩
        refine ⟨s'.nx + 1, ds ++ [n % B], ?_⟩
        constructor <;> (try (first | refine rn (cj rTU (cj @dl_idf (cj @k0 (cj @k1 (cj @k2 (cj @k3 (cj @k4 (cj @k5 (cj @k6 (cj @l1 (cj @DL_snoc rla))))))))))) ?_ | exact rn0 (cj rTU (cj @dl_idf (cj @k0 (cj @k1 (cj @k2 (cj @k3 (cj @k4 (cj @k5 (cj @k6 (cj @l1 (cj @DL_snoc rla)))))))))))))
        all_goals (first | done | omega | (refine congrArg some ?_; rfl) | rfl | (refine congrArg (fun z : Int => AV.v (.int .i64 z)) ?_; omega) | (intro i hi; (first | refine rn (hI.fr i hi) ?_ | exact rn0 (hI.fr i hi))) | skip)
        rw [hI.all, hst]; simp; rfl
      · (first | refine go (cj rTU (cj @dl_idf (cj @k0 (cj @k1 (cj @k2 (cj @k3 (cj @k4 (cj @k5 (cj @k6 @l1))))))))) ?_ | exact go0 (cj rTU (cj @dl_idf (cj @k0 (cj @k1 (cj @k2 (cj @k3 (cj @k4 (cj @k5 (cj @k6 @l1))))))))))
        (try rw [then_normal]); (try refine aw_seq ?_); refine aw_cond rfl ?_ ?_ <;> intro hb <;> (try (cases hb; done)) <;> (try simp only [bq] at hb) <;> (try (exfalso; omega))
        have ha := hI.all
        rw [show n = 0 by omega, digs_zero, List.append_nil] at ha
        have hb2 : ln z.natAbs = ds.length := congrArg List.length ha
        refine aw_freeze2 id (DL ds) k6 (fun i => i == s.nx + 1) fun e' s'' f1 f2 f3 f4 => ?_
        (first | refine go (cj rTU (cj @dl_idf (cj @k0 (cj @k1 (cj @k2 (cj @k3 (cj @k4 (cj @k5 (cj @k6 (cj @l1 (cj @f1 (cj @f2 (cj @f3 (cj @f4 (cj frw (cj @DL_take rbe)))))))))))))))) ?_ | exact go0 (cj rTU (cj @dl_idf (cj @k0 (cj @k1 (cj @k2 (cj @k3 (cj @k4 (cj @k5 (cj @k6 (cj @l1 (cj @f1 (cj @f2 (cj @f3 (cj @f4 (cj frw (cj @DL_take rbe)))))))))))))))))
        (repeat' refine And.intro ?_ ?_) <;> (first | done | exact rfl | (intro i hi; exact rn0 trivial; done) | (exact rn0 trivial; done) | skip)
        · rw [ha, hb2]
        · intro i hi
          (first | refine rn (hI.fr i hi) ?_ | exact rn0 (hI.fr i hi))
end Go.Proofs.YtfjelkjlfcafgaaGreatDoor.RefD
end
section
/- The document's whole numbers (layer 1): the product. -/
namespace Go.Proofs.YtfjelkjlfcafgaaGreatDoor.RefE
open Go Go.RowKit Go.Proofs.YtfjelkjlfcafgaaGreatDoor.Ax Go.Proofs.YtfjelkjlfcafgaaGreatDoor.Ti Go.Proofs.YtfjelkjlfcafgaaGreatDoor.BigM Go.Proofs.YtfjelkjlfcafgaaGreatDoor.RefA Go.Proofs.YtfjelkjlfcafgaaGreatDoor.RefB Go.Proofs.YtfjelkjlfcafgaaGreatDoor.RefC Go.Proofs.YtfjelkjlfcafgaaGreatDoor.RefD
set_option maxHeartbeats 2000000
set_option linter.unusedSimpArgs false
set_option linter.unusedVariables false
set_option maxRecDepth 4000
theorem rTI : type_of% (cj @ti105 (cj @ti63 (cj @ti3 @ti4))) := cj @ti105 (cj @ti63 (cj @ti3 @ti4))

theorem val_set : ∀ (ds : List Nat) (k v : Nat), k < ds.length → val B (ds.set k v) + B ^ k * ds.getD k 0 = val B ds + B ^ k * v
  | [], _, _, h => by simp at h
  | d :: l, 0, v, _ => by
    rw [List.set_cons_zero, val, val, Nat.pow_zero, List.getD_cons_zero]
    omega
  | d :: l, k + 1, v, h => by
    have ih := val_set l k v (by simpa using h)
    rw [List.set_cons_succ, val, val, List.getD_cons_succ, Nat.pow_succ]
    have e1 : B * (val B (l.set k v) + B ^ k * l.getD k 0) = B * (val B l + B ^ k * v) := by rw [ih]
    rw [Nat.mul_add, Nat.mul_add, ← Nat.mul_assoc, ← Nat.mul_assoc, Nat.mul_comm B (B ^ k)] at e1
    omega
theorem hd_DL (ds : List Nat) (k : Nat) (h : k < ds.length) : ((DL ds).drop k).head? = some (.v (.int .i64 (ds.getD k 0 : Nat))) := hd_nat (fun x : Nat => AV.v (.int .i64 (x : Int))) ds k h
theorem DL_set (ds : List Nat) (k v : Nat) : (DL ds).set k (.v (.int .i64 (v : Int))) = DL (ds.set k v) := by unfold DL; rw [List.map_set]
theorem DL_zero (n : Nat) : List.replicate n (AV.v (.int .i64 0)) = DL (List.replicate n 0) := by unfold DL; rw [List.map_replicate]; rfl
theorem getD_set (ds : List Nat) (k v j : Nat) (h : k < ds.length) : (ds.set k v).getD j 0 = if j = k then v else ds.getD j 0 := by
  rw [List.getD_eq_getElem?_getD, List.getD_eq_getElem?_getD, List.getElem?_set]
  by_cases e : j = k
  · subst e; simp [h]
  · rw [if_neg (fun q => e q.symm), if_neg e]
theorem set_lt (ds : List Nat) (k v : Nat) (h : ∀ d ∈ ds, d < B) (hv : v < B) : ∀ d ∈ ds.set k v, d < B := by
  intro d hd
  rcases List.mem_or_eq_of_mem_set hd with q | q
  · exact h d q
  · rw [q]; exact hv

/-- The memory of a product. -/
structure TimesM (a b : Bool) (xs ys : List Nat) (s : St) (i : Nat) (ds : List Nat) (e : Env) (s' : St) : Prop where
  en : e.n = 92
  e2 : e.m 2 = .ptr s.nx 0
  e3 : e.m 3 = .ptr (s.nx + 1) 0
  e4 : e.m 4 = .ptr (s.nx + 2) 0
  e5 : e.m 5 = .own (s.nx + 3) 0 (xs.length + ys.length) 1
  e6 : e.m 6 = .v (.int .i64 i)
  g0 : s'.get s.nx = some [.v (.bool a), .sl xs.length (DL xs)]
  g1 : s'.get (s.nx + 1) = some [.v (.bool b), .sl ys.length (DL ys)]
  g2 : s'.get (s.nx + 2) = some [.v (.bool false), .v (.slice none 0 0)]
  gi : s'.get (s.nx + 3) = some (DL ds)
  hi : s'.nx = s.nx + 4
  fr : ∀ i, i < s.nx → s'.get i = s.get i
  len : ds.length = xs.length + ys.length
  lt : ∀ d ∈ ds, d < B
/-- At the head of a row. -/
structure TimesO (a b : Bool) (xs ys : List Nat) (s : St) (n i : Nat) (ds : List Nat) (e : Env) (s' : St) : Prop extends TimesM a b xs ys s i ds e s' where
  on : n = xs.length - i
  oi : i ≤ xs.length
  oz : ∀ k, i + ys.length ≤ k → ds.getD k 0 = 0
  ov : val B ds = val B (xs.take i) * val B ys
/-- Within a row. -/
structure TimesJ (a b : Bool) (xs ys : List Nat) (s : St) (i : Nat) (n j cr : Nat) (ds : List Nat) (e : Env) (s' : St) : Prop extends TimesM a b xs ys s i ds e s' where
  e7 : e.m 7 = .v (.int .i64 cr)
  e8 : e.m 8 = .v (.int .i64 j)
  jc : cr < B
  jn : n = ys.length - j
  ji : i < xs.length
  jj : j ≤ ys.length
  jz : ∀ k, i + ys.length ≤ k → ds.getD k 0 = 0
  jv : val B ds + B ^ (i + j) * cr = val B (xs.take i) * val B ys + B ^ i * xs.getD i 0 * val B (ys.take j)
theorem times_step (xs ys ds : List Nat) (i j cr : Nat) (h : val B ds + B ^ (i + j) * cr = val B (xs.take i) * val B ys + B ^ i * xs.getD i 0 * val B (ys.take j)) (hk : i + j < ds.length) (z : Nat) (hz : z = ds.getD (i + j) 0 + xs.getD i 0 * ys.getD j 0 + cr) :
    val B (ds.set (i + j) (z % B)) + B ^ (i + (j + 1)) * (z / B) = val B (xs.take i) * val B ys + B ^ i * xs.getD i 0 * val B (ys.take (j + 1)) := by
  have h1 := val_set ds (i + j) (z % B) hk
  have h2 : B ^ (i + j) * z = B ^ (i + j) * (z % B) + B ^ (i + (j + 1)) * (z / B) := by
    conv => lhs; rw [← Nat.mod_add_div z B]
    rw [Nat.mul_add, ← Nat.mul_assoc, ← Nat.pow_succ]
    rfl
  have h3 : B ^ (i + j) * z = B ^ (i + j) * ds.getD (i + j) 0 + B ^ i * xs.getD i 0 * (B ^ j * ys.getD j 0) + B ^ (i + j) * cr := by
    rw [hz, Nat.mul_add, Nat.mul_add, Nat.pow_add]
    congr 2
    ac_rfl
  rw [tk_snoc, Nat.mul_add]
  omega
theorem times_row (xs ys ds : List Nat) (i cr : Nat) (h : val B ds + B ^ (i + ys.length) * cr = val B (xs.take i) * val B ys + B ^ i * xs.getD i 0 * val B (ys.take ys.length)) (hk : i + ys.length < ds.length) (h0 : ds.getD (i + ys.length) 0 = 0) :
    val B (ds.set (i + ys.length) cr) = val B (xs.take (i + 1)) * val B ys := by
  have h1 := val_set ds (i + ys.length) cr hk
  rw [h0] at h1
  rw [tk_snoc, Nat.add_mul]
  rw [List.take_length] at h
  omega
theorem timesS_ax (a b : Bool) (xs ys : List Nat) (dx : ∀ d ∈ xs, d < B) (dy : ∀ d ∈ ys, d < B) (hl : xs.length + ys.length ≤ 1099511627776) : PCall Tryz.prog 58 [.ag [.v (.bool a), .sl xs.length (DL xs)], .ag [.v (.bool b), .sl ys.length (DL ys)]] (NS ((a != b) && decide (0 < val B xs * val B ys)) (val B xs * val B ys)) := by
  refine pcall_of fun s => ?_
  refine acall_of Tryz.func58 rfl rfl (by simp [Tryz.ntmps58]) ?_; rw [Tryz.ntmps58, Tryz.results58]
  (first | refine go (cj rTI @dl_idf) ?_ | exact go0 (cj rTI @dl_idf))
  refine aw_loop (fun n e s' => ∃ (i : Nat) (ds : List Nat), TimesO a b xs ys s n i ds e s') xs.length ?_ ?_
  · refine ⟨0, List.replicate (xs.length + ys.length) 0, ?_⟩
    constructor
    · constructor <;> (try (first | refine rn @DL_zero ?_ | exact rn0 @DL_zero))
      all_goals (first | done | omega | (refine congrArg some ?_; rfl) | rfl | (refine congrArg (fun z : Int => AV.v (.int .i64 z)) ?_; omega) | (intro i hi; (first | refine rn @DL_zero ?_ | exact rn0 @DL_zero)) | skip)
      · simp
      · intro d hd
        rw [List.eq_of_mem_replicate hd]; decide
    · omega
    · omega
    · intro k hk
      simp [List.getD_eq_getElem?_getD, List.getElem?_replicate]
      try (split <;> rfl)
    · rw [val_replicate]; simp [val]
  · rintro n e s' ⟨i, ds, hO⟩
    have k0 := hO.en
    have k2 := hO.e2
    have k3 := hO.e3
    have k4 := hO.e4
    have k5 := hO.e5
    have k6 := hO.e6
    have g0 := hO.g0
    have g1 := hO.g1
    have g2 := hO.g2
    have g3 := hO.gi
    have g4 := hO.hi
    have b1 := hO.on
    have b2 := hO.oi
    have l1 := DL_len ds
    have l2 := DL_len xs
    have l3 := DL_len ys
    have l4 := hO.len
    by_cases hn : i < xs.length
    · (first | refine go (cj rTI (cj @dl_idf (cj @k0 (cj @k2 (cj @k3 (cj @k4 (cj @k5 (cj @k6 (cj @g0 (cj @g1 (cj @g2 @g3))))))))))) ?_ | exact go0 (cj rTI (cj @dl_idf (cj @k0 (cj @k2 (cj @k3 (cj @k4 (cj @k5 (cj @k6 (cj @g0 (cj @g1 (cj @g2 @g3))))))))))))
      (try rw [then_normal]); (try refine aw_seq ?_); refine aw_cond rfl ?_ ?_ <;> intro hb <;> (try (cases hb; done)) <;> (try simp only [bq] at hb) <;> (try (exfalso; omega))
      (first | refine go (cj rTI (cj @dl_idf (cj @k0 (cj @k2 (cj @k3 (cj @k4 (cj @k5 (cj @k6 (cj @g0 (cj @g1 (cj @g2 @g3))))))))))) ?_ | exact go0 (cj rTI (cj @dl_idf (cj @k0 (cj @k2 (cj @k3 (cj @k4 (cj @k5 (cj @k6 (cj @g0 (cj @g1 (cj @g2 @g3))))))))))))
      refine aw_loop (fun n e s' => ∃ (j cr : Nat) (ds : List Nat), TimesJ a b xs ys s i n j cr ds e s') ys.length ?_ ?_
      · refine ⟨0, 0, ds, ?_⟩
        constructor
        · constructor <;> (try (first | refine rn (cj @k0 (cj @k2 (cj @k3 (cj @k4 (cj @k5 (cj @k6 (cj @g0 (cj @g1 (cj @g2 (cj @g3 (cj @g4 @hO.len))))))))))) ?_ | exact rn0 (cj @k0 (cj @k2 (cj @k3 (cj @k4 (cj @k5 (cj @k6 (cj @g0 (cj @g1 (cj @g2 (cj @g3 (cj @g4 @hO.len)))))))))))))
          all_goals (first | done | omega | (refine congrArg some ?_; rfl) | rfl | (refine congrArg (fun z : Int => AV.v (.int .i64 z)) ?_; omega) | (intro i hi; (first | refine rn (hO.fr i hi) ?_ | exact rn0 (hO.fr i hi))) | skip)
          exact hO.lt
        · (first | refine rn trivial ?_ | exact rn0 trivial)
          rfl
        · (first | refine rn trivial ?_ | exact rn0 trivial)
          rfl
        · decide
        · omega
        · exact hn
        · omega
        · exact hO.oz
        · rw [hO.ov]; simp [val]
      · clear k0 k2 k3 k4 k5 k6 g0 g1 g2 g3 g4 b1 b2 l1 l4
        rintro n2 e2 s2 ⟨j, cr, ds, hJ⟩
        have k0 := hJ.en
        have k2 := hJ.e2
        have k3 := hJ.e3
        have k4 := hJ.e4
        have k5 := hJ.e5
        have k6 := hJ.e6
        have k7 := hJ.e7
        have k8 := hJ.e8
        have g0 := hJ.g0
        have g1 := hJ.g1
        have g2 := hJ.g2
        have g3 := hJ.gi
        have g4 := hJ.hi
        have b1 := hJ.jn
        have b2 := hJ.jj
        have l1 := DL_len ds
        have l4 := hJ.len
        by_cases hj : j < ys.length
        · (first | refine go (cj rTI (cj @dl_idf (cj @k0 (cj @k2 (cj @k3 (cj @k4 (cj @k5 (cj @k6 (cj @k7 (cj @k8 (cj @g0 (cj @g1 (cj @g2 @g3))))))))))))) ?_ | exact go0 (cj rTI (cj @dl_idf (cj @k0 (cj @k2 (cj @k3 (cj @k4 (cj @k5 (cj @k6 (cj @k7 (cj @k8 (cj @g0 (cj @g1 (cj @g2 @g3))))))))))))))
          (try rw [then_normal]); (try refine aw_seq ?_); refine aw_cond rfl ?_ ?_ <;> intro hb <;> (try (cases hb; done)) <;> (try simp only [bq] at hb) <;> (try (exfalso; omega))
          (first | refine go (cj rTI (cj @dl_idf (cj @k0 (cj @k2 (cj @k3 (cj @k4 (cj @k5 (cj @k6 (cj @k7 (cj @k8 (cj @g0 (cj @g1 (cj @g2 @g3))))))))))))) ?_ | exact go0 (cj rTI (cj @dl_idf (cj @k0 (cj @k2 (cj @k3 (cj @k4 (cj @k5 (cj @k6 (cj @k7 (cj @k8 (cj @g0 (cj @g1 (cj @g2 @g3))))))))))))))
          have p1 : ds.getD (i + j) 0 < 65536 := getD_lt B (by decide) ds hJ.lt _
          have p2 : xs.getD i 0 < 65536 := getD_lt B (by decide) xs dx _
          have p3 : ys.getD j 0 < 65536 := getD_lt B (by decide) ys dy _
          have p4 : cr < 65536 := hJ.jc
          have p5 : xs.getD i 0 * ys.getD j 0 ≤ 65535 * 65535 := Nat.mul_le_mul (by omega) (by omega)
          have p6 : ((xs.getD i 0 : Nat) : Int) * ((ys.getD j 0 : Nat) : Int) ≤ 4294836225 := by rw [← Int.natCast_mul]; omega
          have p7 : 0 ≤ ((xs.getD i 0 : Nat) : Int) * ((ys.getD j 0 : Nat) : Int) := by rw [← Int.natCast_mul]; omega
          have p8 : ((i : Int) + (j : Int)).toNat = i + j := by omega
          refine aw_drw (.take 0 (.take 1 (.take 2 (.take 3 (.take 4 (.take 5 (.take 6 (.take 7 (.take 8 (.take 9 (.take 10 (.take 11 (.take 12 (.take 13 (.take 14 (.take 15 (.take 16 (.take 17 (.take 18 (.take 19 (.take 20 (.done)))))))))))))))))))))) [s.nx, s.nx + 1, s.nx + 3] (by kernel_rfl) (by kernel_rfl) fun K hK => ?_; refine dr (cj rTI (cj @dl_idf (cj @k0 (cj @k2 (cj @k3 (cj @k4 (cj @k5 (cj @k6 (cj @k7 (cj @k8 (cj @g0 (cj @g1 (cj @g2 (cj @g3 (cj @hd_DL (cj @p8 @l4)))))))))))))))) ?_; refine hK _ _ ?_; clear hK K
          (first | refine go (cj rTI (cj @dl_idf (cj @k0 (cj @k2 (cj @k3 (cj @k4 (cj @k5 (cj @k6 (cj @k7 (cj @k8 (cj @g0 (cj @g1 (cj @g2 (cj @g3 (cj @p8 (cj @l1 @l4)))))))))))))))) ?_ | exact go0 (cj rTI (cj @dl_idf (cj @k0 (cj @k2 (cj @k3 (cj @k4 (cj @k5 (cj @k6 (cj @k7 (cj @k8 (cj @g0 (cj @g1 (cj @g2 (cj @g3 (cj @p8 (cj @l1 @l4)))))))))))))))))
          have hst := times_step xs ys ds i j cr hJ.jv (by omega) _ rfl
          have q3 : ds.getD (i + j) 0 + xs.getD i 0 * ys.getD j 0 + cr < 65536 * 65536 := by omega
          have q5 : (ds.getD (i + j) 0 + xs.getD i 0 * ys.getD j 0 + cr) / 65536 < 65536 := Nat.div_lt_of_lt_mul q3
          have e1 : (((ds.getD (i + j) 0 : Nat) : Int) + ((xs.getD i 0 : Nat) : Int) * ((ys.getD j 0 : Nat) : Int) + (cr : Int)) = ((ds.getD (i + j) 0 + xs.getD i 0 * ys.getD j 0 + cr : Nat) : Int) := by
            rw [Int.natCast_add, Int.natCast_add, Int.natCast_mul]
          have e2 : ∀ z : Nat, ((z : Int) % 65536) = ((z % 65536 : Nat) : Int) := fun z => by omega
          have e3 : ∀ z : Nat, ((z : Int) / 65536) = ((z / 65536 : Nat) : Int) := fun z => by omega
          simp only [block_normal, loop_normal]; refine ⟨ys.length - (j + 1), by omega, ?_⟩
          refine ⟨j + 1, (ds.getD (i + j) 0 + xs.getD i 0 * ys.getD j 0 + cr) / B, ds.set (i + j) ((ds.getD (i + j) 0 + xs.getD i 0 * ys.getD j 0 + cr) % B), ?_⟩
          constructor
          · constructor <;> (try (first | refine rn (cj @k0 (cj @k2 (cj @k3 (cj @k4 (cj @k5 (cj @k6 (cj @k7 (cj @k8 (cj @g0 (cj @g1 (cj @g2 (cj @g3 (cj @g4 (cj @hJ.len (cj rls (cj @Nat.zero_add (cj @e1 (cj @e2 (cj @e3 @DL_set))))))))))))))))))) ?_ | exact rn0 (cj @k0 (cj @k2 (cj @k3 (cj @k4 (cj @k5 (cj @k6 (cj @k7 (cj @k8 (cj @g0 (cj @g1 (cj @g2 (cj @g3 (cj @g4 (cj @hJ.len (cj rls (cj @Nat.zero_add (cj @e1 (cj @e2 (cj @e3 @DL_set)))))))))))))))))))))
            all_goals (first | done | omega | (refine congrArg some ?_; rfl) | rfl | (refine congrArg (fun z : Int => AV.v (.int .i64 z)) ?_; omega) | (intro i hi; (first | refine rn (hJ.fr i hi) ?_ | exact rn0 (hJ.fr i hi))) | skip)
            exact set_lt _ _ _ hJ.lt (Nat.mod_lt _ (by decide))
          · (first | refine rn (cj @Nat.zero_add (cj @e1 (cj @e2 @e3))) ?_ | exact rn0 (cj @Nat.zero_add (cj @e1 (cj @e2 @e3))))
            rfl
          · (first | refine rn trivial ?_ | exact rn0 trivial)
            rfl
          · exact q5
          · omega
          · exact hJ.ji
          · omega
          · intro k hk
            rw [getD_set _ _ _ _ (by omega), if_neg (by omega)]
            exact hJ.jz k hk
          · exact hst
        · (first | refine go (cj rTI (cj @dl_idf (cj @k0 (cj @k2 (cj @k3 (cj @k4 (cj @k5 (cj @k6 (cj @k7 (cj @k8 (cj @g0 (cj @g1 (cj @g2 @g3))))))))))))) ?_ | exact go0 (cj rTI (cj @dl_idf (cj @k0 (cj @k2 (cj @k3 (cj @k4 (cj @k5 (cj @k6 (cj @k7 (cj @k8 (cj @g0 (cj @g1 (cj @g2 @g3))))))))))))))
          (try rw [then_normal]); (try refine aw_seq ?_); refine aw_cond rfl ?_ ?_ <;> intro hb <;> (try (cases hb; done)) <;> (try simp only [bq] at hb) <;> (try (exfalso; omega))
          (first | refine go (cj rTI (cj @dl_idf (cj @k0 (cj @k2 (cj @k3 (cj @k4 (cj @k5 (cj @k6 (cj @k7 (cj @k8 (cj @g0 (cj @g1 (cj @g2 @g3))))))))))))) ?_ | exact go0 (cj rTI (cj @dl_idf (cj @k0 (cj @k2 (cj @k3 (cj @k4 (cj @k5 (cj @k6 (cj @k7 (cj @k8 (cj @g0 (cj @g1 (cj @g2 @g3))))))))))))))
          have p8 : ((i : Int) + (ys.length : Int)).toNat = i + ys.length := by omega
          have p9 := hJ.jz (i + ys.length) (Nat.le_refl _)
          have p4 : cr < 65536 := hJ.jc
          refine aw_drw (.take 0 (.take 1 (.take 2 (.take 3 (.take 4 (.take 5 (.take 6 (.take 7 (.take 8 (.take 9 (.take 10 (.take 11 (.take 12 (.take 14 (.one 13 (.take 15 (.take 16 (.one 17 (.done))))))))))))))))))) [s.nx, s.nx + 1] (by kernel_rfl) (by kernel_rfl) fun K hK => ?_; refine dr (cj rTI (cj @dl_idf (cj @k0 (cj @k2 (cj @k3 (cj @k4 (cj @k5 (cj @k6 (cj @k7 (cj @k8 (cj @g0 (cj @g1 (cj @g2 (cj @g3 (cj @hd_DL (cj @p8 (cj @l1 (cj @l4 @p9)))))))))))))))))) ?_; refine hK _ _ ?_; clear hK K
          (first | refine go (cj rTI (cj @dl_idf (cj @k0 (cj @k2 (cj @k3 (cj @k4 (cj @k5 (cj @k6 (cj @k7 (cj @k8 (cj @g0 (cj @g1 (cj @g2 (cj @g3 (cj @p8 (cj @l1 @l4)))))))))))))))) ?_ | exact go0 (cj rTI (cj @dl_idf (cj @k0 (cj @k2 (cj @k3 (cj @k4 (cj @k5 (cj @k6 (cj @k7 (cj @k8 (cj @g0 (cj @g1 (cj @g2 (cj @g3 (cj @p8 (cj @l1 @l4)))))))))))))))))
          obtain rfl : j = ys.length := by omega
          have b3 := hO.on
          have e0 : ((0 : Nat) : Int) + (cr : Int) = cr := by omega
          have hst := times_row xs ys ds i cr hJ.jv (by omega) p9
          simp only [block_normal, loop_normal]; refine ⟨xs.length - (i + 1), by omega, ?_⟩
          refine ⟨i + 1, ds.set (i + ys.length) cr, ?_⟩
          constructor
          · constructor <;> (try (first | refine rn (cj @k0 (cj @k2 (cj @k3 (cj @k4 (cj @k5 (cj @k6 (cj @k7 (cj @k8 (cj @g0 (cj @g1 (cj @g2 (cj @g3 (cj @g4 (cj @hJ.len (cj rls (cj @Nat.zero_add (cj @DL_set (cj @p9 @e0)))))))))))))))))) ?_ | exact rn0 (cj @k0 (cj @k2 (cj @k3 (cj @k4 (cj @k5 (cj @k6 (cj @k7 (cj @k8 (cj @g0 (cj @g1 (cj @g2 (cj @g3 (cj @g4 (cj @hJ.len (cj rls (cj @Nat.zero_add (cj @DL_set (cj @p9 @e0))))))))))))))))))))
            all_goals (first | done | omega | (refine congrArg some ?_; rfl) | rfl | (refine congrArg (fun z : Int => AV.v (.int .i64 z)) ?_; omega) | (intro i hi; (first | refine rn (hJ.fr i hi) ?_ | exact rn0 (hJ.fr i hi))) | skip)
            exact set_lt _ _ _ hJ.lt p4
          · omega
          · omega
          · intro k hk
            rw [getD_set _ _ _ _ (by omega), if_neg (by omega)]
            exact hJ.jz k (by omega)
          · exact hst
    · (first | refine go (cj rTI (cj @dl_idf (cj @k0 (cj @k2 (cj @k3 (cj @k4 (cj @k5 (cj @k6 (cj @g0 (cj @g1 (cj @g2 @g3))))))))))) ?_ | exact go0 (cj rTI (cj @dl_idf (cj @k0 (cj @k2 (cj @k3 (cj @k4 (cj @k5 (cj @k6 (cj @g0 (cj @g1 (cj @g2 @g3))))))))))))
      (try rw [then_normal]); (try refine aw_seq ?_); refine aw_cond rfl ?_ ?_ <;> intro hb <;> (try (cases hb; done)) <;> (try simp only [bq] at hb) <;> (try (exfalso; omega))
      (first | refine go (cj rTI (cj @dl_idf (cj @k0 (cj @k2 (cj @k3 (cj @k4 (cj @k5 (cj @k6 (cj @g0 (cj @g1 (cj @g2 @g3))))))))))) ?_ | exact go0 (cj rTI (cj @dl_idf (cj @k0 (cj @k2 (cj @k3 (cj @k4 (cj @k5 (cj @k6 (cj @g0 (cj @g1 (cj @g2 @g3))))))))))))
      refine aw_reg fun K hK => ?_; refine rn (cj rTI (cj @dl_idf (cj @k0 @k5))) ?_; refine acall_frz (s.nx + 3) (DL ds) g3 (fun _ => false) ?_; (first | refine rn @DL_take ?_ | exact rn0 @DL_take); rw [show AV.sl (xs.length + ys.length) (DL ds) = DN ds by rw [← l4]; rfl]; refine cont_pure (trim_ax ds (by omega)) ?_; refine rn (cj rTI (cj @dl_idf (cj @k0 @k5))) ?_; refine hK _ _ ?_; clear hK K
      have hv := hO.ov
      rw [List.take_of_length_le (by omega)] at hv
      have ht := digs_val B hB ds hO.lt
      rw [hv] at ht
      rw [← ht, DN_ln]
      have l0 := ln_zero (val B xs * val B ys)
      rw [NS_eq]
      by_cases hp : 0 < val B xs * val B ys
      · have h4 : 0 < ln (val B xs * val B ys) := by omega
        cases a <;> cases b <;> ((first | refine go (cj rTI (cj @dl_idf (cj @k0 (cj @k2 (cj @k3 (cj @k4 (cj @k5 (cj @k6 (cj @g0 (cj @g1 (cj @g2 @g3))))))))))) ?_ | exact go0 (cj rTI (cj @dl_idf (cj @k0 (cj @k2 (cj @k3 (cj @k4 (cj @k5 (cj @k6 (cj @g0 (cj @g1 (cj @g2 @g3)))))))))))); (repeat' refine And.intro ?_ ?_) <;> (first | done | exact rfl | (intro i hi; exact rn0 (hO.fr i hi); done) | (exact rn0 (hO.fr i hi); done) | skip))
      · have h4 : ln (val B xs * val B ys) = 0 := by omega
        cases a <;> cases b <;> ((first | refine go (cj rTI (cj @dl_idf (cj @k0 (cj @k2 (cj @k3 (cj @k4 (cj @k5 (cj @k6 (cj @g0 (cj @g1 (cj @g2 @g3))))))))))) ?_ | exact go0 (cj rTI (cj @dl_idf (cj @k0 (cj @k2 (cj @k3 (cj @k4 (cj @k5 (cj @k6 (cj @g0 (cj @g1 (cj @g2 @g3)))))))))))); (repeat' refine And.intro ?_ ?_) <;> (first | done | exact rfl | (intro i hi; exact rn0 (hO.fr i hi); done) | (exact rn0 (hO.fr i hi); done) | skip))
end Go.Proofs.YtfjelkjlfcafgaaGreatDoor.RefE
end
section
/- The document's whole numbers (layer 1): the quotient. -/
namespace Go.Proofs.YtfjelkjlfcafgaaGreatDoor.RefF
open Go Go.RowKit Go.Proofs.YtfjelkjlfcafgaaGreatDoor.Ax Go.Proofs.YtfjelkjlfcafgaaGreatDoor.Ti Go.Proofs.YtfjelkjlfcafgaaGreatDoor.BigM Go.Proofs.YtfjelkjlfcafgaaGreatDoor.RefA Go.Proofs.YtfjelkjlfcafgaaGreatDoor.RefB Go.Proofs.YtfjelkjlfcafgaaGreatDoor.RefC Go.Proofs.YtfjelkjlfcafgaaGreatDoor.RefD Go.Proofs.YtfjelkjlfcafgaaGreatDoor.RefE
set_option linter.unusedSimpArgs false
set_option linter.unusedVariables false
set_option maxRecDepth 4000
theorem rTI : type_of% (cj @ti105 (cj @ti63 (cj @ti3 @ti4))) := cj @ti105 (cj @ti63 (cj @ti3 @ti4))

theorem dl_ln (n : Nat) : (DL (digs B n)).length = ln n := DL_len _
theorem dl_one (l : List Nat) : (DL l).all AV.one = true := by
  rw [List.all_eq_true]
  intro z hz
  obtain ⟨x, _, rfl⟩ := List.mem_map.1 hz
  rfl
theorem mul_neg_iff' (x y : Int) : x * y < 0 ↔ (x < 0 ∧ 0 < y) ∨ (0 < x ∧ y < 0) := by
  rcases Int.lt_trichotomy x 0 with h | rfl | h <;> rcases Int.lt_trichotomy y 0 with g | rfl | g
  · have := Int.mul_pos_of_neg_of_neg h g; omega
  · simp
  · have := Int.mul_neg_of_neg_of_pos h g; omega
  · simp
  · simp
  · simp
  · have := Int.mul_neg_of_pos_of_neg h g; omega
  · simp
  · have := Int.mul_pos h g; omega
theorem timesN_ax (x y : Int) (h : lz x + lz y ≤ 1099511627776) : PCall Tryz.prog 58 [NI x, NI y] (NI (x * y)) := by
  have h1 := timesS_ax (decide (x < 0)) (decide (y < 0)) (digs B x.natAbs) (digs B y.natAbs) (digs_lt B hB _) (digs_lt B hB _) h
  rw [val_digs B hB, val_digs B hB] at h1
  have e : NS ((decide (x < 0) != decide (y < 0)) && decide (0 < x.natAbs * y.natAbs)) (x.natAbs * y.natAbs) = NI (x * y) := by
    unfold NI
    rw [Int.natAbs_mul]
    congr 1
    have h2 : 0 < x.natAbs * y.natAbs ↔ x ≠ 0 ∧ y ≠ 0 := by rw [Nat.pos_iff_ne_zero, Nat.mul_ne_zero_iff]; omega
    rw [Bool.eq_iff_iff]
    simp only [Bool.and_eq_true, decide_eq_true_eq, h2, bne_iff_ne, ne_eq, decide_eq_decide]
    rw [mul_neg_iff']
    omega
  rw [e] at h1
  exact h1
theorem timesP_ax (m n : Nat) (h : ln m + ln n ≤ 1099511627776) : PCall Tryz.prog 58 [NS false m, NS false n] (NS false (m * n)) := by
  have := timesN_ax m n h
  rwa [NI_nn _ (by omega), NI_nn _ (by omega), NI_nn _ (by rw [← Int.natCast_mul]; omega), ← Int.natCast_mul] at this

theorem digit_ax (r b : Nat) (hb0 : 0 < b) (hq : r < b * 65536) (lr : ln r ≤ 549755813888) (lb : ln b ≤ 549755813888) : PCall Tryz.prog 116 [DN (digs B r), DN (digs B b)] (.v (.int .i64 (r / b : Nat))) := by
  refine pcall_of fun s => ?_
  refine acall_of Tryz.func116 rfl rfl (by simp [Tryz.ntmps116]) ?_; rw [Tryz.ntmps116, Tryz.results116]
  have p0 := mags_ax r b (show ln r ≤ _ by omega) (show ln b ≤ _ by omega)
  have hq2 : r / b < 65536 := Nat.div_lt_of_lt_mul hq
  have p1 : ∀ m : Nat, m < 65536 → PCall Tryz.prog 55 [.v (.int .i64 (m : Int))] (NS false m) := fun m hm => by
    have := small_ax (m : Int) (by omega) (by omega)
    rwa [NI_nn _ (by omega)] at this
  have lm : ∀ m : Nat, m < 65536 → ln m ≤ 1 := fun m hm => (ln_lt m 1).1 (by unfold B; omega)
  have p2 : ∀ m : Nat, m < 65536 → PCall Tryz.prog 58 [NS false b, NS false m] (NS false (b * m)) := fun m hm => timesP_ax b m (by have := lm m hm; omega)
  have p3 : ∀ m : Nat, m < 65536 → PCall Tryz.prog 113 [DN (digs B (b * m)), DN (digs B r)] (.v (.int .i64 (cmpN (b * m) r))) := fun m hm => mags_ax _ _ (show ln _ ≤ _ by have := lm m hm; have := ln_mul b m; omega) (show ln r ≤ _ by omega)
  simp only [NS_eq, DN_ln] at p0 p1 p2 p3 ⊢
  (first | refine go (cj rTI (cj @dl_idf (cj @dl_ln @dl_one))) ?_ | exact go0 (cj rTI (cj @dl_idf (cj @dl_ln @dl_one))))
  refine aw_reg fun K hK => ?_; refine rn (cj rTI (cj @dl_idf (cj @dl_ln @dl_one))) ?_; refine cont_pure p0 ?_; refine rn (cj rTI (cj @dl_idf (cj @dl_ln @dl_one))) ?_; refine hK _ _ ?_; clear hK K
  by_cases h0 : r < b
  · rw [cmpN_lt h0]
    (try rw [then_normal]); (try refine aw_seq ?_); refine aw_cond rfl ?_ ?_ <;> intro hb <;> (try (cases hb; done)) <;> (try simp only [bq] at hb) <;> (try (exfalso; omega))
    (first | refine go (cj rTI (cj @dl_idf (cj @dl_ln @dl_one))) ?_ | exact go0 (cj rTI (cj @dl_idf (cj @dl_ln @dl_one))))
    (repeat' refine And.intro ?_ ?_) <;> (first | done | exact rfl | (intro i hi; exact rn0 trivial; done) | (exact rn0 trivial; done) | skip)
    rw [Nat.div_eq_of_lt h0]
    rfl
  · have c0 : 0 ≤ cmpN r b := by unfold cmpN; rw [if_neg h0]; split <;> decide
    (try rw [then_normal]); (try refine aw_seq ?_); refine aw_cond rfl ?_ ?_ <;> intro hb <;> (try (cases hb; done)) <;> (try simp only [bq] at hb) <;> (try (exfalso; omega))
    (first | refine go (cj rTI (cj @dl_idf (cj @dl_ln @dl_one))) ?_ | exact go0 (cj rTI (cj @dl_idf (cj @dl_ln @dl_one))))
    refine aw_loop (fun n e s' => ∃ (lo hi : Nat), n = hi - lo ∧ lo ≤ r / b ∧ r / b ≤ hi ∧ hi < 65536 ∧ e.n = 33 ∧ e.m 0 = DN (digs B r) ∧ e.m 1 = DN (digs B b) ∧ e.m 5 = .v (.int .i64 lo) ∧ e.m 6 = .v (.int .i64 hi) ∧ s' = s) 65535 ?_ ?_
    · refine ⟨0, 65535, by omega, Nat.zero_le _, by omega, by omega, ?_, ?_, ?_, ?_, ?_, rfl⟩ <;> (first | refine rn trivial ?_ | exact rn0 trivial) <;> rfl
    · rintro n e s' ⟨lo, hi, a1, a2, a3, a4, k0, k1, k2, k3, k4, rfl⟩
      rw [DN_ln] at k1 k2
      by_cases h1 : lo < hi
      · have h2 : ((lo : Int) + hi + 1) / 2 = ((lo + hi + 1) / 2 : Nat) := by omega
        have h3 : (lo + hi + 1) / 2 < 65536 := by omega
        have h8 : lo < (lo + hi + 1) / 2 := by omega
        have h9 : (lo + hi + 1) / 2 ≤ hi := by omega
        (first | refine go (cj rTI (cj @dl_idf (cj @dl_ln (cj @dl_one (cj @k0 (cj @k1 (cj @k2 (cj @k3 @k4)))))))) ?_ | exact go0 (cj rTI (cj @dl_idf (cj @dl_ln (cj @dl_one (cj @k0 (cj @k1 (cj @k2 (cj @k3 @k4)))))))))
        (try rw [then_normal]); (try refine aw_seq ?_); refine aw_cond rfl ?_ ?_ <;> intro hb <;> (try (cases hb; done)) <;> (try simp only [bq] at hb) <;> (try (exfalso; omega))
        (first | refine go (cj rTI (cj @dl_idf (cj @dl_ln (cj @dl_one (cj @k0 (cj @k1 (cj @k2 (cj @k3 (cj @k4 @h2))))))))) ?_ | exact go0 (cj rTI (cj @dl_idf (cj @dl_ln (cj @dl_one (cj @k0 (cj @k1 (cj @k2 (cj @k3 (cj @k4 @h2))))))))))
        refine aw_reg fun K hK => ?_; refine rn (cj rTI (cj @dl_idf (cj @dl_ln (cj @dl_one (cj @k0 (cj @k1 (cj @k2 (cj @k3 (cj @k4 @h2))))))))) ?_; refine cont_pure (p1 _ h3) ?_; (first | refine rn (cj rTI (cj @dl_idf (cj @dl_ln (cj @dl_one (cj @k0 (cj @k1 (cj @k2 (cj @k3 @k4)))))))) ?_ | exact rn0 (cj rTI (cj @dl_idf (cj @dl_ln (cj @dl_one (cj @k0 (cj @k1 (cj @k2 (cj @k3 @k4))))))))); refine cont_pure (p2 _ h3) ?_; (first | refine rn (cj rTI (cj @dl_idf (cj @dl_ln (cj @dl_one (cj @k0 (cj @k1 (cj @k2 (cj @k3 @k4)))))))) ?_ | exact rn0 (cj rTI (cj @dl_idf (cj @dl_ln (cj @dl_one (cj @k0 (cj @k1 (cj @k2 (cj @k3 @k4))))))))); refine cont_pure (p3 _ h3) ?_; refine rn (cj rTI (cj @dl_idf (cj @dl_ln (cj @dl_one (cj @k0 (cj @k1 (cj @k2 (cj @k3 (cj @k4 @h2))))))))) ?_; refine hK _ _ ?_; clear hK K
        have h6 : (lo + hi + 1) / 2 ≤ r / b ↔ b * ((lo + hi + 1) / 2) ≤ r := by rw [Nat.le_div_iff_mul_le hb0, Nat.mul_comm]
        generalize (lo + hi + 1) / 2 = mid at *
        by_cases h5 : b * mid ≤ r
        · have c1 : cmpN (b * mid) r ≤ 0 := by unfold cmpN; split <;> (try split) <;> omega
          (try rw [then_normal]); (try refine aw_seq ?_); refine aw_cond rfl ?_ ?_ <;> intro hb <;> (try (cases hb; done)) <;> (try simp only [bq] at hb) <;> (try (exfalso; omega))
          (first | refine go (cj rTI (cj @dl_idf (cj @dl_ln (cj @dl_one (cj @k0 (cj @k1 (cj @k2 (cj @k3 @k4)))))))) ?_ | exact go0 (cj rTI (cj @dl_idf (cj @dl_ln (cj @dl_one (cj @k0 (cj @k1 (cj @k2 (cj @k3 @k4)))))))))
          simp only [block_normal, loop_normal]; refine ⟨hi - mid, by omega, mid, hi, rfl, h6.2 h5, a3, a4, ?_⟩
          (first | refine rn (cj rTI (cj @dl_idf (cj @dl_ln (cj @dl_one (cj @k0 (cj @k1 (cj @k2 (cj @k3 (cj @k4 @DN_ln))))))))) ?_ | exact rn0 (cj rTI (cj @dl_idf (cj @dl_ln (cj @dl_one (cj @k0 (cj @k1 (cj @k2 (cj @k3 (cj @k4 @DN_ln))))))))))
        · have c1 : ¬ cmpN (b * mid) r ≤ 0 := by unfold cmpN; rw [if_neg (by omega), if_neg (by omega)]; decide
          have h7 : ¬ mid ≤ r / b := fun q => h5 (h6.1 q)
          (try rw [then_normal]); (try refine aw_seq ?_); refine aw_cond rfl ?_ ?_ <;> intro hb <;> (try (cases hb; done)) <;> (try simp only [bq] at hb) <;> (try (exfalso; omega))
          (first | refine go (cj rTI (cj @dl_idf (cj @dl_ln (cj @dl_one (cj @k0 (cj @k1 (cj @k2 (cj @k3 @k4)))))))) ?_ | exact go0 (cj rTI (cj @dl_idf (cj @dl_ln (cj @dl_one (cj @k0 (cj @k1 (cj @k2 (cj @k3 @k4)))))))))
          simp only [block_normal, loop_normal]; refine ⟨mid - 1 - lo, by omega, lo, mid - 1, rfl, a2, by omega, by omega, ?_⟩
          (first | refine rn (cj rTI (cj @dl_idf (cj @dl_ln (cj @dl_one (cj @k0 (cj @k1 (cj @k2 (cj @k3 (cj @k4 @DN_ln))))))))) ?_ | exact rn0 (cj rTI (cj @dl_idf (cj @dl_ln (cj @dl_one (cj @k0 (cj @k1 (cj @k2 (cj @k3 (cj @k4 @DN_ln))))))))))
          all_goals (first | done | omega | (refine congrArg some ?_; rfl) | rfl | (refine congrArg (fun z : Int => AV.v (.int .i64 z)) ?_; omega) | (intro i hi; (first | refine rn trivial ?_ | exact rn0 trivial)) | skip)
      · (first | refine go (cj rTI (cj @dl_idf (cj @dl_ln (cj @dl_one (cj @k0 (cj @k1 (cj @k2 (cj @k3 @k4)))))))) ?_ | exact go0 (cj rTI (cj @dl_idf (cj @dl_ln (cj @dl_one (cj @k0 (cj @k1 (cj @k2 (cj @k3 @k4)))))))))
        (try rw [then_normal]); (try refine aw_seq ?_); refine aw_cond rfl ?_ ?_ <;> intro hb <;> (try (cases hb; done)) <;> (try simp only [bq] at hb) <;> (try (exfalso; omega))
        (first | refine go (cj rTI (cj @dl_idf (cj @dl_ln (cj @dl_one (cj @k0 (cj @k1 (cj @k2 (cj @k3 @k4)))))))) ?_ | exact go0 (cj rTI (cj @dl_idf (cj @dl_ln (cj @dl_one (cj @k0 (cj @k1 (cj @k2 (cj @k3 @k4)))))))))
        (repeat' refine And.intro ?_ ?_) <;> (first | done | exact rfl | (intro i hi; exact rn0 trivial; done) | (exact rn0 trivial; done) | skip)
        rw [show r / b = lo by omega]

/-- What Divide gives. -/
def divideS (a b : Bool) (m n : Nat) : AV := .tp [NS ((a != b) && decide (0 < m / n)) (m / n), NS (a && decide (0 < m % n)) (m % n)]
/-- At the head of a round of Divide: the digits from k on are done. -/
structure DivI (a b : Bool) (xs : List Nat) (y : Nat) (s : St) (k : Nat) (ds : List Nat) (e : Env) (s' : St) : Prop where
  en : e.n = 75
  e2 : e.m 2 = .ptr s.nx 0
  e3 : e.m 3 = .ptr (s.nx + 1) 0
  e4 : e.m 4 = .ptr (s.nx + 2) 0
  e5 : e.m 5 = .ptr (s.nx + 3) 0
  e6 : e.m 6 = .own (s.nx + 4) 0 xs.length 1
  e7 : e.m 7 = .sl (ln (val B (xs.drop k) % y)) (DL (digs B (val B (xs.drop k) % y)))
  e8 : e.m 8 = .v (.int .i64 ((k : Int) - 1))
  g0 : s'.get s.nx = some [.v (.bool a), .sl xs.length (DL xs)]
  g1 : s'.get (s.nx + 1) = some [.v (.bool b), .sl (ln y) (DL (digs B y))]
  g2 : s'.get (s.nx + 2) = some [.v (.bool false), .v (.slice none 0 0)]
  g3 : s'.get (s.nx + 3) = some [.v (.bool false), .v (.slice none 0 0)]
  gi : s'.get (s.nx + 4) = some (DL ds)
  hi : s.nx + 5 ≤ s'.nx
  fr : ∀ i, i < s.nx → s'.get i = s.get i
  len : ds.length = xs.length
  lt : ∀ d ∈ ds, d < B
  kl : k ≤ xs.length
  vq : val B (ds.drop k) = val B (xs.drop k) / y
theorem divide_step (x y V : Nat) (hy : 0 < y) : (x + B * V) / y = (x + B * (V % y)) / y + B * (V / y) ∧ (x + B * V) % y = (x + B * (V % y)) % y := by
  have e : x + B * V = x + B * (V % y) + y * (B * (V / y)) := by
    conv => lhs; rw [← Nat.mod_add_div V y]
    rw [Nat.mul_add, ← Nat.mul_assoc, ← Nat.mul_assoc, Nat.mul_comm B y, Nat.add_assoc]
  rw [e, Nat.add_mul_div_left _ _ hy, Nat.add_mul_mod_self_left]
  exact ⟨rfl, rfl⟩
theorem divide_lt (x y r : Nat) (hx : x < B) (hr : r < y) : x + B * r < y * B := by
  have : B * (r + 1) ≤ B * y := Nat.mul_le_mul_left _ hr
  rw [Nat.mul_add] at this
  rw [Nat.mul_comm y]
  omega
set_option maxHeartbeats 2000000 in
theorem divideS_ax (a b : Bool) (xs : List Nat) (y : Nat) (dx : ∀ d ∈ xs, d < B) (hy : 0 < y) (lx : xs.length ≤ 1099511627776) (ly : ln y ≤ 274877906944) : PCall Tryz.prog 61 [.ag [.v (.bool a), .sl xs.length (DL xs)], .ag [.v (.bool b), .sl (ln y) (DL (digs B y))]] (divideS a b (val B xs) y) := by
  refine pcall_of fun s => ?_
  refine acall_of Tryz.func61 rfl rfl (by simp [Tryz.ntmps61]) ?_; rw [Tryz.ntmps61, Tryz.results61]
  (first | refine go (cj rTI (cj @dl_idf (cj @dl_ln @dl_one))) ?_ | exact go0 (cj rTI (cj @dl_idf (cj @dl_ln @dl_one))))
  refine aw_slot 7 (.v (.slice none 0 0)) (.sl 0 []) (by (first | refine rn trivial ?_ | exact rn0 trivial)) (Le.nil _ _ rfl) (by (first | refine rn trivial ?_ | exact rn0 trivial)) ?_
  refine aw_loop (fun n e s' => ∃ (ds : List Nat), DivI a b xs y s n ds e s') xs.length ?_ ?_
  · refine ⟨List.replicate xs.length 0, ?_⟩
    constructor <;> (try (first | refine rn @DL_zero ?_ | exact rn0 @DL_zero))
    all_goals (first | done | omega | (refine congrArg some ?_; rfl) | rfl | (refine congrArg (fun z : Int => AV.v (.int .i64 z)) ?_; omega) | (intro i hi; (first | refine rn @DL_zero ?_ | exact rn0 @DL_zero)) | skip)
    · rw [List.drop_length, val, Nat.zero_mod, digs_zero, ln, digs_zero]; rfl
    · simp
    · intro d hd
      rw [List.eq_of_mem_replicate hd]; decide
    · rw [List.drop_length, val, Nat.zero_div, List.drop_of_length_le (by simp)]; rfl
  · rintro k e s' ⟨ds, hI⟩
    have k0 := hI.en
    have k2 := hI.e2
    have k3 := hI.e3
    have k4 := hI.e4
    have k5 := hI.e5
    have k6 := hI.e6
    have k7 := hI.e7
    have k8 := hI.e8
    have g0 := hI.g0
    have g1 := hI.g1
    have g2 := hI.g2
    have g3 := hI.g3
    have gi := hI.gi
    have hi := hI.hi
    have l1 := DL_len ds
    have l2 := DL_len xs
    have l4 := hI.len
    have b1 := hI.kl
    by_cases hn : 0 < k
    · (first | refine go (cj rTI (cj @dl_idf (cj @dl_ln (cj @dl_one (cj @k0 (cj @k2 (cj @k3 (cj @k4 (cj @k5 (cj @k6 (cj @k7 (cj @k8 (cj @g0 (cj @g1 (cj @g2 (cj @g3 (cj @gi @hd_DL))))))))))))))))) ?_ | exact go0 (cj rTI (cj @dl_idf (cj @dl_ln (cj @dl_one (cj @k0 (cj @k2 (cj @k3 (cj @k4 (cj @k5 (cj @k6 (cj @k7 (cj @k8 (cj @g0 (cj @g1 (cj @g2 (cj @g3 (cj @gi @hd_DL))))))))))))))))))
      (try rw [then_normal]); (try refine aw_seq ?_); refine aw_cond rfl ?_ ?_ <;> intro hb <;> (try (cases hb; done)) <;> (try simp only [bq] at hb) <;> (try (exfalso; omega))
      (first | refine go (cj rTI (cj @dl_idf (cj @dl_ln (cj @dl_one (cj @k0 (cj @k2 (cj @k3 (cj @k4 (cj @k5 (cj @k6 (cj @k7 (cj @k8 (cj @g0 (cj @g1 (cj @g2 (cj @g3 (cj @gi @hd_DL))))))))))))))))) ?_ | exact go0 (cj rTI (cj @dl_idf (cj @dl_ln (cj @dl_one (cj @k0 (cj @k2 (cj @k3 (cj @k4 (cj @k5 (cj @k6 (cj @k7 (cj @k8 (cj @g0 (cj @g1 (cj @g2 (cj @g3 (cj @gi @hd_DL))))))))))))))))))
      have dp := drop_pred xs k hn hI.kl
      have hv : val B (xs.drop (k - 1)) = xs.getD (k - 1) 0 + B * val B (xs.drop k) := by rw [dp, val]
      have hst := divide_step (xs.getD (k - 1) 0) y (val B (xs.drop k)) hy
      rw [← hv] at hst
      have hx : xs.getD (k - 1) 0 < B := getD_lt B (by decide) xs dx _
      have hr : val B (xs.drop k) % y < y := Nat.mod_lt _ hy
      generalize hrr : val B (xs.drop k) % y = r at *
      have hlt := divide_lt _ _ _ hx hr
      have lr : ln r ≤ ln y := ln_mono (by omega)
      have ht := trim_ax (xs.getD (k - 1) 0 :: digs B r) (by rw [List.length_cons]; change ln r + 1 ≤ _; omega)
      rw [← digs_val B hB _ (by
        intro d hd
        rcases List.mem_cons.1 hd with h | h
        · rw [h]; exact hx
        · exact digs_lt B hB r d h), val, val_digs B hB] at ht
      have lB : ln B ≤ 2 := (ln_lt B 2).1 (by decide)
      have lr2 : ln (xs.getD (k - 1) 0 + B * r) ≤ ln y + 2 := Nat.le_trans (ln_mono (Nat.le_of_lt hlt)) (by
        have := ln_mul y B
        omega)
      generalize hrs : xs.getD (k - 1) 0 + B * r = r' at *
      have p1 := digit_ax r' y hy hlt (by omega) (by omega)
      have hq2 : r' / y < 65536 := Nat.div_lt_of_lt_mul hlt
      have hmod := Nat.mod_add_div r' y
      have hmul := Nat.mul_div_le r' y
      have hm : r' % y < y := Nat.mod_lt _ hy
      generalize hqq : r' / y = q at *
      generalize hmm : r' % y = m at *
      have lq : ln q ≤ 1 := (ln_lt _ 1).1 (by unfold B; omega)
      have p2 := small_ax (q : Int) (by omega) (by omega)
      rw [NI_nn _ (by omega), Int.natAbs_natCast] at p2
      have p3 := timesP_ax y q (by omega)
      have p4 := minusd_ax r' (y * q) (by omega) hmul
      rw [show r' - y * q = m by omega] at p4
      simp only [NS_eq, DN_ln] at p1 p2 p3 p4 ht
      have tke : ∀ x : Nat, (DL (x :: digs B r)).take (1 + ln r) = DL (x :: digs B r) := fun x => List.take_of_length_le (by rw [DL_len, List.length_cons]; change ln r + 1 ≤ _; omega)
      have ht2 : PCall Tryz.prog 115 [AV.sl (1 + ln r) (DL (xs.getD (k - 1) 0 :: digs B r))] (AV.sl (ln r') (DL (digs B r'))) := by
        rw [show AV.sl (1 + ln r) (DL (xs.getD (k - 1) 0 :: digs B r)) = DN (xs.getD (k - 1) 0 :: digs B r) by rw [Nat.add_comm]; rfl]
        exact ht
      refine aw_reg fun K hK => ?_; refine rn (cj rTI (cj @dl_idf (cj @dl_ln (cj @dl_one (cj @k0 @k7))))) ?_; refine acall_frz (s'.nx + 1) (DL (xs.getD (k - 1) 0 :: digs B r)) (by (first | refine rn trivial ?_ | exact rn0 trivial); rfl) (fun _ => false) ?_; (first | refine rn @tke ?_ | exact rn0 @tke); refine cont_pure ht2 ?_; refine rn (cj rTI (cj @dl_idf (cj @dl_ln (cj @dl_one (cj @k0 @k7))))) ?_; refine hK _ _ ?_; clear hK K
      (first | refine go (cj rTI (cj @dl_idf (cj @dl_ln @dl_one))) ?_ | exact go0 (cj rTI (cj @dl_idf (cj @dl_ln @dl_one))))
      refine aw_reg fun K hK => ?_; refine rn (cj rTI (cj @dl_idf (cj @dl_ln (cj @dl_one (cj @k0 (cj @k3 @g1)))))) ?_; refine cont_pure p1 ?_; refine rn (cj rTI (cj @dl_idf (cj @dl_ln (cj @dl_one (cj @k0 (cj @k3 @g1)))))) ?_; refine hK _ _ ?_; clear hK K
      (first | refine go (cj rTI (cj @dl_idf (cj @dl_ln @dl_one))) ?_ | exact go0 (cj rTI (cj @dl_idf (cj @dl_ln @dl_one))))
      by_cases hq0 : 0 < q
      · (try rw [then_normal]); (try refine aw_seq ?_); refine aw_cond rfl ?_ ?_ <;> intro hb <;> (try (cases hb; done)) <;> (try simp only [bq] at hb) <;> (try (exfalso; omega))
        refine aw_drw (.take 0 (.take 1 (.take 2 (.take 3 (.take 4 (.one 5 (.one 6 (.take 7 (.one 8 (.take 9 (.done))))))))))) [s.nx + 1] (by kernel_rfl) (by kernel_rfl) fun K hK => ?_; refine dr (cj rTI (cj @dl_idf (cj @dl_ln (cj @dl_one (cj @k0 (cj @k3 (cj @k7 @g1))))))) ?_; refine cont_pure p2 ?_; refine dr (cj rTI (cj @dl_idf (cj @dl_ln (cj @dl_one (cj @k0 (cj @k3 (cj @k7 @g1))))))) ?_; refine cont_pure p3 ?_; refine dr (cj rTI (cj @dl_idf (cj @dl_ln (cj @dl_one (cj @k0 (cj @k3 (cj @k7 @g1))))))) ?_; refine cont_pure p4 ?_; refine dr (cj rTI (cj @dl_idf (cj @dl_ln (cj @dl_one (cj @k0 (cj @k3 (cj @k7 @g1))))))) ?_; refine hK _ _ ?_; clear hK K
        (first | refine go (cj rTI (cj @dl_idf (cj @dl_ln (cj @dl_one (cj @k0 (cj @k2 (cj @k3 (cj @k4 (cj @k5 (cj @k6 (cj @k7 (cj @k8 (cj @g0 (cj @g1 (cj @g2 (cj @g3 @gi)))))))))))))))) ?_ | exact go0 (cj rTI (cj @dl_idf (cj @dl_ln (cj @dl_one (cj @k0 (cj @k2 (cj @k3 (cj @k4 (cj @k5 (cj @k6 (cj @k7 (cj @k8 (cj @g0 (cj @g1 (cj @g2 (cj @g3 @gi)))))))))))))))))
        simp only [block_normal, loop_normal]; refine ⟨k - 1, by omega, ds.set (k - 1) q, ?_⟩
        have hdr : (ds.set (k - 1) q).drop (k - 1) = q :: ds.drop k := by
          rw [drop_pred _ k hn (by rw [List.length_set]; omega), getD_set _ _ _ _ (by omega), if_pos rfl, List.drop_set_of_lt (by omega)]
        constructor <;> (try (first | refine rn (cj rTI (cj @dl_idf (cj @dl_ln (cj @dl_one (cj @k0 (cj @k2 (cj @k3 (cj @k4 (cj @k5 (cj @k6 (cj @k7 (cj @k8 (cj @g0 (cj @g1 (cj @g2 (cj @g3 (cj @gi (cj @hst.2 (cj @DL_set (cj rls @Nat.zero_add)))))))))))))))))))) ?_ | exact rn0 (cj rTI (cj @dl_idf (cj @dl_ln (cj @dl_one (cj @k0 (cj @k2 (cj @k3 (cj @k4 (cj @k5 (cj @k6 (cj @k7 (cj @k8 (cj @g0 (cj @g1 (cj @g2 (cj @g3 (cj @gi (cj @hst.2 (cj @DL_set (cj rls @Nat.zero_add))))))))))))))))))))))
        all_goals (first | done | omega | (refine congrArg some ?_; rfl) | rfl | (refine congrArg (fun z : Int => AV.v (.int .i64 z)) ?_; omega) | (intro i hi; (first | refine rn (hI.fr i hi) ?_ | exact rn0 (hI.fr i hi))) | skip)
        · exact set_lt _ _ _ hI.lt hq2
        · rw [hdr, val, hI.vq, hst.1]
      · (try rw [then_normal]); (try refine aw_seq ?_); refine aw_cond rfl ?_ ?_ <;> intro hb <;> (try (cases hb; done)) <;> (try simp only [bq] at hb) <;> (try (exfalso; omega))
        have hm2 : r' = m := by
          rw [show q = 0 by omega, Nat.mul_zero] at hmod
          omega
        (first | refine go (cj rTI (cj @dl_idf (cj @dl_ln (cj @dl_one (cj @k0 (cj @k2 (cj @k3 (cj @k4 (cj @k5 (cj @k6 (cj @k7 (cj @k8 (cj @g0 (cj @g1 (cj @g2 (cj @g3 @gi)))))))))))))))) ?_ | exact go0 (cj rTI (cj @dl_idf (cj @dl_ln (cj @dl_one (cj @k0 (cj @k2 (cj @k3 (cj @k4 (cj @k5 (cj @k6 (cj @k7 (cj @k8 (cj @g0 (cj @g1 (cj @g2 (cj @g3 @gi)))))))))))))))))
        simp only [block_normal, loop_normal]; refine ⟨k - 1, by omega, ds.set (k - 1) q, ?_⟩
        have hdr : (ds.set (k - 1) q).drop (k - 1) = q :: ds.drop k := by
          rw [drop_pred _ k hn (by rw [List.length_set]; omega), getD_set _ _ _ _ (by omega), if_pos rfl, List.drop_set_of_lt (by omega)]
        constructor <;> (try (first | refine rn (cj rTI (cj @dl_idf (cj @dl_ln (cj @dl_one (cj @k0 (cj @k2 (cj @k3 (cj @k4 (cj @k5 (cj @k6 (cj @k7 (cj @k8 (cj @g0 (cj @g1 (cj @g2 (cj @g3 (cj @gi (cj @hst.2 (cj @hm2 (cj @DL_set (cj rls @Nat.zero_add))))))))))))))))))))) ?_ | exact rn0 (cj rTI (cj @dl_idf (cj @dl_ln (cj @dl_one (cj @k0 (cj @k2 (cj @k3 (cj @k4 (cj @k5 (cj @k6 (cj @k7 (cj @k8 (cj @g0 (cj @g1 (cj @g2 (cj @g3 (cj @gi (cj @hst.2 (cj @hm2 (cj @DL_set (cj rls @Nat.zero_add)))))))))))))))))))))))
        all_goals (first | done | omega | (refine congrArg some ?_; rfl) | rfl | (refine congrArg (fun z : Int => AV.v (.int .i64 z)) ?_; omega) | (intro i hi; (first | refine rn (hI.fr i hi) ?_ | exact rn0 (hI.fr i hi))) | skip)
        · exact set_lt _ _ _ hI.lt hq2
        · rw [hdr, val, hI.vq, hst.1]
    · (first | refine go (cj rTI (cj @dl_idf (cj @dl_ln (cj @dl_one (cj @k0 (cj @k2 (cj @k3 (cj @k4 (cj @k5 (cj @k6 (cj @k7 (cj @k8 (cj @g0 (cj @g1 (cj @g2 (cj @g3 (cj @gi @hd_DL))))))))))))))))) ?_ | exact go0 (cj rTI (cj @dl_idf (cj @dl_ln (cj @dl_one (cj @k0 (cj @k2 (cj @k3 (cj @k4 (cj @k5 (cj @k6 (cj @k7 (cj @k8 (cj @g0 (cj @g1 (cj @g2 (cj @g3 (cj @gi @hd_DL))))))))))))))))))
      (try rw [then_normal]); (try refine aw_seq ?_); refine aw_cond rfl ?_ ?_ <;> intro hb <;> (try (cases hb; done)) <;> (try simp only [bq] at hb) <;> (try (exfalso; omega))
      (first | refine go (cj rTI (cj @dl_idf (cj @dl_ln (cj @dl_one (cj @k0 (cj @k2 (cj @k3 (cj @k4 (cj @k5 (cj @k6 (cj @k7 (cj @k8 (cj @g0 (cj @g1 (cj @g2 (cj @g3 (cj @gi @hd_DL))))))))))))))))) ?_ | exact go0 (cj rTI (cj @dl_idf (cj @dl_ln (cj @dl_one (cj @k0 (cj @k2 (cj @k3 (cj @k4 (cj @k5 (cj @k6 (cj @k7 (cj @k8 (cj @g0 (cj @g1 (cj @g2 (cj @g3 (cj @gi @hd_DL))))))))))))))))))
      refine aw_reg fun K hK => ?_; refine rn (cj rTI (cj @dl_idf (cj @dl_ln (cj @dl_one (cj @k0 @k6))))) ?_; refine acall_frz (s.nx + 4) (DL ds) gi (fun _ => false) ?_; (first | refine rn @DL_take ?_ | exact rn0 @DL_take); rw [show AV.sl xs.length (DL ds) = DN ds by rw [← l4]; rfl]; refine cont_pure (trim_ax ds (by omega)) ?_; refine rn (cj rTI (cj @dl_idf (cj @dl_ln (cj @dl_one (cj @k0 @k6))))) ?_; refine hK _ _ ?_; clear hK K
      obtain rfl : k = 0 := by omega
      have hv := hI.vq
      rw [List.drop_zero, List.drop_zero] at hv
      rw [List.drop_zero] at k7
      have ht := digs_val B hB ds hI.lt
      rw [hv] at ht
      rw [← ht, DN_ln]
      unfold divideS
      have l0 := ln_zero (val B xs / y)
      have l5 := ln_zero (val B xs % y)
      rw [NS_eq, NS_eq]
      generalize val B xs / y = q at *
      generalize val B xs % y = r at *
      by_cases hp : 0 < q <;> by_cases hp2 : 0 < r
      · have h4 : 0 < ln q := by omega
        have h5 : 0 < ln r := by omega
        cases a <;> cases b <;> ((first | refine go (cj rTI (cj @dl_idf (cj @dl_ln (cj @dl_one (cj @k0 (cj @k2 (cj @k3 (cj @k4 (cj @k5 (cj @k6 (cj @k7 (cj @g0 (cj @g1 (cj @g2 @g3)))))))))))))) ?_ | exact go0 (cj rTI (cj @dl_idf (cj @dl_ln (cj @dl_one (cj @k0 (cj @k2 (cj @k3 (cj @k4 (cj @k5 (cj @k6 (cj @k7 (cj @g0 (cj @g1 (cj @g2 @g3))))))))))))))); (repeat' refine And.intro ?_ ?_) <;> (first | done | exact rfl | (intro i hi; exact rn0 (hI.fr i hi); done) | (exact rn0 (hI.fr i hi); done) | skip))
      · have h4 : 0 < ln q := by omega
        have h5 : ln r = 0 := by omega
        cases a <;> cases b <;> ((first | refine go (cj rTI (cj @dl_idf (cj @dl_ln (cj @dl_one (cj @k0 (cj @k2 (cj @k3 (cj @k4 (cj @k5 (cj @k6 (cj @k7 (cj @g0 (cj @g1 (cj @g2 @g3)))))))))))))) ?_ | exact go0 (cj rTI (cj @dl_idf (cj @dl_ln (cj @dl_one (cj @k0 (cj @k2 (cj @k3 (cj @k4 (cj @k5 (cj @k6 (cj @k7 (cj @g0 (cj @g1 (cj @g2 @g3))))))))))))))); (repeat' refine And.intro ?_ ?_) <;> (first | done | exact rfl | (intro i hi; exact rn0 (hI.fr i hi); done) | (exact rn0 (hI.fr i hi); done) | skip))
      · have h4 : ln q = 0 := by omega
        have h5 : 0 < ln r := by omega
        cases a <;> cases b <;> ((first | refine go (cj rTI (cj @dl_idf (cj @dl_ln (cj @dl_one (cj @k0 (cj @k2 (cj @k3 (cj @k4 (cj @k5 (cj @k6 (cj @k7 (cj @g0 (cj @g1 (cj @g2 @g3)))))))))))))) ?_ | exact go0 (cj rTI (cj @dl_idf (cj @dl_ln (cj @dl_one (cj @k0 (cj @k2 (cj @k3 (cj @k4 (cj @k5 (cj @k6 (cj @k7 (cj @g0 (cj @g1 (cj @g2 @g3))))))))))))))); (repeat' refine And.intro ?_ ?_) <;> (first | done | exact rfl | (intro i hi; exact rn0 (hI.fr i hi); done) | (exact rn0 (hI.fr i hi); done) | skip))
      · have h4 : ln q = 0 := by omega
        have h5 : ln r = 0 := by omega
        cases a <;> cases b <;> ((first | refine go (cj rTI (cj @dl_idf (cj @dl_ln (cj @dl_one (cj @k0 (cj @k2 (cj @k3 (cj @k4 (cj @k5 (cj @k6 (cj @k7 (cj @g0 (cj @g1 (cj @g2 @g3)))))))))))))) ?_ | exact go0 (cj rTI (cj @dl_idf (cj @dl_ln (cj @dl_one (cj @k0 (cj @k2 (cj @k3 (cj @k4 (cj @k5 (cj @k6 (cj @k7 (cj @g0 (cj @g1 (cj @g2 @g3))))))))))))))); (repeat' refine And.intro ?_ ?_) <;> (first | done | exact rfl | (intro i hi; exact rn0 (hI.fr i hi); done) | (exact rn0 (hI.fr i hi); done) | skip))
end Go.Proofs.YtfjelkjlfcafgaaGreatDoor.RefF
end
section
/- The document's whole numbers (layer 1): the common divisor. -/
namespace Go.Proofs.YtfjelkjlfcafgaaGreatDoor.RefG
open Go Go.RowKit Go.Proofs.YtfjelkjlfcafgaaGreatDoor.Ax Go.Proofs.YtfjelkjlfcafgaaGreatDoor.Ti Go.Proofs.YtfjelkjlfcafgaaGreatDoor.BigM Go.Proofs.YtfjelkjlfcafgaaGreatDoor.RefA Go.Proofs.YtfjelkjlfcafgaaGreatDoor.RefB Go.Proofs.YtfjelkjlfcafgaaGreatDoor.RefC Go.Proofs.YtfjelkjlfcafgaaGreatDoor.RefD Go.Proofs.YtfjelkjlfcafgaaGreatDoor.RefE Go.Proofs.YtfjelkjlfcafgaaGreatDoor.RefF
set_option maxHeartbeats 2000000
set_option linter.unusedSimpArgs false
set_option linter.unusedVariables false
set_option maxRecDepth 4000
theorem rTI : type_of% (cj @ti105 (cj @ti63 (cj @ti3 @ti4))) := cj @ti105 (cj @ti63 (cj @ti3 @ti4))

/-- A number with a sign. -/
def sg (b : Bool) (n : Nat) : Int := if b then -(n : Int) else n
theorem sg_self (x : Int) : sg (decide (x < 0)) x.natAbs = x := by unfold sg; split <;> simp_all <;> omega
theorem NS_sg (b : Bool) (n : Nat) : NS (b && decide (0 < n)) n = NI (sg b n) := by
  unfold NI sg
  cases b
  · rw [show decide ((if false = true then -(n : Int) else (n : Int)) < 0) = false from decide_eq_false (by simp)]
    simp
  · simp only [Bool.true_and, if_true, Int.natAbs_neg, Int.natAbs_natCast]
    congr 1
    rw [decide_eq_decide]
    omega
theorem sg_tdiv (a b : Bool) (m n : Nat) : (sg a m).tdiv (sg b n) = sg (a != b) (m / n) := by
  cases a <;> cases b <;> simp [sg, Int.neg_tdiv, Int.tdiv_neg, Int.ofNat_tdiv]
theorem sg_tmod (a b : Bool) (m n : Nat) : (sg a m).tmod (sg b n) = sg a (m % n) := by
  cases a <;> cases b <;> simp only [sg, if_true, if_false, Bool.false_eq_true, Int.neg_tmod, Int.tmod_neg, Int.ofNat_tmod]
theorem divideN_ax (x y : Int) (hy : y ≠ 0) (lx : lz x ≤ 1099511627776) (ly : lz y ≤ 274877906944) : PCall Tryz.prog 61 [NI x, NI y] (.tp [NI (x.tdiv y), NI (x.tmod y)]) := by
  have h := divideS_ax (decide (x < 0)) (decide (y < 0)) (digs B x.natAbs) y.natAbs (digs_lt B hB _) (by omega) lx ly
  rw [val_digs B hB, divideS, NS_sg, NS_sg, ← sg_tdiv, ← sg_tmod _ (decide (y < 0)), sg_self, sg_self] at h
  exact h
theorem NI_nat (n : Nat) : NI (n : Int) = NS false n := NI_nn _ (Int.natCast_nonneg n)
theorem divideP_ax (m n : Nat) (hn : 0 < n) (lm : ln m ≤ 1099511627776) (l : ln n ≤ 274877906944) : PCall Tryz.prog 61 [NS false m, NS false n] (.tp [NS false (m / n), NS false (m % n)]) := by
  have := divideN_ax m n (by omega) lm l
  rw [← Int.ofNat_tdiv, ← Int.ofNat_tmod] at this
  rwa [NI_nat, NI_nat, NI_nat, NI_nat] at this

/-- At the head of a round of Common. -/
structure CommonI (G L : Nat) (s : St) (n m : Nat) (e : Env) (s' : St) : Prop where
  en : e.n = 24
  e2 : e.m 2 = .ptr s.nx 0
  e3 : e.m 3 = .ptr (s.nx + 1) 0
  e4 : e.m 4 = .ptr (s.nx + 2) 0
  g0 : s'.get s.nx = some [.v (.bool false), .sl (ln m) (DL (digs B m))]
  g1 : s'.get (s.nx + 1) = some [.v (.bool false), .sl (ln n) (DL (digs B n))]
  g2 : s'.get (s.nx + 2) = some [.v (.bool false), .v (.slice none 0 0)]
  hi : s.nx + 3 ≤ s'.nx
  fr : ∀ i, i < s.nx → s'.get i = s.get i
  lm : ln m ≤ L
  l : ln n ≤ L
  gc : Nat.gcd m n = G
theorem commonN_ax (x y : Int) (lx : lz x ≤ 274877906944) (ly : lz y ≤ 274877906944) : PCall Tryz.prog 166 [NI x, NI y] (NI (Nat.gcd x.natAbs y.natAbs)) := by
  refine pcall_of fun s => ?_
  refine acall_of Tryz.func166 rfl rfl (by simp [Tryz.ntmps166]) ?_; rw [Tryz.ntmps166, Tryz.results166]
  have p0 := abs_ax x
  have p1 := abs_ax y
  rw [NI_nn (x.natAbs : Int) (by omega), Int.natAbs_natCast] at p0
  rw [NI_nn (y.natAbs : Int) (by omega), Int.natAbs_natCast] at p1
  rw [NI_nn (Nat.gcd x.natAbs y.natAbs : Int) (by omega), Int.natAbs_natCast]
  unfold NI at p0 p1 ⊢
  simp only [NS_eq] at p0 p1 ⊢
  change ln x.natAbs ≤ _ at lx
  change ln y.natAbs ≤ _ at ly
  generalize decide (x < 0) = a at *
  generalize decide (y < 0) = b at *
  generalize x.natAbs = m0 at *
  generalize y.natAbs = n0 at *
  (first | refine go (cj rTI (cj @dl_idf (cj @dl_ln @dl_one))) ?_ | exact go0 (cj rTI (cj @dl_idf (cj @dl_ln @dl_one))))
  refine aw_drw (.two 0 (.two 1 (.one 2 (.one 3 (.one 4 (.one 5 (.done))))) 2 (.one 1 (.one 3 (.one 4 (.one 5 (.done)))))) 2 (.one 0 (.one 1 (.one 3 (.one 4 (.one 5 (.done))))))) [] (by kernel_rfl) (by kernel_rfl) fun K hK => ?_; refine dr (cj rTI (cj @dl_idf (cj @dl_ln @dl_one))) ?_; skip
  have hK2 : ∀ (e : Env) (s' : St), CommonI (Nat.gcd m0 n0) 274877906944 s n0 m0 e s' → K e s' := by
    intro e s' hI0
    refine hK e s' ?_
    clear hK
    (first | refine rn trivial ?_ | exact rn0 trivial)
    (first | refine go trivial ?_ | exact go0 trivial)
    refine aw_loop (fun n e s' => ∃ (m : Nat), CommonI (Nat.gcd m0 n0) 274877906944 s n m e s') n0 ⟨m0, hI0⟩ ?_
    clear hI0 e s'
    rintro n e s' ⟨m, hI⟩
    have k0 := hI.en
    have k2 := hI.e2
    have k3 := hI.e3
    have k4 := hI.e4
    have g0 := hI.g0
    have g1 := hI.g1
    have g2 := hI.g2
    have hi := hI.hi
    have l0 := ln_zero n
    by_cases hn : 0 < n
    · (first | refine go (cj rTI (cj @dl_idf (cj @dl_ln (cj @dl_one (cj @k0 (cj @k2 (cj @k3 (cj @k4 (cj @g0 (cj @g1 @g2)))))))))) ?_ | exact go0 (cj rTI (cj @dl_idf (cj @dl_ln (cj @dl_one (cj @k0 (cj @k2 (cj @k3 (cj @k4 (cj @g0 (cj @g1 @g2)))))))))))
      (try rw [then_normal]); (try refine aw_seq ?_); refine aw_cond rfl ?_ ?_ <;> intro hb <;> (try (cases hb; done)) <;> (try simp only [bq] at hb) <;> (try (exfalso; omega))
      (first | refine go (cj rTI (cj @dl_idf (cj @dl_ln (cj @dl_one (cj @k0 (cj @k2 (cj @k3 (cj @k4 (cj @g0 (cj @g1 @g2)))))))))) ?_ | exact go0 (cj rTI (cj @dl_idf (cj @dl_ln (cj @dl_one (cj @k0 (cj @k2 (cj @k3 (cj @k4 (cj @g0 (cj @g1 @g2)))))))))))
      have p2 := divideP_ax m n hn (by have := hI.lm; omega) hI.l
      simp only [NS_eq] at p2
      refine aw_reg fun K hK => ?_; refine rn (cj rTI (cj @dl_idf (cj @dl_ln (cj @dl_one (cj @k0 (cj @k2 (cj @k3 (cj @k4 (cj @g0 (cj @g1 @g2)))))))))) ?_; refine cont_pure p2 ?_; refine rn (cj rTI (cj @dl_idf (cj @dl_ln (cj @dl_one (cj @k0 (cj @k2 (cj @k3 (cj @k4 (cj @g0 (cj @g1 @g2)))))))))) ?_; refine hK _ _ ?_; clear hK K
      (first | refine go (cj rTI (cj @dl_idf (cj @dl_ln @dl_one))) ?_ | exact go0 (cj rTI (cj @dl_idf (cj @dl_ln @dl_one))))
      refine aw_drw (.take 1 (.one 0 (.one 2 (.one 3 (.done))))) [s'.nx + 1] (by kernel_rfl) (by kernel_rfl) fun K hK => ?_; refine dr (cj rTI (cj @dl_idf (cj @dl_ln (cj @dl_one (cj @k0 (cj @k2 (cj @k3 (cj @k4 (cj @g0 (cj @g1 @g2)))))))))) ?_; refine hK _ _ ?_; clear hK K
      (first | refine go (cj rTI (cj @dl_idf (cj @dl_ln @dl_one))) ?_ | exact go0 (cj rTI (cj @dl_idf (cj @dl_ln @dl_one))))
      simp only [block_normal, loop_normal]; refine ⟨m % n, Nat.mod_lt _ hn, n, ?_⟩
      constructor <;> (try (first | refine rn (cj rTI (cj @dl_idf (cj @dl_ln (cj @dl_one (cj @k0 (cj @k2 (cj @k3 (cj @k4 (cj @g0 (cj @g1 @g2)))))))))) ?_ | exact rn0 (cj rTI (cj @dl_idf (cj @dl_ln (cj @dl_one (cj @k0 (cj @k2 (cj @k3 (cj @k4 (cj @g0 (cj @g1 @g2))))))))))))
      all_goals (first | done | omega | (refine congrArg some ?_; rfl) | rfl | (refine congrArg (fun z : Int => AV.v (.int .i64 z)) ?_; omega) | (intro i hi; (first | refine rn (hI.fr i hi) ?_ | exact rn0 (hI.fr i hi))) | skip)
      · exact hI.l
      · exact Nat.le_trans (ln_mono (Nat.le_of_lt (Nat.mod_lt _ hn))) hI.l
      · rw [← hI.gc, Nat.gcd_comm n, ← Nat.gcd_rec, Nat.gcd_comm]
    · (first | refine go (cj rTI (cj @dl_idf (cj @dl_ln (cj @dl_one (cj @k0 (cj @k2 (cj @k3 (cj @k4 (cj @g0 (cj @g1 @g2)))))))))) ?_ | exact go0 (cj rTI (cj @dl_idf (cj @dl_ln (cj @dl_one (cj @k0 (cj @k2 (cj @k3 (cj @k4 (cj @g0 (cj @g1 @g2)))))))))))
      (try rw [then_normal]); (try refine aw_seq ?_); refine aw_cond rfl ?_ ?_ <;> intro hb <;> (try (cases hb; done)) <;> (try simp only [bq] at hb) <;> (try (exfalso; omega))
      have hg := hI.gc
      rw [show n = 0 by omega, Nat.gcd_zero_right] at hg
      rw [← hg]
      (first | refine go (cj rTI (cj @dl_idf (cj @dl_ln (cj @dl_one (cj @k0 (cj @k2 (cj @k3 (cj @k4 (cj @g0 (cj @g1 @g2)))))))))) ?_ | exact go0 (cj rTI (cj @dl_idf (cj @dl_ln (cj @dl_one (cj @k0 (cj @k2 (cj @k3 (cj @k4 (cj @g0 (cj @g1 @g2)))))))))))
      (repeat' refine And.intro ?_ ?_) <;> (first | done | exact rfl | (intro i hi; exact rn0 (hI.fr i hi); done) | (exact rn0 (hI.fr i hi); done) | skip)
  have fin : ∀ (e : Env) (s' : St), e.n = 24 → e.m 2 = .ptr s.nx 0 → e.m 3 = .ptr (s.nx + 1) 0 → e.m 4 = .ptr (s.nx + 2) 0 → s'.get s.nx = some [.v (.bool false), .sl (ln m0) (DL (digs B m0))] →
      s'.get (s.nx + 1) = some [.v (.bool false), .sl (ln n0) (DL (digs B n0))] → s'.get (s.nx + 2) = some [.v (.bool false), .v (.slice none 0 0)] → s.nx + 3 ≤ s'.nx → (∀ i, i < s.nx → s'.get i = s.get i) → K e s' :=
    fun e s' q0 q1 q2 q3 q4 q5 q6 q7 q8 => hK2 e s' ⟨q0, q1, q2, q3, q4, q5, q6, q7, q8, lx, ly, rfl⟩
  refine ⟨⟨?_, ?_⟩, ?_⟩ <;> (refine cont_pure p0 ?_; refine dr (cj rTI (cj @dl_idf (cj @dl_ln @dl_one))) ?_; refine cont_pure p1 ?_; refine dr (cj rTI (cj @dl_idf (cj @dl_ln @dl_one))) ?_; apply fin <;> (try (first | refine rn trivial ?_ | exact rn0 trivial)))
  all_goals (all_goals (first | done | omega | (refine congrArg some ?_; rfl) | rfl | (refine congrArg (fun z : Int => AV.v (.int .i64 z)) ?_; omega) | (intro i hi; (first | refine rn trivial ?_ | exact rn0 trivial)) | skip))
end Go.Proofs.YtfjelkjlfcafgaaGreatDoor.RefG
end
