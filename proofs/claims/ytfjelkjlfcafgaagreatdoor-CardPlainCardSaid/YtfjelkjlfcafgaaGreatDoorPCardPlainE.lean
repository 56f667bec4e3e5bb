/- A part of the proof. -/
import Derived.Test.YtfjelkjlfcafgaaGreatDoorPCardPlainD
section
/- Cards: Write. -/
namespace Go.Proofs.YtfjelkjlfcafgaaGreatDoor.CardK
open Go Go.RowKit Go.Proofs.YtfjelkjlfcafgaaGreatDoor.Ax Go.Proofs.YtfjelkjlfcafgaaGreatDoor.Ti Go.Proofs.YtfjelkjlfcafgaaGreatDoor.NumS Go.Proofs.YtfjelkjlfcafgaaGreatDoor.NumT Go.Proofs.YtfjelkjlfcafgaaGreatDoor.CardS Go.Proofs.YtfjelkjlfcafgaaGreatDoor.CardP Go.Proofs.YtfjelkjlfcafgaaGreatDoor.CardA Go.Proofs.YtfjelkjlfcafgaaGreatDoor.CardB Go.Proofs.YtfjelkjlfcafgaaGreatDoor.CardC Go.Proofs.YtfjelkjlfcafgaaGreatDoor.CardD Go.Proofs.YtfjelkjlfcafgaaGreatDoor.CardE Go.Proofs.YtfjelkjlfcafgaaGreatDoor.CardF Go.Proofs.YtfjelkjlfcafgaaGreatDoor.CardG Go.Proofs.YtfjelkjlfcafgaaGreatDoor.CardH Go.Proofs.YtfjelkjlfcafgaaGreatDoor.CardI Go.Proofs.YtfjelkjlfcafgaaGreatDoor.CardJ
open Go.Proofs.YtfjelkjlfcafgaaGreatDoor.NumA (NM)
set_option linter.unusedSimpArgs false
set_option linter.unusedVariables false
set_option maxRecDepth 4000
set_option maxHeartbeats 2000000
theorem rTI : type_of% (cj @ti3 (cj @ti4 (cj @ti9 (cj @ti5 (cj @ti2 (cj @ti36 (cj @ti63 (cj @ti62 (cj @ti24 (cj @ti65 (cj @ti67 (cj @ti25 (cj @Nat.zero_add (cj @tz0 (cj @tz1 (cj @tz3 (cj @Nat.mul_one @Int.toNat_natCast))))))))))))))))) := cj @ti3 (cj @ti4 (cj @ti9 (cj @ti5 (cj @ti2 (cj @ti36 (cj @ti63 (cj @ti62 (cj @ti24 (cj @ti65 (cj @ti67 (cj @ti25 (cj @Nat.zero_add (cj @tz0 (cj @tz1 (cj @tz3 (cj @Nat.mul_one @Int.toNat_natCast))))))))))))))))
def PA (p : List Str × Int) : AV := .tp [TV p.1, iv p.2]
theorem pa_idf (p : List Str × Int) : idf (PA p) = true := by
  show (idf (TV p.1) && (true && true)) = true
  rw [tv_idf]
  rfl
theorem pa_err (e : Int) : Le (.tp [.v (.slice none 0 0), .v (.int .i64 e)]) (PA ([], e)) := by
  refine Le.tp rfl fun j x y hx hy => ?_
  match j with
  | 0 => simp at hx hy; subst hx hy; exact Le.nil 0 0 rfl
  | 1 => simp at hx hy; subst hx hy; exact Le.refl _
  | j + 2 => simp at hx
/-- What is read is made of the words. -/
theorem read_by (ws : List Str) (h : BL ws) : By (readC ws).1.ref ∧ BL (readC ws).1.nodes ∧ (readC ws).1.nodes.length ≤ ws.length ∧ (readC ws).1.wave.vals.length ≤ ws.length + 1 ∧ (readC ws).1.wave.steps.length ≤ ws.length := by
  have h0 : By crd0.ref ∧ BL crd0.nodes ∧ crd0.nodes.length ≤ ws.length ∧ crd0.wave.vals.length ≤ ws.length + 1 ∧ crd0.wave.steps.length ≤ ws.length :=
    ⟨fun c hc => (by cases hc), fun c hc => (by cases hc), Nat.zero_le _, Nat.zero_le _, Nat.zero_le _⟩
  cases ws with
  | nil => exact h0
  | cons w0 r =>
    have hr : BL r := fun w hw => h w (List.mem_cons_of_mem _ hw)
    have hh : ∀ l : List Str, BL l → By (l.headD []) := fun l hl => by
      cases l with
      | nil => exact fun c hc => by cases hc
      | cons a l => exact hl a (List.mem_cons_self ..)
    rw [read_eq]
    generalize w0.getD 0 0 = k
    generalize formOf k (r.length + 1) = f
    unfold readB
    split
    · split
      · split
        · exact h0
        · split
          · exact h0
          · split
            · exact h0
            · split
              · exact h0
              · obtain ⟨fa, fb, fc⟩ := f
                refine ⟨?_, fun w hw => hr w (List.mem_of_mem_take hw), ?_, ?_⟩
                · show By (refC (fa, fb, fc) r)
                  unfold refC
                  simp only
                  split
                  · exact hh _ fun w hw => hr w (List.mem_of_mem_drop hw)
                  · exact fun c hc => by cases hc
                · show (r.take fa).length ≤ _
                  rw [List.length_take, List.length_cons]
                  omega
                · show (wvC k (fa, fb, fc) r).vals.length ≤ _ ∧ (wvC k (fa, fb, fc) r).steps.length ≤ _
                  unfold wvC
                  split
                  · have h1 := wave_len (restC (fa, fb, fc) r) (errV (fa, fb, fc) r)
                    have h2 : (restC (fa, fb, fc) r).length ≤ r.length := by
                      unfold restC
                      simp only
                      split <;> simp only [List.length_drop] <;> omega
                    rw [List.length_cons]
                    omega
                  · exact ⟨Nat.zero_le _, Nat.zero_le _⟩
      · exact h0
    · exact h0
def refW (c : Crd) (k : Nat) (f : Nat × Bool × Bool) : List Str := if f.2.1 = true ∨ k = 120 then [c.ref] else []
def valW (c : Crd) (k : Nat) (f : Nat × Bool × Bool) : List Str := if f.2.2 = true ∧ k ≠ 120 then [textN c.value] else []
def wavW (c : Crd) (k : Nat) : List Str := if k = 118 ∨ k = 105 then waveT c.wave else []
theorem wordsC_eq (c : Crd) : wordsC c = c.name :: c.nodes ++ refW c (c.name.getD 0 0) (shapeK (c.name.getD 0 0)) ++ valW c (c.name.getD 0 0) (shapeK (c.name.getD 0 0)) ++ wavW c (c.name.getD 0 0) := rfl
structure CW (c : Crd) : Prop where
  n : By c.name ∧ c.name.length ≤ 281474976710656
  d : BL c.nodes ∧ (∀ w ∈ c.nodes, w.length ≤ 281474976710656) ∧ c.nodes.length ≤ 9223372036854775807
  r : By c.ref ∧ c.ref.length ≤ 281474976710656
  v : c.wave.vals.length ≤ 9223372036854775807
  t : c.wave.steps.length ≤ 9223372036854775807
  z : ∀ z ∈ c.wave.steps, -9223372036854775808 ≤ z ∧ z ≤ 9223372036854775807
theorem textN_by (n : Num) : By (textN n) ∧ (textN n).length ≤ 20 := by
  unfold textN
  split
  · rename_i h
    exact ⟨NumH.textS_by _ _, Nat.le_trans (text_len _ _ ((NumH.ok_valid _ _).1 h)) (by decide)⟩
  · exact ⟨by_lit _ rfl, by decide⟩
theorem decS_le (z : Int) (h0 : -9223372036854775808 ≤ z) (h1 : z ≤ 9223372036854775807) : (decS z).length ≤ 20 := by
  unfold decS
  split
  · decide
  · have := decN_len z.natAbs 19 (by omega)
    rw [List.length_append]
    split
    · rw [List.length_cons, List.length_nil]; omega
    · rw [List.length_nil]; omega
theorem zip_mem : ∀ (S : List Int) (V : List Num) (x : Str), x ∈ zipW S V → (∃ z ∈ S, x = decS z) ∨ ∃ v ∈ V, x = textN v
  | [], _, x, h => by simp [zipW] at h
  | _ :: _, [], x, h => by simp [zipW] at h
  | a :: S, b :: V, x, h => by
    have h' : x ∈ decS a :: textN b :: zipW S V := h
    rcases List.mem_cons.1 h' with rfl | h'
    · exact .inl ⟨a, List.mem_cons_self .., rfl⟩
    · rcases List.mem_cons.1 h' with rfl | h'
      · exact .inr ⟨b, List.mem_cons_self .., rfl⟩
      · rcases zip_mem S V x h' with ⟨z, hz, e⟩ | ⟨v, hv, e⟩
        · exact .inl ⟨z, List.mem_cons_of_mem _ hz, e⟩
        · exact .inr ⟨v, List.mem_cons_of_mem _ hv, e⟩
theorem zip_le : ∀ (S : List Int) (V : List Num), (zipW S V).length ≤ 2 * V.length
  | [], _ => Nat.zero_le _
  | _ :: _, [] => Nat.zero_le _
  | a :: S, b :: V => by
    show (zipW S V).length + 1 + 1 ≤ _
    have := zip_le S V
    rw [List.length_cons]
    omega
theorem waveT_by (w : Wv) (hz : ∀ z ∈ w.steps, -9223372036854775808 ≤ z ∧ z ≤ 9223372036854775807) : (waveT w).length ≤ 1 + 2 * (w.vals.length + w.steps.length) ∧ ∀ x ∈ waveT w, By x ∧ x.length ≤ 20 := by
  have hd : ∀ z ∈ w.steps, By (decS z) ∧ (decS z).length ≤ 20 := fun z h => ⟨decS_by z, decS_le z (hz z h).1 (hz z h).2⟩
  unfold waveT
  split
  · refine ⟨?_, fun x hx => ?_⟩
    · have := zip_le w.steps w.vals
      rw [List.length_cons]
      omega
    · rcases List.mem_cons.1 hx with rfl | hx
      · exact ⟨by_lit _ rfl, by decide⟩
      · rcases zip_mem _ _ _ hx with ⟨z, h, rfl⟩ | ⟨v, _, rfl⟩
        · exact hd z h
        · exact textN_by v
  · refine ⟨?_, fun x hx => ?_⟩
    · have : (if w.kind = 1 then [sDc] else if w.kind = 2 then [sPulse] else if w.kind = 4 then [sTable] else []).length ≤ 1 := by (repeat' split) <;> decide
      rw [List.length_append, List.length_append, List.length_map, List.length_map]
      omega
    · rcases List.mem_append.1 hx with hx | hx
      · rcases List.mem_append.1 hx with hx | hx
        · have : x = sDc ∨ x = sPulse ∨ x = sTable := by
            split at hx
            · exact .inl (List.mem_singleton.1 hx)
            · split at hx
              · exact .inr (.inl (List.mem_singleton.1 hx))
              · split at hx
                · exact .inr (.inr (List.mem_singleton.1 hx))
                · cases hx
          rcases this with rfl | rfl | rfl
          · exact ⟨by_lit _ rfl, by decide⟩
          · exact ⟨by_lit _ rfl, by decide⟩
          · exact ⟨by_lit _ rfl, by decide⟩
        · obtain ⟨v, _, rfl⟩ := List.mem_map.1 hx
          exact textN_by v
      · obtain ⟨z, h, rfl⟩ := List.mem_map.1 hx
        exact hd z h
theorem words_by (c : Crd) (hc : CW c) : ∀ x ∈ wordsC c, By x ∧ x.length ≤ 281474976710656 := by
  intro x hx
  rw [wordsC_eq] at hx
  rcases List.mem_append.1 hx with hx | hx
  · rcases List.mem_append.1 hx with hx | hx
    · rcases List.mem_append.1 hx with hx | hx
      · rcases List.mem_cons.1 hx with rfl | hx
        · exact hc.n
        · exact ⟨hc.d.1 x hx, hc.d.2.1 x hx⟩
      · unfold refW at hx
        split at hx
        · rw [List.mem_singleton.1 hx]; exact hc.r
        · cases hx
    · unfold valW at hx
      split at hx
      · rw [List.mem_singleton.1 hx]; exact ⟨(textN_by _).1, Nat.le_trans (textN_by _).2 (by decide)⟩
      · cases hx
  · unfold wavW at hx
    split at hx
    · have := (waveT_by c.wave hc.z).2 x hx
      exact ⟨this.1, Nat.le_trans this.2 (by decide)⟩
    · cases hx
theorem write_ax (c : Crd) (hc : CW c) : PCall Tryz.prog 31 [CA c] (PA (writeC c)) := by
  refine pcall_le fun s => ?_
  have hd := dev_ax c.name hc.n.1 (by have := hc.n.2; omega)
  have hno : ∀ q : ¬ (isDev c.name = true ∧ c.nodes.length ≤ 8 ∧ c.wave.vals.length ≤ 16 ∧ c.wave.steps.length ≤ 16), writeC c = ([], 70) := fun q => if_neg q
  obtain ⟨h1, h2, h3, h4, h5, h6⟩ := hc
  unfold CA TV NV IV iv
  unfold SV at hd ⊢
  by_cases q1 : isDev c.name = true
  · rw [q1] at hd
    by_cases q2 : c.nodes.length ≤ 8
    · by_cases q3 : c.wave.vals.length ≤ 16
      · by_cases q4 : c.wave.steps.length ≤ 16
        · refine acall_of Tryz.func31 rfl rfl (by simp [Tryz.ntmps31]) ?_; rw [Tryz.ntmps31, Tryz.results31]
          (first | refine go rTI ?_ | exact go0 rTI)
          refine aw_reg fun K hK => ?_; refine rn rTI ?_; refine cont_pure hd ?_; refine rn rTI ?_; refine hK _ _ ?_; clear hK K
          (try rw [then_normal]); (try refine aw_seq ?_); refine aw_cond rfl ?_ ?_ <;> intro hb <;> (try (cases hb; done)) <;> (try simp only [bq] at hb) <;> (try (exfalso; omega))
          have e1 := sl_len c.nodes
          have e2 := sl_take c.nodes
          have e3 := sl_one c.nodes
          (first | refine go (cj rTI (cj @e1 (cj @e2 @e3))) ?_ | exact go0 (cj rTI (cj @e1 (cj @e2 @e3))))
          have hL : LI s ((((s.push [.v (.string (bs c.name)), .sl c.nodes.length (SL c.nodes), .v (.string (bs c.ref)), .v (.int .i64 c.value.1), .v (.int .i64 c.value.2), .v (.int .i64 c.wave.kind), .sl c.wave.vals.length (NC c.wave.vals), .sl c.wave.steps.length (IL c.wave.steps)]).push [.v (.string (bs c.name))]).kill (s.nx + 1)).push ([.v (.string (bs c.name))] ++ SL c.nodes)) [.v (.string (bs c.name)), .sl c.nodes.length (SL c.nodes), .v (.string (bs c.ref)), .v (.int .i64 c.value.1), .v (.int .i64 c.value.2), .v (.int .i64 c.wave.kind), .sl c.wave.vals.length (NC c.wave.vals), .sl c.wave.steps.length (IL c.wave.steps)] (s.nx + 1 + 1) (c.name :: c.nodes) := by
            refine ⟨?_, St.push_same _ _, ⟨by omega, Nat.lt_succ_self _⟩, fun k hk => ?_⟩
            · rw [St.push_ne (((s.push _).push _).kill _) _ _ (show s.nx ≠ s.nx + 1 + 1 by omega), St.kill_ne _ _ _ (by omega), St.push_ne (s.push _) _ _ (show s.nx ≠ s.nx + 1 by omega)]
              exact St.push_same _ _
            · rw [St.push_ne (((s.push _).push _).kill _) _ _ (show k ≠ s.nx + 1 + 1 by omega), St.kill_ne _ _ _ (by omega), St.push_ne (s.push _) _ _ (show k ≠ s.nx + 1 by omega), St.push_ne s _ _ (by omega)]
          generalize (((s.push [.v (.string (bs c.name)), .sl c.nodes.length (SL c.nodes), .v (.string (bs c.ref)), .v (.int .i64 c.value.1), .v (.int .i64 c.value.2), .v (.int .i64 c.wave.kind), .sl c.wave.vals.length (NC c.wave.vals), .sl c.wave.steps.length (IL c.wave.steps)]).push [.v (.string (bs c.name))]).kill (s.nx + 1)).push ([.v (.string (bs c.name))] ++ SL c.nodes) = s1 at *
          have hp : 0 < c.name.length := name_pos c.name (by unfold isDev at q1; rw [Bool.and_eq_true] at q1; exact q1.1)
          have lS := bs_size c.name
          have hg := bs_get c.name h1.1 0
          have gb := hL.b
          have hln : (c.name :: c.nodes).length = 1 + c.nodes.length := by rw [List.length_cons]; omega
          have hww := wordsC_eq c
          have hsh := shape_ax (c.name.getD 0 0)
          unfold shapeV at hsh
          (first | refine go (cj rTI (cj @gb (cj @lS @hg))) ?_ | exact go0 (cj rTI (cj @gb (cj @lS @hg))))
          rw [← hln]
          have hl0 : (c.name :: c.nodes).length ≤ 9 := by omega
          generalize hL0 : c.name :: c.nodes = L0 at *
          generalize shapeK (c.name.getD 0 0) = f at *
          generalize hk0 : c.name.getD 0 0 = k at *
          obtain ⟨fa, fb, fc⟩ := f
          refine aw_reg fun K hK => ?_; refine rn rTI ?_; refine cont_pure hsh ?_; refine rn rTI ?_; refine hK _ _ ?_; clear hK K
          refine aw_seq ?_
          refine aw_only (fun e' s' => e'.n = 120 ∧ e'.m 1 = .ptr s.nx 0 ∧ e'.m 5 = .v (.int .u8 (k : Nat)) ∧ e'.m 8 = .v (.bool fc) ∧ ∃ id, e'.m 4 = .own id 0 (L0 ++ refW c k (fa, fb, fc)).length 1 ∧ LI s s' [.v (.string (bs c.name)), .sl c.nodes.length (SL c.nodes), .v (.string (bs c.ref)), .v (.int .i64 c.value.1), .v (.int .i64 c.value.2), .v (.int .i64 c.wave.kind), .sl c.wave.vals.length (NC c.wave.vals), .sl c.wave.steps.length (IL c.wave.steps)] id (L0 ++ refW c k (fa, fb, fc))) ?_ ?_
          · have gl := hL.l
            obtain ⟨o1, o2⟩ := hL.o
            have ll := sl_len L0
            have hA := hL.app (s1.push [SV c.ref]) (Nat.le_succ _) (fun k hk => St.push_ne s1 _ _ (by omega)) [c.ref]
            have hA2 : L0.length + 1 = (L0 ++ [c.ref]).length := by rw [List.length_append]; rfl
            unfold SV at hA
            cases fb with
            | true =>
              rw [show refW c k (fa, true, fc) = [c.ref] from if_pos (.inl rfl)]
              (first | refine go rTI ?_ | exact go0 rTI)
              (try rw [then_normal]); (try refine aw_seq ?_); refine aw_cond rfl ?_ ?_ <;> intro hb <;> (try (cases hb; done)) <;> (try simp only [bq] at hb) <;> (try (exfalso; omega))
              (first | refine go (cj rTI (cj @gb (cj @gl @ll))) ?_ | exact go0 (cj rTI (cj @gb (cj @gl @ll))))
              refine ⟨rfl, ?_, ?_, ?_, ?_, s1.nx + 1, ?_, hA⟩
              all_goals ((first | refine rn rTI ?_ | exact rn0 rTI))
              all_goals (first | trivial | rfl | rw [hA2] | rw [hk2])
            | false =>
              by_cases hk : k = 120
              · have hk2 : (k : Int) = 120 := by omega
                rw [show refW c k (fa, false, fc) = [c.ref] from if_pos (.inr hk)]
                (first | refine go (cj rTI @hk2) ?_ | exact go0 (cj rTI @hk2))
                (try rw [then_normal]); (try refine aw_seq ?_); refine aw_cond rfl ?_ ?_ <;> intro hb <;> (try (cases hb; done)) <;> (try simp only [bq] at hb) <;> (try (exfalso; omega))
                (first | refine go (cj rTI (cj @gb (cj @gl @ll))) ?_ | exact go0 (cj rTI (cj @gb (cj @gl @ll))))
                refine ⟨rfl, ?_, ?_, ?_, ?_, s1.nx + 1, ?_, hA⟩
                all_goals ((first | refine rn rTI ?_ | exact rn0 rTI))
                all_goals (first | trivial | rfl | rw [hA2] | rw [hk2])
              · have hk2 : ¬ (k : Int) = 120 := by omega
                rw [show refW c k (fa, false, fc) = [] from if_neg (fun h => by rcases h with h | h; · cases h
                                                                                · exact hk h), List.append_nil]
                (first | refine go (cj rTI @hk2) ?_ | exact go0 (cj rTI @hk2))
                (try rw [then_normal]); (try refine aw_seq ?_); refine aw_cond rfl ?_ ?_ <;> intro hb <;> (try (cases hb; done)) <;> (try simp only [bq] at hb) <;> (try (exfalso; omega))
                (first | refine go rTI ?_ | exact go0 rTI)
                exact ⟨s.nx + 1 + 1, rfl, hL⟩
          · clear hL gb e1 e2 e3 lS hg hsh
            have hl1 : (L0 ++ refW c k (fa, fb, fc)).length ≤ 10 := by
              rw [List.length_append]
              have : (refW c k (fa, fb, fc)).length ≤ 1 := by unfold refW; split <;> simp
              omega
            generalize L0 ++ refW c k (fa, fb, fc) = L1 at *
            rintro e2 s2 ⟨n1, p1, p5, p8, id, p4, hL⟩
            rw [then_normal]
            refine aw_seq ?_
            refine aw_only (fun e' s' => e'.n = 120 ∧ e'.m 1 = .ptr s.nx 0 ∧ e'.m 5 = .v (.int .u8 (k : Nat)) ∧ ∃ id, e'.m 4 = .own id 0 (L1 ++ valW c k (fa, fb, fc)).length 1 ∧ LI s s' [.v (.string (bs c.name)), .sl c.nodes.length (SL c.nodes), .v (.string (bs c.ref)), .v (.int .i64 c.value.1), .v (.int .i64 c.value.2), .v (.int .i64 c.wave.kind), .sl c.wave.vals.length (NC c.wave.vals), .sl c.wave.steps.length (IL c.wave.steps)] id (L1 ++ valW c k (fa, fb, fc))) ?_ ?_
            · have gb := hL.b
              have gl := hL.l
              obtain ⟨o1, o2⟩ := hL.o
              have ll := sl_len L1
              have hA := hL.app (s2.push [SV (textN c.value)]) (Nat.le_succ _) (fun k hk => St.push_ne s2 _ _ (by omega)) [textN c.value]
              have hA2 : L1.length + 1 = (L1 ++ [textN c.value]).length := by rw [List.length_append]; rfl
              have hp := ctext_ax c.value
              unfold NM SV at hp
              unfold SV at hA
              by_cases hk : fc = true ∧ k ≠ 120
              · obtain ⟨rfl, hk⟩ := hk
                have hk2 : ¬ (k : Int) = 120 := by omega
                rw [show valW c k (fa, fb, true) = [textN c.value] from if_pos ⟨rfl, hk⟩]
                (first | refine go (cj rTI (cj @n1 (cj @p5 (cj @p8 @hk2)))) ?_ | exact go0 (cj rTI (cj @n1 (cj @p5 (cj @p8 @hk2)))))
                (try rw [then_normal]); (try refine aw_seq ?_); refine aw_cond rfl ?_ ?_ <;> intro hb <;> (try (cases hb; done)) <;> (try simp only [bq] at hb) <;> (try (exfalso; omega))
                refine aw_reg fun K hK => ?_; refine rn (cj rTI (cj @p1 (cj @p4 (cj @gb (cj @gl @ll))))) ?_; refine cont_pure hp ?_; refine rn (cj rTI (cj @p1 (cj @p4 (cj @gb (cj @gl @ll))))) ?_; refine hK _ _ ?_; clear hK K
                (first | refine go (cj rTI (cj @n1 (cj @p1 @p5))) ?_ | exact go0 (cj rTI (cj @n1 (cj @p1 @p5))))
                refine ⟨rfl, ?_, ?_, ?_, s2.nx + 1, ?_, hA⟩
                all_goals ((first | refine rn (cj @n1 (cj @p1 (cj @p4 @p5))) ?_ | exact rn0 (cj @n1 (cj @p1 (cj @p4 @p5)))))
                all_goals (first | trivial | rfl | rw [hA2] | rw [hk2])
              · rw [show valW c k (fa, fb, fc) = [] from if_neg hk, List.append_nil]
                cases fc with
                | false =>
                  (first | refine go (cj rTI (cj @n1 (cj @p5 @p8))) ?_ | exact go0 (cj rTI (cj @n1 (cj @p5 @p8))))
                  (try rw [then_normal]); (try refine aw_seq ?_); refine aw_cond rfl ?_ ?_ <;> intro hb <;> (try (cases hb; done)) <;> (try simp only [bq] at hb) <;> (try (exfalso; omega))
                  (first | refine go (cj rTI (cj @n1 (cj @p1 (cj @p5 @p4)))) ?_ | exact go0 (cj rTI (cj @n1 (cj @p1 (cj @p5 @p4)))))
                  exact ⟨id, rfl, hL⟩
                | true =>
                  have hk2 : (k : Int) = 120 := by
                    have : ¬ k ≠ 120 := fun h => hk ⟨rfl, h⟩
                    omega
                  (first | refine go (cj rTI (cj @n1 (cj @p5 (cj @p8 @hk2)))) ?_ | exact go0 (cj rTI (cj @n1 (cj @p5 (cj @p8 @hk2)))))
                  (try rw [then_normal]); (try refine aw_seq ?_); refine aw_cond rfl ?_ ?_ <;> intro hb <;> (try (cases hb; done)) <;> (try simp only [bq] at hb) <;> (try (exfalso; omega))
                  (first | refine go (cj rTI (cj @n1 (cj @p1 (cj @p5 @p4)))) ?_ | exact go0 (cj rTI (cj @n1 (cj @p1 (cj @p5 @p4)))))
                  exact ⟨id, rfl, hL⟩
            · clear hL n1 p1 p4 p5 p8
              have hl2 : (L1 ++ valW c k (fa, fb, fc)).length ≤ 11 := by
                rw [List.length_append]
                have : (valW c k (fa, fb, fc)).length ≤ 1 := by unfold valW; split <;> simp
                omega
              generalize L1 ++ valW c k (fa, fb, fc) = L2 at *
              rintro e3 s3 ⟨n1, p1, p5, id2, p4, hL⟩
              rw [then_normal]
              refine aw_seq ?_
              refine aw_only (fun e' s' => e'.n = 120 ∧ e'.m 1 = .ptr s.nx 0 ∧ ∃ id, e'.m 4 = .own id 0 (L2 ++ wavW c k).length 1 ∧ LI s s' [.v (.string (bs c.name)), .sl c.nodes.length (SL c.nodes), .v (.string (bs c.ref)), .v (.int .i64 c.value.1), .v (.int .i64 c.value.2), .v (.int .i64 c.wave.kind), .sl c.wave.vals.length (NC c.wave.vals), .sl c.wave.steps.length (IL c.wave.steps)] id (L2 ++ wavW c k)) ?_ ?_
              · have gb := hL.b
                have gl := hL.l
                obtain ⟨o1, o2⟩ := hL.o
                have ll := sl_len L2
                have hA := hL.app s3 (Nat.le_refl _) (fun _ _ => rfl) (waveT c.wave)
                have hA2 : L2.length + (waveT c.wave).length = (L2 ++ waveT c.wave).length := by rw [List.length_append]
                have hp := writeW_ax c.wave (by omega) (by omega) h6
                have hwl := (waveT_by c.wave h6).1
                have e1 := sl_len (waveT c.wave)
                have e2 := sl_take (waveT c.wave)
                have e3 := sl_one (waveT c.wave)
                unfold WA NV IV iv TV at hp
                generalize hT : waveT c.wave = T at *
                by_cases hk : k = 118
                · have hk2 : (k : Int) = 118 := by omega
                  rw [show wavW c k = T from (if_pos (.inl hk)).trans hT]
                  (first | refine go (cj rTI (cj @n1 (cj @p5 @hk2))) ?_ | exact go0 (cj rTI (cj @n1 (cj @p5 @hk2))))
                  (try rw [then_normal]); (try refine aw_seq ?_); refine aw_cond rfl ?_ ?_ <;> intro hb <;> (try (cases hb; done)) <;> (try simp only [bq] at hb) <;> (try (exfalso; omega))
                  refine aw_reg fun K hK => ?_; refine rn (cj rTI (cj @p1 (cj @p4 (cj @gb (cj @gl (cj @ll (cj @e1 (cj @e2 @e3)))))))) ?_; refine cont_pure hp ?_; refine rn (cj rTI (cj @p1 (cj @p4 (cj @gb (cj @gl (cj @ll (cj @e1 (cj @e2 @e3)))))))) ?_; refine hK _ _ ?_; clear hK K
                  (first | refine go (cj rTI (cj @n1 @p1)) ?_ | exact go0 (cj rTI (cj @n1 @p1)))
                  refine ⟨rfl, ?_, ?_, s3.nx, ?_, hA⟩
                  all_goals ((first | refine rn (cj @n1 (cj @p1 (cj @p4 @p5))) ?_ | exact rn0 (cj @n1 (cj @p1 (cj @p4 @p5)))))
                  all_goals (first | trivial | rfl | rw [hA2])
                · have hk2 : ¬ (k : Int) = 118 := by omega
                  by_cases hk3 : k = 105
                  · have hk4 : (k : Int) = 105 := by omega
                    rw [show wavW c k = T from (if_pos (.inr hk3)).trans hT]
                    (first | refine go (cj rTI (cj @n1 (cj @p5 @hk4))) ?_ | exact go0 (cj rTI (cj @n1 (cj @p5 @hk4))))
                    (try rw [then_normal]); (try refine aw_seq ?_); refine aw_cond rfl ?_ ?_ <;> intro hb <;> (try (cases hb; done)) <;> (try simp only [bq] at hb) <;> (try (exfalso; omega))
                    refine aw_reg fun K hK => ?_; refine rn (cj rTI (cj @p1 (cj @p4 (cj @gb (cj @gl (cj @ll (cj @e1 (cj @e2 @e3)))))))) ?_; refine cont_pure hp ?_; refine rn (cj rTI (cj @p1 (cj @p4 (cj @gb (cj @gl (cj @ll (cj @e1 (cj @e2 @e3)))))))) ?_; refine hK _ _ ?_; clear hK K
                    (first | refine go (cj rTI (cj @n1 @p1)) ?_ | exact go0 (cj rTI (cj @n1 @p1)))
                    refine ⟨rfl, ?_, ?_, s3.nx, ?_, hA⟩
                    all_goals ((first | refine rn (cj @n1 (cj @p1 (cj @p4 @p5))) ?_ | exact rn0 (cj @n1 (cj @p1 (cj @p4 @p5)))))
                    all_goals (first | trivial | rfl | rw [hA2])
                  · have hk4 : ¬ (k : Int) = 105 := by omega
                    rw [show wavW c k = [] from if_neg (fun h => h.elim hk hk3), List.append_nil]
                    (first | refine go (cj rTI (cj @n1 (cj @p5 (cj @hk2 @hk4)))) ?_ | exact go0 (cj rTI (cj @n1 (cj @p5 (cj @hk2 @hk4)))))
                    (try rw [then_normal]); (try refine aw_seq ?_); refine aw_cond rfl ?_ ?_ <;> intro hb <;> (try (cases hb; done)) <;> (try simp only [bq] at hb) <;> (try (exfalso; omega))
                    (first | refine go (cj rTI (cj @n1 (cj @p1 @p4))) ?_ | exact go0 (cj rTI (cj @n1 (cj @p1 @p4))))
                    exact ⟨id2, rfl, hL⟩
              · clear hL n1 p1 p4 p5
                rintro e4 s4 ⟨n1, p1, id3, p4, hL⟩
                rw [then_normal]
                rw [← hww] at hL p4
                obtain ⟨o1, o2⟩ := hL.o
                have hwl : (wordsC c).length ≤ 100 := by
                  rw [hww, List.length_append]
                  have : (wavW c k).length ≤ 65 := by
                    unfold wavW
                    split
                    · have := (waveT_by c.wave h6).1
                      omega
                    · exact Nat.zero_le _
                  omega
                have hwb := words_by c ⟨h1, h2, h3, h4, h5, h6⟩
                have hrd := read_ax (wordsC c) (fun x hx => (hwb x hx).1) (fun x hx => (hwb x hx).2) (by omega)
                have hrb := read_by (wordsC c) (fun x hx => (hwb x hx).1)
                have hwr : writeC c = if (readC (wordsC c)).2 = 0 ∧ (readC (wordsC c)).1.ref = c.ref ∧ (readC (wordsC c)).1.value = c.value ∧ (readC (wordsC c)).1.nodes = c.nodes ∧ sameW (readC (wordsC c)).1.wave c.wave = true then (wordsC c, 0) else ([], 70) := if_pos ⟨q1, q2, q3, q4⟩
                rw [hwr]
                clear hwr hww hwb hno hln hl0 hl1 hl2 hL0
                generalize readC (wordsC c) = d at *
                generalize wordsC c = W at *
                obtain ⟨d, er⟩ := d
                simp only at hrb ⊢
                refine aw_freeze2 id3 _ hL.l (fun _ => false) fun e5 s5 f1 f2 f3 f4 => ?_
                have m1 : e5.n = 120 := f1.trans n1
                have m2 : e5.m 1 = .ptr s.nx 0 := by rw [f2, p1, frz_ptr_ne _ _ _ _ (by omega)]
                have m4 : e5.m 4 = .sl W.length (SL W) := by rw [f2, p4, frz_SL]; rfl
                have gb : s5.get s.nx = some [.v (.string (bs c.name)), .sl c.nodes.length (SL c.nodes), .v (.string (bs c.ref)), .v (.int .i64 c.value.1), .v (.int .i64 c.value.2), .v (.int .i64 c.wave.kind), .sl c.wave.vals.length (NC c.wave.vals), .sl c.wave.steps.length (IL c.wave.steps)] := by
                  rw [f4, if_neg (by omega), if_neg Bool.false_ne_true]
                  exact hL.b
                have fr : ∀ i, i < s.nx → s5.get i = s.get i := fun i hi => by
                  rw [f4, if_neg (by omega), if_neg Bool.false_ne_true]
                  exact hL.fr i hi
                have hnx : s.nx < s5.nx := by rw [f3]; omega
                clear f1 f2 f3 f4 n1 p1 p4 hL
                unfold RA CA SV TV NV IV iv at hrd
                simp only at hrd
                (first | refine go (cj rTI (cj @m1 @m4)) ?_ | exact go0 (cj rTI (cj @m1 @m4)))
                refine aw_reg fun K hK => ?_; refine rn (cj rTI (cj @m1 @m4)) ?_; refine cont_pure hrd ?_; refine rn (cj rTI (cj @m1 @m4)) ?_; refine hK _ _ ?_; clear hK K
                have hrr := str_ne d.ref c.ref hrb.1 h3.1
                have hf5 : eqOk Tryz.prog 24 = true := by kernel_rfl
                have hf6 : (d.value.1 == c.value.1 && d.value.2 == c.value.2) = decide (d.value = c.value) := by rw [Bool.eq_iff_iff, decide_eq_true_eq, Prod.ext_iff]; simp
                have hnd := equalS_ax d.nodes c.nodes hrb.2.1 h2.1 (by omega) h2.2.2
                have hsw := sameW_ax d.wave c.wave (by omega) (by omega) h4 h5
                unfold TV at hnd
                unfold WA NV IV iv at hsw
                by_cases x1 : er = 0
                · by_cases x2 : d.ref = c.ref
                  · rw [decide_eq_true x2] at hrr
                    by_cases x3 : d.value = c.value
                    · rw [decide_eq_true x3] at hf6
                      by_cases x4 : d.nodes = c.nodes
                      · rw [decide_eq_true x4] at hnd
                        generalize sameW d.wave c.wave = x5 at *
                        cases x5 with
                        | true =>
                          rw [if_pos ⟨x1, x2, x3, x4, rfl⟩]
                          rw [then_normal]
                          refine aw_seq ?_
                          refine aw_seq ?_
                          refine aw_reg fun K hK => ?_; refine rn (cj rTI (cj @m1 (cj @m2 (cj @gb (cj @hnx (cj @x1 (cj @hrr (cj @hf5 @hf6)))))))) ?_; refine cont_pure hnd ?_; (first | refine rn (cj rTI (cj @m1 (cj @m2 (cj @gb (cj @hnx (cj @x1 (cj @hrr (cj @hf5 @hf6)))))))) ?_ | exact rn0 (cj rTI (cj @m1 (cj @m2 (cj @gb (cj @hnx (cj @x1 (cj @hrr (cj @hf5 @hf6))))))))); refine cont_pure hsw ?_; refine rn (cj rTI (cj @m1 (cj @m2 (cj @gb (cj @hnx (cj @x1 (cj @hrr (cj @hf5 @hf6)))))))) ?_; refine hK _ _ ?_; clear hK K
                          (try rw [then_normal]); (try refine aw_seq ?_); refine aw_cond rfl ?_ ?_ <;> intro hb <;> (try (cases hb; done)) <;> (try simp only [bq] at hb) <;> (try (exfalso; omega))
                          (first | refine go (cj rTI (cj @m1 @m4)) ?_ | exact go0 (cj rTI (cj @m1 @m4)))
                          exact ⟨Le.refl _, pa_idf _, fun i hi => by rw [if_neg (by omega)]; exact fr i hi⟩
                        | false =>
                          rw [if_neg fun h => by cases h.2.2.2.2]
                          rw [then_normal]
                          refine aw_seq ?_
                          refine aw_seq ?_
                          refine aw_reg fun K hK => ?_; refine rn (cj rTI (cj @m1 (cj @m2 (cj @gb (cj @hnx (cj @x1 (cj @hrr (cj @hf5 @hf6)))))))) ?_; refine cont_pure hnd ?_; (first | refine rn (cj rTI (cj @m1 (cj @m2 (cj @gb (cj @hnx (cj @x1 (cj @hrr (cj @hf5 @hf6)))))))) ?_ | exact rn0 (cj rTI (cj @m1 (cj @m2 (cj @gb (cj @hnx (cj @x1 (cj @hrr (cj @hf5 @hf6))))))))); refine cont_pure hsw ?_; refine rn (cj rTI (cj @m1 (cj @m2 (cj @gb (cj @hnx (cj @x1 (cj @hrr (cj @hf5 @hf6)))))))) ?_; refine hK _ _ ?_; clear hK K
                          (try rw [then_normal]); (try refine aw_seq ?_); refine aw_cond rfl ?_ ?_ <;> intro hb <;> (try (cases hb; done)) <;> (try simp only [bq] at hb) <;> (try (exfalso; omega))
                          (first | refine go (cj rTI @m1) ?_ | exact go0 (cj rTI @m1))
                          exact ⟨pa_err 70, pa_idf _, fun i hi => by rw [if_neg (by omega)]; exact fr i hi⟩
                      · rw [decide_eq_false x4] at hnd
                        rw [if_neg fun h => x4 h.2.2.2.1]
                        rw [then_normal]
                        refine aw_seq ?_
                        refine aw_seq ?_
                        refine aw_reg fun K hK => ?_; refine rn (cj rTI (cj @m1 (cj @m2 (cj @gb (cj @hnx (cj @x1 (cj @hrr (cj @hf5 @hf6)))))))) ?_; refine cont_pure hnd ?_; refine rn (cj rTI (cj @m1 (cj @m2 (cj @gb (cj @hnx (cj @x1 (cj @hrr (cj @hf5 @hf6)))))))) ?_; refine hK _ _ ?_; clear hK K
                        (try rw [then_normal]); (try refine aw_seq ?_); refine aw_cond rfl ?_ ?_ <;> intro hb <;> (try (cases hb; done)) <;> (try simp only [bq] at hb) <;> (try (exfalso; omega))
                        (first | refine go (cj rTI @m1) ?_ | exact go0 (cj rTI @m1))
                        exact ⟨pa_err 70, pa_idf _, fun i hi => by rw [if_neg (by omega)]; exact fr i hi⟩
                    · rw [decide_eq_false x3] at hf6
                      rw [if_neg fun h => x3 h.2.2.1]
                      rw [then_normal]
                      refine aw_seq ?_
                      refine aw_seq ?_
                      (first | refine go (cj rTI (cj @m1 (cj @m2 (cj @gb (cj @hnx (cj @x1 (cj @hrr (cj @hf5 @hf6)))))))) ?_ | exact go0 (cj rTI (cj @m1 (cj @m2 (cj @gb (cj @hnx (cj @x1 (cj @hrr (cj @hf5 @hf6)))))))))
                      (try rw [then_normal]); (try refine aw_seq ?_); refine aw_cond rfl ?_ ?_ <;> intro hb <;> (try (cases hb; done)) <;> (try simp only [bq] at hb) <;> (try (exfalso; omega))
                      (first | refine go (cj rTI @m1) ?_ | exact go0 (cj rTI @m1))
                      exact ⟨pa_err 70, pa_idf _, fun i hi => by rw [if_neg (by omega)]; exact fr i hi⟩
                  · rw [decide_eq_false x2] at hrr
                    rw [if_neg fun h => x2 h.2.1]
                    rw [then_normal]
                    refine aw_seq ?_
                    refine aw_seq ?_
                    (first | refine go (cj rTI (cj @m1 (cj @m2 (cj @gb (cj @hnx (cj @x1 @hrr)))))) ?_ | exact go0 (cj rTI (cj @m1 (cj @m2 (cj @gb (cj @hnx (cj @x1 @hrr)))))))
                    (try rw [then_normal]); (try refine aw_seq ?_); refine aw_cond rfl ?_ ?_ <;> intro hb <;> (try (cases hb; done)) <;> (try simp only [bq] at hb) <;> (try (exfalso; omega))
                    (first | refine go (cj rTI @m1) ?_ | exact go0 (cj rTI @m1))
                    exact ⟨pa_err 70, pa_idf _, fun i hi => by rw [if_neg (by omega)]; exact fr i hi⟩
                · rw [if_neg fun h => x1 h.1]
                  rw [then_normal]
                  refine aw_seq ?_
                  refine aw_seq ?_
                  (first | refine go (cj rTI (cj @m1 (cj @m2 (cj @gb (cj @hnx @x1))))) ?_ | exact go0 (cj rTI (cj @m1 (cj @m2 (cj @gb (cj @hnx @x1))))))
                  (try rw [then_normal]); (try refine aw_seq ?_); refine aw_cond rfl ?_ ?_ <;> intro hb <;> (try (cases hb; done)) <;> (try simp only [bq] at hb) <;> (try (exfalso; omega))
                  (first | refine go (cj rTI @m1) ?_ | exact go0 (cj rTI @m1))
                  exact ⟨pa_err 70, pa_idf _, fun i hi => by rw [if_neg (by omega)]; exact fr i hi⟩
        · rw [hno fun h => q4 h.2.2.2]
          refine acall_of Tryz.func31 rfl rfl (by simp [Tryz.ntmps31]) ?_; rw [Tryz.ntmps31, Tryz.results31]
          (first | refine go rTI ?_ | exact go0 rTI)
          refine aw_reg fun K hK => ?_; refine rn rTI ?_; refine cont_pure hd ?_; refine rn rTI ?_; refine hK _ _ ?_; clear hK K
          (try rw [then_normal]); (try refine aw_seq ?_); refine aw_cond rfl ?_ ?_ <;> intro hb <;> (try (cases hb; done)) <;> (try simp only [bq] at hb) <;> (try (exfalso; omega))
          (first | refine go rTI ?_ | exact go0 rTI)
          exact ⟨pa_err 70, pa_idf _, fun i hi => if_neg (by omega)⟩
      · rw [hno fun h => q3 h.2.2.1]
        refine acall_of Tryz.func31 rfl rfl (by simp [Tryz.ntmps31]) ?_; rw [Tryz.ntmps31, Tryz.results31]
        (first | refine go rTI ?_ | exact go0 rTI)
        refine aw_reg fun K hK => ?_; refine rn rTI ?_; refine cont_pure hd ?_; refine rn rTI ?_; refine hK _ _ ?_; clear hK K
        (try rw [then_normal]); (try refine aw_seq ?_); refine aw_cond rfl ?_ ?_ <;> intro hb <;> (try (cases hb; done)) <;> (try simp only [bq] at hb) <;> (try (exfalso; omega))
        (first | refine go rTI ?_ | exact go0 rTI)
        exact ⟨pa_err 70, pa_idf _, fun i hi => if_neg (by omega)⟩
    · rw [hno fun h => q2 h.2.1]
      refine acall_of Tryz.func31 rfl rfl (by simp [Tryz.ntmps31]) ?_; rw [Tryz.ntmps31, Tryz.results31]
      (first | refine go rTI ?_ | exact go0 rTI)
      refine aw_reg fun K hK => ?_; refine rn rTI ?_; refine cont_pure hd ?_; refine rn rTI ?_; refine hK _ _ ?_; clear hK K
      (try rw [then_normal]); (try refine aw_seq ?_); refine aw_cond rfl ?_ ?_ <;> intro hb <;> (try (cases hb; done)) <;> (try simp only [bq] at hb) <;> (try (exfalso; omega))
      (first | refine go rTI ?_ | exact go0 rTI)
      exact ⟨pa_err 70, pa_idf _, fun i hi => if_neg (by omega)⟩
  · rw [hno fun h => q1 h.1]
    rw [Bool.eq_false_iff.2 q1] at hd
    refine acall_of Tryz.func31 rfl rfl (by simp [Tryz.ntmps31]) ?_; rw [Tryz.ntmps31, Tryz.results31]
    (first | refine go rTI ?_ | exact go0 rTI)
    refine aw_reg fun K hK => ?_; refine rn rTI ?_; refine cont_pure hd ?_; refine rn rTI ?_; refine hK _ _ ?_; clear hK K
    (try rw [then_normal]); (try refine aw_seq ?_); refine aw_cond rfl ?_ ?_ <;> intro hb <;> (try (cases hb; done)) <;> (try simp only [bq] at hb) <;> (try (exfalso; omega))
    (first | refine go rTI ?_ | exact go0 rTI)
    exact ⟨pa_err 70, pa_idf _, fun i hi => if_neg (by omega)⟩
end Go.Proofs.YtfjelkjlfcafgaaGreatDoor.CardK
end
section
/- Models: Valid. -/
namespace Go.Proofs.YtfjelkjlfcafgaaGreatDoor.CardL
open Go Go.RowKit Go.Proofs.YtfjelkjlfcafgaaGreatDoor.Ax Go.Proofs.YtfjelkjlfcafgaaGreatDoor.Ti Go.Proofs.YtfjelkjlfcafgaaGreatDoor.NumS Go.Proofs.YtfjelkjlfcafgaaGreatDoor.NumT Go.Proofs.YtfjelkjlfcafgaaGreatDoor.CardS Go.Proofs.YtfjelkjlfcafgaaGreatDoor.CardP Go.Proofs.YtfjelkjlfcafgaaGreatDoor.CardA Go.Proofs.YtfjelkjlfcafgaaGreatDoor.CardB Go.Proofs.YtfjelkjlfcafgaaGreatDoor.CardC Go.Proofs.YtfjelkjlfcafgaaGreatDoor.CardD Go.Proofs.YtfjelkjlfcafgaaGreatDoor.CardE Go.Proofs.YtfjelkjlfcafgaaGreatDoor.CardF Go.Proofs.YtfjelkjlfcafgaaGreatDoor.CardG Go.Proofs.YtfjelkjlfcafgaaGreatDoor.CardH Go.Proofs.YtfjelkjlfcafgaaGreatDoor.CardI Go.Proofs.YtfjelkjlfcafgaaGreatDoor.CardJ Go.Proofs.YtfjelkjlfcafgaaGreatDoor.CardK
open Go.Proofs.YtfjelkjlfcafgaaGreatDoor.NumA (NM)
set_option linter.unusedSimpArgs false
set_option linter.unusedVariables false
set_option maxRecDepth 4000
set_option maxHeartbeats 2000000
theorem rTI : type_of% (cj @ti3 (cj @ti4 (cj @ti9 (cj @ti5 (cj @ti2 (cj @ti36 (cj @ti63 (cj @ti62 (cj @ti191 (cj @ti24 (cj @ti82 (cj @ti25 (cj @Nat.zero_add (cj @tz0 (cj @tz1 (cj @tz3 (cj @Nat.mul_one @Int.toNat_natCast))))))))))))))))) := cj @ti3 (cj @ti4 (cj @ti9 (cj @ti5 (cj @ti2 (cj @ti36 (cj @ti63 (cj @ti62 (cj @ti191 (cj @ti24 (cj @ti82 (cj @ti25 (cj @Nat.zero_add (cj @tz0 (cj @tz1 (cj @tz3 (cj @Nat.mul_one @Int.toNat_natCast))))))))))))))))
/-- A model. -/
def MA (m : Mdl) : AV := .ag [SV m.name, .v (.int .u8 m.kind), NV m.g, NV m.v]
theorem risingN_of : ∀ (S : List Num), (∀ i, i + 1 < S.length → sLess (S.getD i (0, 0)) (S.getD (i + 1) (0, 0)) = true) → risingN S = true
  | [], _ => rfl
  | [_], _ => rfl
  | a :: b :: r, h => by
    show (sLess a b && risingN (b :: r)) = true
    rw [Bool.and_eq_true]
    refine ⟨h 0 (by simp), risingN_of (b :: r) fun i hi => ?_⟩
    have := h (i + 1) (by simpa using hi)
    simpa using this
theorem risingN_not : ∀ (S : List Num) (i : Nat), i + 1 < S.length → sLess (S.getD i (0, 0)) (S.getD (i + 1) (0, 0)) = false → risingN S = false
  | [], _, h, _ => by simp at h
  | [_], _, h, _ => by simp at h
  | a :: b :: r, 0, h, q => by
    show (sLess a b && risingN (b :: r)) = false
    have : sLess a b = false := q
    rw [this, Bool.false_and]
  | a :: b :: r, i + 1, h, q => by
    show (sLess a b && risingN (b :: r)) = false
    rw [risingN_not (b :: r) i (by simpa using h) (by simpa using q), Bool.and_false]
def kindM (k : Int) (g v : List Num) : Bool := if k = 115 then decide (g.length = 2 ∧ v.length = 1) else if k = 100 then decide (1 ≤ g.length ∧ g.length ≤ 4 ∧ v.length + 1 = g.length) && risingN v else false
theorem modelOk_eq (n : Str) (k : Int) (g v : List Num) : modelOk ⟨n, k, g, v⟩ = (isName n && g.all valid && v.all valid && kindM k g v) := rfl
theorem mvalid_ax (m : Mdl) (hn : By m.name ∧ m.name.length ≤ 281474976710656) (hg : m.g.length ≤ 9223372036854775807) (hv : m.v.length ≤ 9223372036854775807) : PCall Tryz.prog 98 [MA m] (.v (.bool (modelOk m))) := by
  refine pcall_of fun s => ?_
  obtain ⟨nm, kd, G, V⟩ := m
  rw [modelOk_eq]
  simp only at hn hg hv
  have hnm := name_ax nm hn.1 (by have := hn.2; omega)
  unfold MA NV
  unfold SV at hnm ⊢
  simp only
  cases hc : isName nm with
  | false =>
    rw [hc] at hnm
    rw [Bool.false_and, Bool.false_and, Bool.false_and]
    refine acall_of Tryz.func98 rfl rfl (by simp [Tryz.ntmps98]) ?_; rw [Tryz.ntmps98, Tryz.results98]
    (first | refine go rTI ?_ | exact go0 rTI)
    refine aw_reg fun K hK => ?_; refine rn rTI ?_; refine cont_pure hnm ?_; refine rn rTI ?_; refine hK _ _ ?_; clear hK K
    (try rw [then_normal]); (try refine aw_seq ?_); refine aw_cond rfl ?_ ?_ <;> intro hb <;> (try (cases hb; done)) <;> (try simp only [bq] at hb) <;> (try (exfalso; omega))
    (first | refine go rTI ?_ | exact go0 rTI)
    exact fun i hi => if_neg (by omega)
  | true =>
    rw [hc] at hnm
    rw [Bool.true_and]
    refine acall_of Tryz.func98 rfl rfl (by simp [Tryz.ntmps98]) ?_; rw [Tryz.ntmps98, Tryz.results98]
    (first | refine go rTI ?_ | exact go0 rTI)
    refine aw_reg fun K hK => ?_; refine rn rTI ?_; refine cont_pure hnm ?_; refine rn rTI ?_; refine hK _ _ ?_; clear hK K
    (try rw [then_normal]); (try refine aw_seq ?_); refine aw_cond rfl ?_ ?_ <;> intro hb <;> (try (cases hb; done)) <;> (try simp only [bq] at hb) <;> (try (exfalso; omega))
    (first | refine go rTI ?_ | exact go0 rTI)
    refine aw_loop (fun m e s' => ∃ j, m = 2 - j ∧ j ≤ 2 ∧ e.n = 93 ∧ e.m 1 = .ptr s.nx 0 ∧ e.m 18 = .ag [.sl G.length (NC G), .sl V.length (NC V)] ∧ e.m 19 = .v (.int .i64 (j : Nat)) ∧ (1 ≤ j → G.all valid = true) ∧ (2 ≤ j → V.all valid = true) ∧ s.nx < s'.nx ∧ s'.get s.nx = some [.v (.string (bs nm)), .v (.int .u8 kd), .sl G.length (NC G), .sl V.length (NC V)] ∧ ∀ i, i < s.nx → s'.get i = s.get i) 2 ?_ ?_
    · refine ⟨0, by omega, by omega, ?_, ?_, ?_, ?_, fun h => by omega, fun h => by omega, Nat.lt_succ_self _, St.push_same _ _, fun i hi => St.push_ne s _ _ (by omega)⟩
      all_goals ((first | refine rn rTI ?_ | exact rn0 rTI))
      all_goals (first | rfl | trivial)
    · rintro m e s' ⟨j, rfl, hj, h1, k1, k18, k19, hG, hV, hn2, gb, fr⟩
      by_cases hj2 : j < 2
      · obtain ⟨L, hh, hbad, hok, hL⟩ : ∃ L : List Num, ([AV.sl G.length (NC G), AV.sl V.length (NC V)].drop j).head? = some (.sl L.length (NC L)) ∧ (L.all valid = false → (G.all valid && V.all valid && kindM kd G V) = false) ∧ (L.all valid = true → (1 ≤ j + 1 → G.all valid = true) ∧ (2 ≤ j + 1 → V.all valid = true)) ∧ L.length ≤ 9223372036854775807 := by
          match j, hj2 with
          | 0, _ => exact ⟨G, rfl, fun h => by rw [h, Bool.false_and, Bool.false_and], fun h => ⟨fun _ => h, fun q => by omega⟩, hg⟩
          | 1, _ => exact ⟨V, rfl, fun h => by rw [h, Bool.and_false, Bool.false_and], fun h => ⟨fun _ => hG (by omega), fun _ => h⟩, hv⟩
        (first | refine go (cj rTI (cj @h1 @k19)) ?_ | exact go0 (cj rTI (cj @h1 @k19)))
        (try rw [then_normal]); (try refine aw_seq ?_); refine aw_cond rfl ?_ ?_ <;> intro hb <;> (try (cases hb; done)) <;> (try simp only [bq] at hb) <;> (try (exfalso; omega))
        refine aw_skip ?_
        (first | refine go (cj rTI (cj @h1 (cj @k18 (cj @k19 @hh)))) ?_ | exact go0 (cj rTI (cj @h1 (cj @k18 (cj @k19 @hh)))))
        clear hG hV hh
        refine aw_loop (fun m e2 s2 => ∃ k, m = L.length - k ∧ k ≤ L.length ∧ e2.n = 93 ∧ e2.m 1 = .ptr s.nx 0 ∧ e2.m 18 = .ag [.sl G.length (NC G), .sl V.length (NC V)] ∧ e2.m 19 = .v (.int .i64 (j : Nat)) ∧ e2.m 22 = .sl L.length (NC L) ∧ e2.m 23 = .v (.int .i64 L.length) ∧ e2.m 24 = .v (.int .i64 (k : Nat)) ∧ (L.take k).all valid = true ∧ s.nx < s2.nx ∧ s2.get s.nx = some [.v (.string (bs nm)), .v (.int .u8 kd), .sl G.length (NC G), .sl V.length (NC V)] ∧ ∀ i, i < s.nx → s2.get i = s.get i) L.length ?_ ?_
        · refine ⟨0, by omega, by omega, ?_, ?_, ?_, ?_, ?_, ?_, ?_, rfl, hn2, gb, fr⟩
          all_goals ((first | refine rn (cj rTI (cj @h1 (cj @k1 (cj @k18 @k19)))) ?_ | exact rn0 (cj rTI (cj @h1 (cj @k1 (cj @k18 @k19))))))
          all_goals (first | rfl | trivial)
        · clear h1 k1 k18 k19 hn2 gb fr
          rintro m e2 s2 ⟨k, rfl, hk, h1, k1, k18, k19, k22, k23, k24, ha, hn2, gb, fr⟩
          by_cases hk2 : k < L.length
          · have f1 := nc_at L k hk2
            have f2 : 2 ≤ ((NC L).drop (k * 2)).length := by rw [List.length_drop, nc_len]; omega
            have hp : PCall Tryz.prog 18 [NM (L.getD k (0, 0)).1 (L.getD k (0, 0)).2] (.v (.bool (valid (L.getD k (0, 0))))) := NumA.valid_ax _ _
            have ht := take_all valid L (0, 0) k hk2 ha
            have hf := all_not valid L (0, 0) k hk2
            unfold iv at f1
            unfold NM at hp
            generalize L.getD k (0, 0) = n at *
            (first | refine go (cj rTI (cj @h1 (cj @k23 @k24))) ?_ | exact go0 (cj rTI (cj @h1 (cj @k23 @k24))))
            (try rw [then_normal]); (try refine aw_seq ?_); refine aw_cond rfl ?_ ?_ <;> intro hb <;> (try (cases hb; done)) <;> (try simp only [bq] at hb) <;> (try (exfalso; omega))
            refine aw_skip ?_
            (first | refine go (cj rTI (cj @h1 (cj @k22 (cj @k24 (cj @f1 @f2))))) ?_ | exact go0 (cj rTI (cj @h1 (cj @k22 (cj @k24 (cj @f1 @f2))))))
            refine aw_reg fun K hK => ?_; refine rn rTI ?_; refine cont_pure hp ?_; refine rn rTI ?_; refine hK _ _ ?_; clear hK K
            cases hc : valid n with
            | false =>
              rw [hbad (hf hc)]
              (try rw [then_normal]); (try refine aw_seq ?_); refine aw_cond rfl ?_ ?_ <;> intro hb <;> (try (cases hb; done)) <;> (try simp only [bq] at hb) <;> (try (exfalso; omega))
              (first | refine go (cj rTI @h1) ?_ | exact go0 (cj rTI @h1))
              exact fun i hi => by rw [if_neg (by omega)]; exact fr i hi
            | true =>
              rw [hc] at ht
              (try rw [then_normal]); (try refine aw_seq ?_); refine aw_cond rfl ?_ ?_ <;> intro hb <;> (try (cases hb; done)) <;> (try simp only [bq] at hb) <;> (try (exfalso; omega))
              (first | refine go (cj rTI (cj @h1 @k24)) ?_ | exact go0 (cj rTI (cj @h1 @k24)))
              simp only [block_normal, loop_normal]
              refine ⟨L.length - (k + 1), by omega, k + 1, rfl, by omega, ?_, ?_, ?_, ?_, ?_, ?_, ?_, ht, ?_, ?_, ?_⟩
              all_goals ((first | refine rn (cj rTI (cj @h1 (cj @k1 (cj @k18 (cj @k19 (cj @k22 (cj @k23 @k24))))))) ?_ | exact rn0 (cj rTI (cj @h1 (cj @k1 (cj @k18 (cj @k19 (cj @k22 (cj @k23 @k24)))))))))
              all_goals (first | rfl | trivial | (rw [St.nx_push]; omega) | omega | (intro i hi; rw [if_neg (by omega)]; exact fr i hi) | skip)
          · obtain rfl : k = L.length := by omega
            rw [List.take_length] at ha
            obtain ⟨hG, hV⟩ := hok ha
            (first | refine go (cj rTI (cj @h1 (cj @k19 (cj @k23 @k24)))) ?_ | exact go0 (cj rTI (cj @h1 (cj @k19 (cj @k23 @k24)))))
            (try rw [then_normal]); (try refine aw_seq ?_); refine aw_cond rfl ?_ ?_ <;> intro hb <;> (try (cases hb; done)) <;> (try simp only [bq] at hb) <;> (try (exfalso; omega))
            (first | refine go (cj rTI (cj @h1 @k19)) ?_ | exact go0 (cj rTI (cj @h1 @k19)))
            simp only [block_normal, loop_normal]
            refine ⟨2 - (j + 1), by omega, j + 1, rfl, by omega, ?_, ?_, ?_, ?_, hG, hV, hn2, gb, fr⟩
            all_goals ((first | refine rn (cj rTI (cj @h1 (cj @k1 (cj @k18 @k19)))) ?_ | exact rn0 (cj rTI (cj @h1 (cj @k1 (cj @k18 @k19))))))
            all_goals (first | rfl | trivial)
      · obtain rfl : j = 2 := by omega
        have hVa : ∀ i, i < V.length → valid (V.getD i (0, 0)) = true := fun i hi => by
          rw [List.getD_eq_getElem?_getD, List.getElem?_eq_getElem hi]
          exact List.all_eq_true.1 (hV (by omega)) _ (List.getElem_mem _)
        rw [hG (by omega), hV (by omega), Bool.true_and, Bool.true_and]
        clear hG hV hj hj2
        unfold kindM
        by_cases q1 : kd = 115
        · rw [if_pos q1]
          subst q1
          have hd2 : decide (G.length = 2 ∧ V.length = 1) = (decide (G.length = 2) && decide (V.length = 1)) := by rw [Bool.decide_and]
          rw [hd2]
          (first | refine go (cj rTI (cj @h1 (cj @k1 (cj @k19 @gb)))) ?_ | exact go0 (cj rTI (cj @h1 (cj @k1 (cj @k19 @gb)))))
          (try rw [then_normal]); (try refine aw_seq ?_); refine aw_cond rfl ?_ ?_ <;> intro hb <;> (try (cases hb; done)) <;> (try simp only [bq] at hb) <;> (try (exfalso; omega))
          (first | refine go (cj rTI (cj @h1 (cj @k1 @gb))) ?_ | exact go0 (cj rTI (cj @h1 (cj @k1 @gb))))
          (try rw [then_normal]); (try refine aw_seq ?_); refine aw_cond rfl ?_ ?_ <;> intro hb <;> (try (cases hb; done)) <;> (try simp only [bq] at hb) <;> (try (exfalso; omega))
          by_cases c1 : G.length = 2
          · by_cases c2 : V.length = 1
            · rw [decide_eq_true c1, decide_eq_true c2]
              (first | refine go (cj rTI (cj @h1 (cj @k1 @gb))) ?_ | exact go0 (cj rTI (cj @h1 (cj @k1 @gb))))
              exact fr
            · rw [decide_eq_true c1, decide_eq_false c2]
              (first | refine go (cj rTI (cj @h1 (cj @k1 @gb))) ?_ | exact go0 (cj rTI (cj @h1 (cj @k1 @gb))))
              exact fr
          · rw [decide_eq_false c1, Bool.false_and]
            (first | refine go (cj rTI (cj @h1 (cj @k1 @gb))) ?_ | exact go0 (cj rTI (cj @h1 (cj @k1 @gb))))
            exact fr
        rw [if_neg q1]
        by_cases q2 : kd = 100
        · rw [if_pos q2]
          subst q2
          (first | refine go (cj rTI (cj @h1 (cj @k1 (cj @k19 @gb)))) ?_ | exact go0 (cj rTI (cj @h1 (cj @k1 (cj @k19 @gb)))))
          (try rw [then_normal]); (try refine aw_seq ?_); refine aw_cond rfl ?_ ?_ <;> intro hb <;> (try (cases hb; done)) <;> (try simp only [bq] at hb) <;> (try (exfalso; omega))
          (first | refine go (cj rTI (cj @h1 (cj @k1 @gb))) ?_ | exact go0 (cj rTI (cj @h1 (cj @k1 @gb))))
          (try rw [then_normal]); (try refine aw_seq ?_); refine aw_cond rfl ?_ ?_ <;> intro hb <;> (try (cases hb; done)) <;> (try simp only [bq] at hb) <;> (try (exfalso; omega))
          (first | refine go (cj rTI (cj @h1 (cj @k1 @gb))) ?_ | exact go0 (cj rTI (cj @h1 (cj @k1 @gb))))
          (try rw [then_normal]); (try refine aw_seq ?_); refine aw_cond rfl ?_ ?_ <;> intro hb <;> (try (cases hb; done)) <;> (try simp only [bq] at hb) <;> (try (exfalso; omega))
          rcases (by omega : G.length < 1 ∨ (1 ≤ G.length ∧ 4 < G.length) ∨ (1 ≤ G.length ∧ G.length ≤ 4 ∧ ¬ V.length + 1 = G.length) ∨ (1 ≤ G.length ∧ G.length ≤ 4 ∧ V.length + 1 = G.length)) with c | ⟨c1, c2⟩ | ⟨c1, c2, c3⟩ | ⟨c1, c2, c3⟩
          · rw [decide_eq_false (fun h => by omega), Bool.false_and]
            (first | refine go (cj rTI (cj @h1 (cj @k1 @gb))) ?_ | exact go0 (cj rTI (cj @h1 (cj @k1 @gb))))
            (try rw [then_normal]); (try refine aw_seq ?_); refine aw_cond rfl ?_ ?_ <;> intro hb <;> (try (cases hb; done)) <;> (try simp only [bq] at hb) <;> (try (exfalso; omega))
            (first | refine go (cj rTI @h1) ?_ | exact go0 (cj rTI @h1))
            exact fr
          · rw [decide_eq_false (fun h => by omega), Bool.false_and]
            (first | refine go (cj rTI (cj @h1 (cj @k1 @gb))) ?_ | exact go0 (cj rTI (cj @h1 (cj @k1 @gb))))
            (try rw [then_normal]); (try refine aw_seq ?_); refine aw_cond rfl ?_ ?_ <;> intro hb <;> (try (cases hb; done)) <;> (try simp only [bq] at hb) <;> (try (exfalso; omega))
            (first | refine go (cj rTI @h1) ?_ | exact go0 (cj rTI @h1))
            exact fr
          · rw [decide_eq_false (fun h => by omega), Bool.false_and]
            (first | refine go (cj rTI (cj @h1 (cj @k1 @gb))) ?_ | exact go0 (cj rTI (cj @h1 (cj @k1 @gb))))
            (try rw [then_normal]); (try refine aw_seq ?_); refine aw_cond rfl ?_ ?_ <;> intro hb <;> (try (cases hb; done)) <;> (try simp only [bq] at hb) <;> (try (exfalso; omega))
            (first | refine go (cj rTI @h1) ?_ | exact go0 (cj rTI @h1))
            exact fr
          · rw [decide_eq_true ⟨c1, c2, c3⟩, Bool.true_and]
            (first | refine go (cj rTI (cj @h1 (cj @k1 @gb))) ?_ | exact go0 (cj rTI (cj @h1 (cj @k1 @gb))))
            (try rw [then_normal]); (try refine aw_seq ?_); refine aw_cond rfl ?_ ?_ <;> intro hb <;> (try (cases hb; done)) <;> (try simp only [bq] at hb) <;> (try (exfalso; omega))
            (first | refine go (cj rTI @h1) ?_ | exact go0 (cj rTI @h1))
            refine aw_loop (fun m e2 s2 => ∃ j, m = V.length - j ∧ j ≤ V.length ∧ e2.n = 93 ∧ e2.m 1 = .ptr s.nx 0 ∧ e2.m 7 = .v (.int .i64 ((j : Int) + 1)) ∧ (∀ i, i < j → i + 1 < V.length → sLess (V.getD i (0, 0)) (V.getD (i + 1) (0, 0)) = true) ∧ s2 = s') V.length ?_ ?_
            · refine ⟨0, by omega, by omega, ?_, ?_, ?_, fun i hi => by omega, ?_⟩
              all_goals ((first | refine rn (cj rTI (cj @h1 @k1)) ?_ | exact rn0 (cj rTI (cj @h1 @k1))))
              all_goals (first | rfl | trivial)
            · clear h1 k1 k18 k19
              rintro m e2 s2 ⟨j, rfl, hj, h1, k1, k7, hr, rfl⟩
              by_cases hj2 : j + 1 < V.length
              · have f1 := nc_at V j (by omega)
                have f2 : 2 ≤ ((NC V).drop (j * 2)).length := by rw [List.length_drop, nc_len]; omega
                have f3 := nc_at V (j + 1) hj2
                have f4 : 2 ≤ ((NC V).drop ((j + 1) * 2)).length := by rw [List.length_drop, nc_len]; omega
                have hcm := NumB.cmp_ax (V.getD j (0, 0)).1 (V.getD j (0, 0)).2 (V.getD (j + 1) (0, 0)).1 (V.getD (j + 1) (0, 0)).2
                rw [NumB.cmpNN_eq, if_pos ⟨hVa j (by omega), hVa (j + 1) hj2⟩, show @BigI.sgn = @RefC.sgn from rfl] at hcm
                have hnr := risingN_not V j hj2
                have hpr : sLess (V.getD j (0, 0)) (V.getD (j + 1) (0, 0)) = true → ∀ i, i < j + 1 → i + 1 < V.length → sLess (V.getD i (0, 0)) (V.getD (i + 1) (0, 0)) = true := fun h i hi hi2 => by
                  by_cases q : i = j
                  · subst q; exact h
                  · exact hr i (by omega) hi2
                have hsl : sLess (V.getD j (0, 0)) (V.getD (j + 1) (0, 0)) = decide (RefC.sgn ((RefM.ofN (V.getD j (0, 0)).1 (V.getD j (0, 0)).2).1 * (RefM.ofN (V.getD (j + 1) (0, 0)).1 (V.getD (j + 1) (0, 0)).2).2 - (RefM.ofN (V.getD (j + 1) (0, 0)).1 (V.getD (j + 1) (0, 0)).2).1 * (RefM.ofN (V.getD j (0, 0)).1 (V.getD j (0, 0)).2).2) < 0) := rfl
                rw [hsl] at hnr hpr
                clear hr hsl
                generalize hz : RefC.sgn ((RefM.ofN (V.getD j (0, 0)).1 (V.getD j (0, 0)).2).1 * (RefM.ofN (V.getD (j + 1) (0, 0)).1 (V.getD (j + 1) (0, 0)).2).2 - (RefM.ofN (V.getD (j + 1) (0, 0)).1 (V.getD (j + 1) (0, 0)).2).1 * (RefM.ofN (V.getD j (0, 0)).1 (V.getD j (0, 0)).2).2) = z at hcm hnr hpr
                clear hz
                unfold iv at f1 f3
                unfold NM at hcm
                generalize V.getD (j + 1) (0, 0) = x1 at *
                generalize V.getD j (0, 0) = x0 at *
                have hj3 : (j : Int) + 1 - 1 = (j : Int) := by omega
                have hj4 : ((j : Int) + 1).toNat = j + 1 := by omega
                (first | refine go (cj rTI (cj @h1 (cj @k1 (cj @k7 @gb)))) ?_ | exact go0 (cj rTI (cj @h1 (cj @k1 (cj @k7 @gb)))))
                (try rw [then_normal]); (try refine aw_seq ?_); refine aw_cond rfl ?_ ?_ <;> intro hb <;> (try (cases hb; done)) <;> (try simp only [bq] at hb) <;> (try (exfalso; omega))
                refine aw_skip ?_
                (first | refine go rTI ?_ | exact go0 rTI)
                refine aw_drw (.take 0 (.take 1 (.take 2 (.take 3 (.take 4 (.take 5 (.take 6 (.take 7 (.take 8 (.take 9 (.take 10 (.one 11 (.take 12 (.take 13 (.take 14 (.take 15 (.take 16 (.done)))))))))))))))))) [s.nx] (by kernel_rfl) (by kernel_rfl) fun K hK => ?_; refine dr (cj rTI (cj @h1 (cj @k1 (cj @k7 (cj @gb (cj @f1 (cj @f2 (cj @f3 (cj @f4 (cj @hj3 @hj4)))))))))) ?_; refine cont_pure hcm ?_; refine dr (cj rTI (cj @h1 (cj @k1 (cj @k7 (cj @gb (cj @f1 (cj @f2 (cj @f3 (cj @f4 (cj @hj3 @hj4)))))))))) ?_; refine hK _ _ ?_; clear hK K
                by_cases c : z < 0
                · (first | refine go (cj rTI @h1) ?_ | exact go0 (cj rTI @h1))
                  (try rw [then_normal]); (try refine aw_seq ?_); refine aw_cond rfl ?_ ?_ <;> intro hb <;> (try (cases hb; done)) <;> (try simp only [bq] at hb) <;> (try (exfalso; omega))
                  have hp2 := hpr (decide_eq_true c)
                  (first | refine go (cj rTI (cj @h1 @k7)) ?_ | exact go0 (cj rTI (cj @h1 @k7)))
                  try simp only [block_normal, loop_normal]
                  refine ⟨V.length - (j + 1), by omega, j + 1, rfl, by omega, ?_, ?_, ?_, hp2, ?_⟩
                  all_goals ((first | refine rn (cj rTI (cj @h1 (cj @k1 @k7))) ?_ | exact rn0 (cj rTI (cj @h1 (cj @k1 @k7)))))
                  all_goals (first | rfl | trivial)
                · (first | refine go (cj rTI @h1) ?_ | exact go0 (cj rTI @h1))
                  (try rw [then_normal]); (try refine aw_seq ?_); refine aw_cond rfl ?_ ?_ <;> intro hb <;> (try (cases hb; done)) <;> (try simp only [bq] at hb) <;> (try (exfalso; omega))
                  rw [hnr (decide_eq_false c)]
                  (first | refine go (cj rTI @h1) ?_ | exact go0 (cj rTI @h1))
                  exact fr
              · have hR : risingN V = true := risingN_of V fun i hi => hr i (by omega) hi
                rw [hR]
                (first | refine go (cj rTI (cj @h1 (cj @k1 (cj @k7 @gb)))) ?_ | exact go0 (cj rTI (cj @h1 (cj @k1 (cj @k7 @gb)))))
                (try rw [then_normal]); (try refine aw_seq ?_); refine aw_cond rfl ?_ ?_ <;> intro hb <;> (try (cases hb; done)) <;> (try simp only [bq] at hb) <;> (try (exfalso; omega))
                (first | refine go (cj rTI @h1) ?_ | exact go0 (cj rTI @h1))
                exact fr
        · rw [if_neg q2]
          (first | refine go (cj rTI (cj @h1 (cj @k1 (cj @k19 @gb)))) ?_ | exact go0 (cj rTI (cj @h1 (cj @k1 (cj @k19 @gb)))))
          (try rw [then_normal]); (try refine aw_seq ?_); refine aw_cond rfl ?_ ?_ <;> intro hb <;> (try (cases hb; done)) <;> (try simp only [bq] at hb) <;> (try (exfalso; omega))
          (first | refine go (cj rTI (cj @h1 (cj @k1 @gb))) ?_ | exact go0 (cj rTI (cj @h1 (cj @k1 @gb))))
          (try rw [then_normal]); (try refine aw_seq ?_); refine aw_cond rfl ?_ ?_ <;> intro hb <;> (try (cases hb; done)) <;> (try simp only [bq] at hb) <;> (try (exfalso; omega))
          (first | refine go (cj rTI (cj @h1 (cj @k1 @gb))) ?_ | exact go0 (cj rTI (cj @h1 (cj @k1 @gb))))
          (try rw [then_normal]); (try refine aw_seq ?_); refine aw_cond rfl ?_ ?_ <;> intro hb <;> (try (cases hb; done)) <;> (try simp only [bq] at hb) <;> (try (exfalso; omega))
          (first | refine go (cj rTI @h1) ?_ | exact go0 (cj rTI @h1))
          exact fr
end Go.Proofs.YtfjelkjlfcafgaaGreatDoor.CardL
end
section
/- The document: the same texts, the same numbers, the same steps. (Made by gen_cardr.py.) -/
namespace Go.Proofs.YtfjelkjlfcafgaaGreatDoor.CardR
open Go Go.RowKit Go.Proofs.YtfjelkjlfcafgaaGreatDoor.Ax Go.Proofs.YtfjelkjlfcafgaaGreatDoor.Ti Go.Proofs.YtfjelkjlfcafgaaGreatDoor.NumS Go.Proofs.YtfjelkjlfcafgaaGreatDoor.NumT Go.Proofs.YtfjelkjlfcafgaaGreatDoor.CardS Go.Proofs.YtfjelkjlfcafgaaGreatDoor.CardP Go.Proofs.YtfjelkjlfcafgaaGreatDoor.CardA Go.Proofs.YtfjelkjlfcafgaaGreatDoor.CardB Go.Proofs.YtfjelkjlfcafgaaGreatDoor.CardC Go.Proofs.YtfjelkjlfcafgaaGreatDoor.CardD Go.Proofs.YtfjelkjlfcafgaaGreatDoor.CardE Go.Proofs.YtfjelkjlfcafgaaGreatDoor.CardG Go.Proofs.YtfjelkjlfcafgaaGreatDoor.CardH Go.Proofs.YtfjelkjlfcafgaaGreatDoor.CardI Go.Proofs.YtfjelkjlfcafgaaGreatDoor.CardL
open Go.Proofs.YtfjelkjlfcafgaaGreatDoor.NumA (NM)
set_option linter.unusedSimpArgs false
set_option linter.unusedVariables false
set_option maxRecDepth 4000
set_option maxHeartbeats 2000000
theorem rTI : type_of% (cj @ti3 (cj @ti4 (cj @ti9 (cj @ti5 (cj @ti2 (cj @ti36 (cj @ti63 (cj @ti62 (cj @ti24 (cj @ti65 (cj @ti82 (cj @ti67 (cj @Nat.zero_add (cj @tz0 (cj @tz1 (cj @tz3 (cj @Nat.mul_one @Int.toNat_natCast))))))))))))))))) := cj @ti3 (cj @ti4 (cj @ti9 (cj @ti5 (cj @ti2 (cj @ti36 (cj @ti63 (cj @ti62 (cj @ti24 (cj @ti65 (cj @ti82 (cj @ti67 (cj @Nat.zero_add (cj @tz0 (cj @tz1 (cj @tz3 (cj @Nat.mul_one @Int.toNat_natCast))))))))))))))))
theorem texts_ax (a b : List Str) (ga : BL a) (gb : BL b) (ha : a.length ≤ 9223372036854775807) (hb' : b.length ≤ 9223372036854775807) : PCall Tryz.prog 33 [TV a, TV b] (.v (.bool (decide (a = b)))) := by
  refine pcall_of fun s => ?_
  unfold TV
  by_cases hl : a.length = b.length
  · refine acall_of Tryz.func33 rfl rfl (by simp [Tryz.ntmps33]) ?_; rw [Tryz.ntmps33, Tryz.results33]
    (first | refine go (cj rTI @hl) ?_ | exact go0 (cj rTI @hl))
    (try rw [then_normal]); (try refine aw_seq ?_); refine aw_cond rfl ?_ ?_ <;> intro hb <;> (try (cases hb; done)) <;> (try simp only [bq] at hb) <;> (try (exfalso; omega))
    (first | refine go (cj rTI @hl) ?_ | exact go0 (cj rTI @hl))
    refine aw_loop (fun m e s' => ∃ k, m = b.length - k ∧ k ≤ b.length ∧ e.n = 26 ∧ e.m 0 = .sl b.length (SL a) ∧ e.m 1 = .sl b.length (SL b) ∧ e.m 5 = .v (.int .i64 (k : Nat)) ∧ a.take k = b.take k ∧ s' = s) b.length ?_ ?_
    · refine ⟨0, by omega, by omega, ?_⟩
      (repeat' refine And.intro ?_ ?_) <;> (first | done | exact rfl | (intro i hi; exact rn0 (cj rTI @hl); done) | (exact rn0 (cj rTI @hl); done) | skip)
    · rintro m e s' ⟨k, rfl, hk, h1, k0, k1, k5, ht, rfl⟩
      by_cases hk2 : k < b.length
      · have ha2 : k < a.length := by omega
        have f1 := hd_SL a k ha2
        have f2 := hd_SL b k hk2
        have f3 := str_ne (a.getD k []) (b.getD k []) (bl_at a ga k) (bl_at b gb k)
        unfold SV at f1 f2
        (first | refine go (cj rTI (cj @h1 (cj @k0 @k5))) ?_ | exact go0 (cj rTI (cj @h1 (cj @k0 @k5))))
        (try rw [then_normal]); (try refine aw_seq ?_); refine aw_cond rfl ?_ ?_ <;> intro hb <;> (try (cases hb; done)) <;> (try simp only [bq] at hb) <;> (try (exfalso; omega))
        refine aw_skip ?_
        (first | refine go rTI ?_ | exact go0 rTI)
        refine aw_drw (.take 0 (.take 1 (.take 2 (.take 3 (.take 4 (.take 5 (.take 6 (.take 7 (.take 8 (.done)))))))))) [] (by kernel_rfl) (by kernel_rfl) fun K hK => ?_; refine dr (cj rTI (cj @h1 (cj @k0 (cj @k1 (cj @k5 (cj @f1 (cj @f2 @f3))))))) ?_; refine hK _ _ ?_; clear hK K
        by_cases q : a.getD k [] = b.getD k []
        · have ht2 := take_eq hl ha2 ht q
          rw [decide_eq_true q]
          (try rw [then_normal]); (try refine aw_seq ?_); refine aw_cond rfl ?_ ?_ <;> intro hb <;> (try (cases hb; done)) <;> (try simp only [bq] at hb) <;> (try (exfalso; omega))
          (first | refine go (cj rTI (cj @h1 @k5)) ?_ | exact go0 (cj rTI (cj @h1 @k5)))
          simp only [block_normal, loop_normal]
          refine ⟨b.length - (k + 1), by omega, k + 1, rfl, by omega, ?_, ?_, ?_, ?_, ht2, trivial⟩
          all_goals ((first | refine rn (cj @h1 (cj @k0 (cj @k1 @k5))) ?_ | exact rn0 (cj @h1 (cj @k0 (cj @k1 @k5)))))
          all_goals rfl
        · rw [decide_eq_false (ne_at q)]
          rw [decide_eq_false q]
          (try rw [then_normal]); (try refine aw_seq ?_); refine aw_cond rfl ?_ ?_ <;> intro hb <;> (try (cases hb; done)) <;> (try simp only [bq] at hb) <;> (try (exfalso; omega))
          (first | refine go (cj rTI @h1) ?_ | exact go0 (cj rTI @h1))
      · obtain rfl : k = b.length := by omega
        rw [List.take_length, ← hl, List.take_length] at ht
        rw [decide_eq_true ht]
        (first | refine go (cj rTI (cj @h1 (cj @k0 @k5))) ?_ | exact go0 (cj rTI (cj @h1 (cj @k0 @k5))))
        (try rw [then_normal]); (try refine aw_seq ?_); refine aw_cond rfl ?_ ?_ <;> intro hb <;> (try (cases hb; done)) <;> (try simp only [bq] at hb) <;> (try (exfalso; omega))
        (first | refine go (cj rTI @h1) ?_ | exact go0 (cj rTI @h1))
  · rw [decide_eq_false fun h => hl (by rw [h])]
    have hl2 : ¬ ((a.length : Int) = (b.length : Int)) := by omega
    refine acall_of Tryz.func33 rfl rfl (by simp [Tryz.ntmps33]) ?_; rw [Tryz.ntmps33, Tryz.results33]
    (first | refine go rTI ?_ | exact go0 rTI)
    (try rw [then_normal]); (try refine aw_seq ?_); refine aw_cond rfl ?_ ?_ <;> intro hb <;> (try (cases hb; done)) <;> (try simp only [bq] at hb) <;> (try (exfalso; omega))
    (first | refine go rTI ?_ | exact go0 rTI)
theorem sameN_ax (a b : List Num) (ha : a.length ≤ 9223372036854775807) (hb' : b.length ≤ 9223372036854775807) : PCall Tryz.prog 99 [NV a, NV b] (.v (.bool (decide (a = b)))) := by
  refine pcall_of fun s => ?_
  unfold NV
  by_cases hl : a.length = b.length
  · refine acall_of Tryz.func99 rfl rfl (by simp [Tryz.ntmps99]) ?_; rw [Tryz.ntmps99, Tryz.results99]
    (first | refine go (cj rTI @hl) ?_ | exact go0 (cj rTI @hl))
    (try rw [then_normal]); (try refine aw_seq ?_); refine aw_cond rfl ?_ ?_ <;> intro hb <;> (try (cases hb; done)) <;> (try simp only [bq] at hb) <;> (try (exfalso; omega))
    (first | refine go (cj rTI @hl) ?_ | exact go0 (cj rTI @hl))
    refine aw_loop (fun m e s' => ∃ k, m = b.length - k ∧ k ≤ b.length ∧ e.n = 26 ∧ e.m 0 = .sl b.length (NC a) ∧ e.m 1 = .sl b.length (NC b) ∧ e.m 5 = .v (.int .i64 (k : Nat)) ∧ a.take k = b.take k ∧ s' = s) b.length ?_ ?_
    · refine ⟨0, by omega, by omega, ?_⟩
      (repeat' refine And.intro ?_ ?_) <;> (first | done | exact rfl | (intro i hi; exact rn0 (cj rTI @hl); done) | (exact rn0 (cj rTI @hl); done) | skip)
    · rintro m e s' ⟨k, rfl, hk, h1, k0, k1, k5, ht, rfl⟩
      by_cases hk2 : k < b.length
      · have ha2 : k < a.length := by omega
        have f1 := nc_at a k ha2
        have f2 := nc_at b k hk2
        have f3 : 2 ≤ ((NC a).drop (k * 2)).length := by rw [List.length_drop, nc_len]; omega
        have f4 : 2 ≤ ((NC b).drop (k * 2)).length := by rw [List.length_drop, nc_len]; omega
        unfold iv at f1 f2
        have f5 : eqOk Tryz.prog 24 = true := by kernel_rfl
        have f6 : ((a.getD k (0, 0)).1 == (b.getD k (0, 0)).1 && (a.getD k (0, 0)).2 == (b.getD k (0, 0)).2) = decide (a.getD k (0, 0) = b.getD k (0, 0)) := by rw [Bool.eq_iff_iff, decide_eq_true_eq, Prod.ext_iff]; simp
        (first | refine go (cj rTI (cj @h1 (cj @k0 @k5))) ?_ | exact go0 (cj rTI (cj @h1 (cj @k0 @k5))))
        (try rw [then_normal]); (try refine aw_seq ?_); refine aw_cond rfl ?_ ?_ <;> intro hb <;> (try (cases hb; done)) <;> (try simp only [bq] at hb) <;> (try (exfalso; omega))
        refine aw_skip ?_
        (first | refine go rTI ?_ | exact go0 rTI)
        refine aw_drw (.take 0 (.take 1 (.take 2 (.take 3 (.take 4 (.take 5 (.take 6 (.take 7 (.take 8 (.done)))))))))) [] (by kernel_rfl) (by kernel_rfl) fun K hK => ?_; refine dr (cj rTI (cj @h1 (cj @k0 (cj @k1 (cj @k5 (cj @f1 (cj @f2 (cj @f3 (cj @f4 (cj @f5 @f6)))))))))) ?_; refine hK _ _ ?_; clear hK K
        by_cases q : a.getD k (0, 0) = b.getD k (0, 0)
        · have ht2 := take_eq hl ha2 ht q
          rw [decide_eq_true q]
          (try rw [then_normal]); (try refine aw_seq ?_); refine aw_cond rfl ?_ ?_ <;> intro hb <;> (try (cases hb; done)) <;> (try simp only [bq] at hb) <;> (try (exfalso; omega))
          (first | refine go (cj rTI (cj @h1 @k5)) ?_ | exact go0 (cj rTI (cj @h1 @k5)))
          simp only [block_normal, loop_normal]
          refine ⟨b.length - (k + 1), by omega, k + 1, rfl, by omega, ?_, ?_, ?_, ?_, ht2, trivial⟩
          all_goals ((first | refine rn (cj @h1 (cj @k0 (cj @k1 @k5))) ?_ | exact rn0 (cj @h1 (cj @k0 (cj @k1 @k5)))))
          all_goals rfl
        · rw [decide_eq_false (ne_at q)]
          rw [decide_eq_false q]
          (try rw [then_normal]); (try refine aw_seq ?_); refine aw_cond rfl ?_ ?_ <;> intro hb <;> (try (cases hb; done)) <;> (try simp only [bq] at hb) <;> (try (exfalso; omega))
          (first | refine go (cj rTI @h1) ?_ | exact go0 (cj rTI @h1))
      · obtain rfl : k = b.length := by omega
        rw [List.take_length, ← hl, List.take_length] at ht
        rw [decide_eq_true ht]
        (first | refine go (cj rTI (cj @h1 (cj @k0 @k5))) ?_ | exact go0 (cj rTI (cj @h1 (cj @k0 @k5))))
        (try rw [then_normal]); (try refine aw_seq ?_); refine aw_cond rfl ?_ ?_ <;> intro hb <;> (try (cases hb; done)) <;> (try simp only [bq] at hb) <;> (try (exfalso; omega))
        (first | refine go (cj rTI @h1) ?_ | exact go0 (cj rTI @h1))
  · rw [decide_eq_false fun h => hl (by rw [h])]
    have hl2 : ¬ ((a.length : Int) = (b.length : Int)) := by omega
    refine acall_of Tryz.func99 rfl rfl (by simp [Tryz.ntmps99]) ?_; rw [Tryz.ntmps99, Tryz.results99]
    (first | refine go rTI ?_ | exact go0 rTI)
    (try rw [then_normal]); (try refine aw_seq ?_); refine aw_cond rfl ?_ ?_ <;> intro hb <;> (try (cases hb; done)) <;> (try simp only [bq] at hb) <;> (try (exfalso; omega))
    (first | refine go rTI ?_ | exact go0 rTI)
/-- The same wave. -/
def sameV (a b : Wv) : Bool := decide (a.kind = b.kind) && (decide (a.steps = b.steps) && decide (a.vals = b.vals))
theorem sameV_ax (a b : Wv) (h1 : a.vals.length ≤ 9223372036854775807) (h2 : a.steps.length ≤ 9223372036854775807) (h3 : b.vals.length ≤ 9223372036854775807) (h4 : b.steps.length ≤ 9223372036854775807) :
    PCall Tryz.prog 97 [WA a, WA b] (.v (.bool (sameV a b))) := by
  refine pcall_of fun s => ?_
  have hv := sameN_ax a.vals b.vals h1 h3
  unfold sameV
  obtain ⟨ka, va, sa⟩ := a
  obtain ⟨kb, vb, sb⟩ := b
  simp only at h1 h2 h3 h4 hv ⊢
  unfold WA NV IV iv at *
  simp only
  by_cases q1 : ka = kb
  · rw [decide_eq_true q1, Bool.true_and]
    by_cases q2 : sa.length = sb.length
    · refine acall_of Tryz.func97 rfl rfl (by simp [Tryz.ntmps97]) ?_; rw [Tryz.ntmps97, Tryz.results97]
      (first | refine go (cj rTI (cj @q1 @q2)) ?_ | exact go0 (cj rTI (cj @q1 @q2)))
      (try rw [then_normal]); (try refine aw_seq ?_); refine aw_cond rfl ?_ ?_ <;> intro hb <;> (try (cases hb; done)) <;> (try simp only [bq] at hb) <;> (try (exfalso; omega))
      (first | refine go (cj rTI @q2) ?_ | exact go0 (cj rTI @q2))
      have g1 : ((s.push [.v (.int .i64 kb), .sl va.length (NC va), .sl sb.length (IL sa)]).push [.v (.int .i64 kb), .sl vb.length (NC vb), .sl sb.length (IL sb)]).get s.nx = some [.v (.int .i64 kb), .sl va.length (NC va), .sl sb.length (IL sa)] := by
        rw [St.push_ne (s.push _) _ _ (show s.nx ≠ s.nx + 1 by omega)]
        exact St.push_same _ _
      have g2 : ((s.push [.v (.int .i64 kb), .sl va.length (NC va), .sl sb.length (IL sa)]).push [.v (.int .i64 kb), .sl vb.length (NC vb), .sl sb.length (IL sb)]).get (s.nx + 1) = some [.v (.int .i64 kb), .sl vb.length (NC vb), .sl sb.length (IL sb)] := St.push_same (s.push _) _
      have fr : ∀ i, i < s.nx → ((s.push [.v (.int .i64 kb), .sl va.length (NC va), .sl sb.length (IL sa)]).push [.v (.int .i64 kb), .sl vb.length (NC vb), .sl sb.length (IL sb)]).get i = s.get i := fun i hi => by
        rw [St.push_ne (s.push _) _ _ (show i ≠ s.nx + 1 by omega), St.push_ne s _ _ (by omega)]
      generalize (s.push [.v (.int .i64 kb), .sl va.length (NC va), .sl sb.length (IL sa)]).push [.v (.int .i64 kb), .sl vb.length (NC vb), .sl sb.length (IL sb)] = s1 at *
      refine aw_loop (fun m e s' => ∃ k, m = sb.length - k ∧ k ≤ sb.length ∧ e.n = 43 ∧ e.m 2 = .ptr s.nx 0 ∧ e.m 3 = .ptr (s.nx + 1) 0 ∧ e.m 5 = .v (.int .i64 (k : Nat)) ∧ sa.take k = sb.take k ∧ s' = s1) sb.length ?_ ?_
      · refine ⟨0, by omega, by omega, ?_, ?_, ?_, ?_, rfl, rfl⟩
        all_goals ((first | refine rn rTI ?_ | exact rn0 rTI))
        all_goals (first | rfl | trivial)
      · rintro m e s' ⟨k, rfl, hk, h1, k2, k3, k5, ht, rfl⟩
        by_cases hk2 : k < sb.length
        · have ha2 : k < sa.length := by omega
          have f1 := hd_IL sa k ha2
          have f2 := hd_IL sb k hk2
          unfold iv at f1 f2
          (first | refine go (cj rTI (cj @h1 (cj @k2 (cj @k5 @g1)))) ?_ | exact go0 (cj rTI (cj @h1 (cj @k2 (cj @k5 @g1)))))
          (try rw [then_normal]); (try refine aw_seq ?_); refine aw_cond rfl ?_ ?_ <;> intro hb <;> (try (cases hb; done)) <;> (try simp only [bq] at hb) <;> (try (exfalso; omega))
          refine aw_skip ?_
          (first | refine go rTI ?_ | exact go0 rTI)
          refine aw_drw (.take 0 (.take 1 (.take 2 (.take 3 (.take 4 (.take 5 (.take 6 (.take 7 (.take 8 (.take 9 (.take 10 (.done)))))))))))) [s.nx, s.nx + 1] (by kernel_rfl) (by kernel_rfl) fun K hK => ?_; refine dr (cj rTI (cj @h1 (cj @k2 (cj @k3 (cj @k5 (cj @g1 (cj @g2 (cj @f1 @f2)))))))) ?_; refine hK _ _ ?_; clear hK K
          by_cases q : sa.getD k 0 = sb.getD k 0
          · have ht2 := take_eq q2 ha2 ht q
            (try rw [then_normal]); (try refine aw_seq ?_); refine aw_cond rfl ?_ ?_ <;> intro hb <;> (try (cases hb; done)) <;> (try simp only [bq] at hb) <;> (try (exfalso; omega))
            (first | refine go (cj rTI (cj @h1 @k5)) ?_ | exact go0 (cj rTI (cj @h1 @k5)))
            simp only [block_normal, loop_normal]
            refine ⟨sb.length - (k + 1), by omega, k + 1, rfl, by omega, ?_, ?_, ?_, ?_, ht2, trivial⟩
            all_goals ((first | refine rn (cj @h1 (cj @k2 (cj @k3 @k5))) ?_ | exact rn0 (cj @h1 (cj @k2 (cj @k3 @k5)))))
            all_goals rfl
          · rw [decide_eq_false (ne_at q), Bool.false_and]
            (try rw [then_normal]); (try refine aw_seq ?_); refine aw_cond rfl ?_ ?_ <;> intro hb <;> (try (cases hb; done)) <;> (try simp only [bq] at hb) <;> (try (exfalso; omega))
            (first | refine go (cj rTI @h1) ?_ | exact go0 (cj rTI @h1))
            exact fr
        · obtain rfl : k = sb.length := by omega
          rw [List.take_length, ← q2, List.take_length] at ht
          rw [decide_eq_true ht, Bool.true_and]
          (first | refine go (cj rTI (cj @h1 (cj @k2 (cj @k5 @g1)))) ?_ | exact go0 (cj rTI (cj @h1 (cj @k2 (cj @k5 @g1)))))
          (try rw [then_normal]); (try refine aw_seq ?_); refine aw_cond rfl ?_ ?_ <;> intro hb <;> (try (cases hb; done)) <;> (try simp only [bq] at hb) <;> (try (exfalso; omega))
          (first | refine go (cj rTI (cj @h1 (cj @k2 (cj @k3 (cj @g1 @g2))))) ?_ | exact go0 (cj rTI (cj @h1 (cj @k2 (cj @k3 (cj @g1 @g2))))))
          refine aw_reg fun K hK => ?_; refine rn (cj rTI (cj @h1 (cj @k2 (cj @k3 (cj @g1 @g2))))) ?_; refine cont_pure hv ?_; refine rn (cj rTI (cj @h1 (cj @k2 (cj @k3 (cj @g1 @g2))))) ?_; refine hK _ _ ?_; clear hK K
          (first | refine go (cj rTI @h1) ?_ | exact go0 (cj rTI @h1))
          exact fr
    · have q3 : ¬ (sa.length : Int) = (sb.length : Int) := by omega
      rw [decide_eq_false (show ¬ sa = sb from fun h => q2 (by rw [h])), Bool.false_and]
      refine acall_of Tryz.func97 rfl rfl (by simp [Tryz.ntmps97]) ?_; rw [Tryz.ntmps97, Tryz.results97]
      (first | refine go (cj rTI (cj @q1 @q3)) ?_ | exact go0 (cj rTI (cj @q1 @q3)))
      (try rw [then_normal]); (try refine aw_seq ?_); refine aw_cond rfl ?_ ?_ <;> intro hb <;> (try (cases hb; done)) <;> (try simp only [bq] at hb) <;> (try (exfalso; omega))
      (first | refine go rTI ?_ | exact go0 rTI)
      exact fun i hi => by rw [if_neg (by omega), if_neg (by omega)]
  · rw [decide_eq_false q1, Bool.false_and]
    refine acall_of Tryz.func97 rfl rfl (by simp [Tryz.ntmps97]) ?_; rw [Tryz.ntmps97, Tryz.results97]
    (first | refine go (cj rTI @q1) ?_ | exact go0 (cj rTI @q1))
    (try rw [then_normal]); (try refine aw_seq ?_); refine aw_cond rfl ?_ ?_ <;> intro hb <;> (try (cases hb; done)) <;> (try simp only [bq] at hb) <;> (try (exfalso; omega))
    (first | refine go rTI ?_ | exact go0 rTI)
    exact fun i hi => by rw [if_neg (by omega), if_neg (by omega)]
/-- The same card. -/
def sameC (a b : Crd) : Bool := decide (a.name = b.name) && (decide (a.nodes = b.nodes) && (decide (a.ref = b.ref) && (decide (a.value = b.value) && sameV a.wave b.wave)))
/-- A card's cells lie in bounds. -/
structure CB (c : Crd) : Prop where
  n : By c.name
  d : BL c.nodes ∧ c.nodes.length ≤ 9223372036854775807
  r : By c.ref
  v : c.wave.vals.length ≤ 9223372036854775807
  t : c.wave.steps.length ≤ 9223372036854775807
theorem sameC_ax (a b : Crd) (ha : CB a) (hb : CB b) : PCall Tryz.prog 41 [CA a, CA b] (.v (.bool (sameC a b))) := by
  refine pcall_of fun s => ?_
  have e1 := str_eq a.name b.name ha.n hb.n
  have e2 := texts_ax a.nodes b.nodes ha.d.1 hb.d.1 ha.d.2 hb.d.2
  have e3 := str_eq a.ref b.ref ha.r hb.r
  have e5 := sameV_ax a.wave b.wave ha.v ha.t hb.v hb.t
  have f5 : eqOk Tryz.prog 24 = true := by kernel_rfl
  have f6 : (a.value.1 == b.value.1 && a.value.2 == b.value.2) = decide (a.value = b.value) := by rw [Bool.eq_iff_iff, decide_eq_true_eq, Prod.ext_iff]; simp
  unfold sameC
  unfold CA WA SV TV NV IV iv at *
  generalize sameV a.wave b.wave = x5 at *
  by_cases q1 : a.name = b.name
  · rw [decide_eq_true q1] at e1
    rw [decide_eq_true q1, Bool.true_and]
    by_cases q2 : a.nodes = b.nodes
    · rw [decide_eq_true q2] at e2
      rw [decide_eq_true q2, Bool.true_and]
      by_cases q3 : a.ref = b.ref
      · rw [decide_eq_true q3] at e3
        rw [decide_eq_true q3, Bool.true_and]
        by_cases q4 : a.value = b.value
        · rw [decide_eq_true q4] at f6
          rw [decide_eq_true q4, Bool.true_and]
          refine acall_of Tryz.func41 rfl rfl (by simp [Tryz.ntmps41]) ?_; rw [Tryz.ntmps41, Tryz.results41]
          (first | refine go rTI ?_ | exact go0 rTI)
          refine aw_reg fun K hK => ?_; refine rn (cj rTI @e1) ?_; refine cont_pure e2 ?_; (first | refine rn (cj rTI (cj @e1 (cj @e3 (cj @f5 @f6)))) ?_ | exact rn0 (cj rTI (cj @e1 (cj @e3 (cj @f5 @f6))))); refine cont_pure e5 ?_; refine rn (cj rTI @e1) ?_; refine hK _ _ ?_; clear hK K
          (first | refine go rTI ?_ | exact go0 rTI)
          exact fun i hi => by rw [if_neg (by omega), if_neg (by omega)]
        · rw [decide_eq_false q4] at f6
          rw [decide_eq_false q4, Bool.false_and]
          refine acall_of Tryz.func41 rfl rfl (by simp [Tryz.ntmps41]) ?_; rw [Tryz.ntmps41, Tryz.results41]
          (first | refine go rTI ?_ | exact go0 rTI)
          refine aw_reg fun K hK => ?_; refine rn (cj rTI (cj @e1 (cj @e3 (cj @f5 @f6)))) ?_; refine cont_pure e2 ?_; refine rn (cj rTI (cj @e1 (cj @e3 (cj @f5 @f6)))) ?_; refine hK _ _ ?_; clear hK K
          (first | refine go rTI ?_ | exact go0 rTI)
          exact fun i hi => by rw [if_neg (by omega), if_neg (by omega)]
      · rw [decide_eq_false q3] at e3
        rw [decide_eq_false q3, Bool.false_and]
        refine acall_of Tryz.func41 rfl rfl (by simp [Tryz.ntmps41]) ?_; rw [Tryz.ntmps41, Tryz.results41]
        (first | refine go rTI ?_ | exact go0 rTI)
        refine aw_reg fun K hK => ?_; refine rn (cj rTI (cj @e1 @e3)) ?_; refine cont_pure e2 ?_; refine rn (cj rTI (cj @e1 @e3)) ?_; refine hK _ _ ?_; clear hK K
        (first | refine go rTI ?_ | exact go0 rTI)
        exact fun i hi => by rw [if_neg (by omega), if_neg (by omega)]
    · rw [decide_eq_false q2] at e2
      rw [decide_eq_false q2, Bool.false_and]
      refine acall_of Tryz.func41 rfl rfl (by simp [Tryz.ntmps41]) ?_; rw [Tryz.ntmps41, Tryz.results41]
      (first | refine go rTI ?_ | exact go0 rTI)
      refine aw_reg fun K hK => ?_; refine rn (cj rTI @e1) ?_; refine cont_pure e2 ?_; refine rn (cj rTI @e1) ?_; refine hK _ _ ?_; clear hK K
      (first | refine go rTI ?_ | exact go0 rTI)
      exact fun i hi => by rw [if_neg (by omega), if_neg (by omega)]
  · rw [decide_eq_false q1] at e1
    rw [decide_eq_false q1, Bool.false_and]
    refine acall_of Tryz.func41 rfl rfl (by simp [Tryz.ntmps41]) ?_; rw [Tryz.ntmps41, Tryz.results41]
    (first | refine go (cj rTI @e1) ?_ | exact go0 (cj rTI @e1))
    exact fun i hi => by rw [if_neg (by omega), if_neg (by omega)]
end Go.Proofs.YtfjelkjlfcafgaaGreatDoor.CardR
end
section
/- Models: ReadModel. -/
namespace Go.Proofs.YtfjelkjlfcafgaaGreatDoor.CardN
open Go Go.RowKit Go.Proofs.YtfjelkjlfcafgaaGreatDoor.Ax Go.Proofs.YtfjelkjlfcafgaaGreatDoor.Ti Go.Proofs.YtfjelkjlfcafgaaGreatDoor.NumS Go.Proofs.YtfjelkjlfcafgaaGreatDoor.NumT Go.Proofs.YtfjelkjlfcafgaaGreatDoor.CardS Go.Proofs.YtfjelkjlfcafgaaGreatDoor.CardP Go.Proofs.YtfjelkjlfcafgaaGreatDoor.CardA Go.Proofs.YtfjelkjlfcafgaaGreatDoor.CardB Go.Proofs.YtfjelkjlfcafgaaGreatDoor.CardC Go.Proofs.YtfjelkjlfcafgaaGreatDoor.CardD Go.Proofs.YtfjelkjlfcafgaaGreatDoor.CardE Go.Proofs.YtfjelkjlfcafgaaGreatDoor.CardF Go.Proofs.YtfjelkjlfcafgaaGreatDoor.CardG Go.Proofs.YtfjelkjlfcafgaaGreatDoor.CardH Go.Proofs.YtfjelkjlfcafgaaGreatDoor.CardI Go.Proofs.YtfjelkjlfcafgaaGreatDoor.CardJ Go.Proofs.YtfjelkjlfcafgaaGreatDoor.CardK Go.Proofs.YtfjelkjlfcafgaaGreatDoor.CardL
open Go.Proofs.YtfjelkjlfcafgaaGreatDoor.NumA (NM)
set_option linter.unusedSimpArgs false
set_option linter.unusedVariables false
set_option maxRecDepth 4000
set_option maxHeartbeats 2000000
theorem rTI : type_of% (cj @ti3 (cj @ti4 (cj @ti9 (cj @ti5 (cj @ti2 (cj @ti36 (cj @ti63 (cj @ti62 (cj @ti24 (cj @ti82 (cj @ti25 (cj @ti144 (cj @ti146 (cj @Nat.zero_add (cj @tz0 (cj @tz1 (cj @tz3 (cj @Nat.mul_one @Int.toNat_natCast)))))))))))))))))) := cj @ti3 (cj @ti4 (cj @ti9 (cj @ti5 (cj @ti2 (cj @ti36 (cj @ti63 (cj @ti62 (cj @ti24 (cj @ti82 (cj @ti25 (cj @ti144 (cj @ti146 (cj @Nat.zero_add (cj @tz0 (cj @tz1 (cj @tz3 (cj @Nat.mul_one @Int.toNat_natCast)))))))))))))))))
def RB (p : Mdl × Int) : AV := .tp [MA p.1, iv p.2]
theorem ma_idf (m : Mdl) : idf (MA m) = true := by
  show (true && (true && (idf.idfL (NC m.g) && (idf.idfL (NC m.v) && true)))) = true
  rw [nc_idf, nc_idf]
  rfl
theorem rb_idf (p : Mdl × Int) : idf (RB p) = true := by
  show (idf (MA p.1) && (true && true)) = true
  rw [ma_idf]
  rfl
def mz : List AV := [.v (.string ByteArray.empty), .v (.int .u8 0), nilS, nilS]
theorem rb_err (e : Int) : Le (.tp [.ag mz, .v (.int .i64 e)]) (RB (mdl0, e)) := by
  refine Le.tp rfl fun j x y hx hy => ?_
  match j with
  | 0 =>
    simp at hx hy; subst hx hy
    refine Le.ag rfl fun j x y hx hy => ?_
    match j with
    | 0 => simp [mz] at hx hy; subst hx hy; exact Le.refl _
    | 1 => simp [mz] at hx hy; subst hx hy; exact Le.refl _
    | 2 => simp [mz, nilS] at hx hy; subst hx hy; exact Le.nil 0 0 rfl
    | 3 => simp [mz, nilS] at hx hy; subst hx hy; exact Le.nil 0 0 rfl
    | j + 4 => simp [mz] at hx
  | 1 => simp at hx hy; subst hx hy; exact Le.refl _
  | j + 2 => simp at hx
theorem odds_cons : ∀ (x : Str) (q : List Str), q.length % 2 = 0 → evens (x :: q) = x :: odds q ∧ odds (x :: q) = evens q
  | x, [], _ => ⟨rfl, rfl⟩
  | x, [_], h => by simp at h
  | x, v :: g :: t, h => by
    obtain ⟨h1, h2⟩ := odds_cons g t (by simp only [List.length_cons] at h; omega)
    constructor
    · show x :: evens (g :: t) = x :: g :: odds t
      rw [h1]
    · show v :: odds (g :: t) = v :: evens t
      rw [h2]
/-- The reader and a model under way. -/
structure MI (s s' : St) (id bm iG iV : Nat) (nm : Str) (kd : Int) (G V : List Num) (ws : List Str) (e : Int) : Prop where
  r : s'.get id = some (rdr ws e)
  b : s'.get bm = some [SV nm, .v (.int .u8 kd), .own iG 0 G.length 2, .own iV 0 V.length 2]
  g : s'.get iG = some (NC G)
  v : s'.get iV = some (NC V)
  z : s'.get s.nx = some mz
  o : s.nx < bm ∧ s.nx < id ∧ s.nx < iG ∧ s.nx < iV ∧ bm < s'.nx ∧ id < s'.nx ∧ iG < s'.nx ∧ iV < s'.nx ∧ bm ≠ id ∧ bm ≠ iG ∧ bm ≠ iV ∧ id ≠ iG ∧ id ≠ iV ∧ iG ≠ iV
  fr : ∀ k, k < s.nx → s'.get k = s.get k
theorem nc_app (V : List Num) (n : Num) : NC (V ++ [n]) = NC V ++ [iv n.1, iv n.2] := by simp [NC]
theorem MI.gg {s s' : St} {id bm iG iV : Nat} {nm : Str} {kd : Int} {G V : List Num} {ws : List Str} {e : Int} (h : MI s s' id bm iG iV nm kd G V ws e) (n : Num) (ws2 : List Str) (e2 : Int) :
    MI s (((((s'.set id (rdr ws2 e2)).push [iv n.1, iv n.2]).kill iG).push (NC G ++ [iv n.1, iv n.2])).set bm [SV nm, .v (.int .u8 kd), .own (s'.nx + 1) 0 (G.length + 1) 2, .own iV 0 V.length 2]) id bm (s'.nx + 1) iV nm kd (G ++ [n]) V ws2 e2 := by
  obtain ⟨o1, o2, o3, o4, o5, o6, o7, o8, o9, o10, o11, o12, o13, o14⟩ := h.o
  have hn : (((((s'.set id (rdr ws2 e2)).push [iv n.1, iv n.2]).kill iG).push (NC G ++ [iv n.1, iv n.2])).set bm [SV nm, .v (.int .u8 kd), .own (s'.nx + 1) 0 (G.length + 1) 2, .own iV 0 V.length 2]).nx = s'.nx + 2 := rfl
  have hg : ∀ k c, k ≠ bm → k ≠ s'.nx + 1 → k ≠ iG → k ≠ s'.nx → k ≠ id → s'.get k = c → (((((s'.set id (rdr ws2 e2)).push [iv n.1, iv n.2]).kill iG).push (NC G ++ [iv n.1, iv n.2])).set bm [SV nm, .v (.int .u8 kd), .own (s'.nx + 1) 0 (G.length + 1) 2, .own iV 0 V.length 2]).get k = c := fun k c h1 h2 h3 h4 h5 h6 => by
    rw [St.set_ne _ _ _ _ h1, St.push_ne _ _ _ h2, St.kill_ne _ _ _ h3, St.push_ne (s'.set id _) _ _ h4, St.set_ne _ _ _ _ h5]
    exact h6
  refine ⟨?_, ?_, ?_, hg _ _ (by omega) (by omega) (by omega) (by omega) (by omega) h.v, hg _ _ (by omega) (by omega) (by omega) (by omega) (by omega) h.z, ⟨o1, o2, by omega, o4, by omega, by omega, by omega, by omega, o9, by omega, o11, by omega, o13, by omega⟩, fun k h1 => hg _ _ (by omega) (by omega) (by omega) (by omega) (by omega) (h.fr k h1)⟩
  · rw [St.set_ne _ _ _ _ (by omega), St.push_ne _ _ _ (show id ≠ s'.nx + 1 by omega), St.kill_ne _ _ _ (by omega), St.push_ne (s'.set id _) _ _ (show id ≠ s'.nx by omega)]
    exact St.set_same _ _ _
  · rw [St.set_same, List.length_append]
    rfl
  · rw [St.set_ne _ _ _ _ (by omega), nc_app]
    exact St.push_same _ _
theorem MI.vv {s s' : St} {id bm iG iV : Nat} {nm : Str} {kd : Int} {G V : List Num} {ws : List Str} {e : Int} (h : MI s s' id bm iG iV nm kd G V ws e) (n : Num) (ws2 : List Str) (e2 : Int) :
    MI s (((((s'.set id (rdr ws2 e2)).push [iv n.1, iv n.2]).kill iV).push (NC V ++ [iv n.1, iv n.2])).set bm [SV nm, .v (.int .u8 kd), .own iG 0 G.length 2, .own (s'.nx + 1) 0 (V.length + 1) 2]) id bm iG (s'.nx + 1) nm kd G (V ++ [n]) ws2 e2 := by
  obtain ⟨o1, o2, o3, o4, o5, o6, o7, o8, o9, o10, o11, o12, o13, o14⟩ := h.o
  have hn : (((((s'.set id (rdr ws2 e2)).push [iv n.1, iv n.2]).kill iV).push (NC V ++ [iv n.1, iv n.2])).set bm [SV nm, .v (.int .u8 kd), .own iG 0 G.length 2, .own (s'.nx + 1) 0 (V.length + 1) 2]).nx = s'.nx + 2 := rfl
  have hg : ∀ k c, k ≠ bm → k ≠ s'.nx + 1 → k ≠ iV → k ≠ s'.nx → k ≠ id → s'.get k = c → (((((s'.set id (rdr ws2 e2)).push [iv n.1, iv n.2]).kill iV).push (NC V ++ [iv n.1, iv n.2])).set bm [SV nm, .v (.int .u8 kd), .own iG 0 G.length 2, .own (s'.nx + 1) 0 (V.length + 1) 2]).get k = c := fun k c h1 h2 h3 h4 h5 h6 => by
    rw [St.set_ne _ _ _ _ h1, St.push_ne _ _ _ h2, St.kill_ne _ _ _ h3, St.push_ne (s'.set id _) _ _ h4, St.set_ne _ _ _ _ h5]
    exact h6
  refine ⟨?_, ?_, hg _ _ (by omega) (by omega) (by omega) (by omega) (by omega) h.g, ?_, hg _ _ (by omega) (by omega) (by omega) (by omega) (by omega) h.z, ⟨o1, o2, o3, by omega, by omega, by omega, by omega, by omega, o9, o10, by omega, o12, by omega, by omega⟩, fun k h1 => hg _ _ (by omega) (by omega) (by omega) (by omega) (by omega) (h.fr k h1)⟩
  · rw [St.set_ne _ _ _ _ (by omega), St.push_ne _ _ _ (show id ≠ s'.nx + 1 by omega), St.kill_ne _ _ _ (by omega), St.push_ne (s'.set id _) _ _ (show id ≠ s'.nx by omega)]
    exact St.set_same _ _ _
  · rw [St.set_same, List.length_append]
    rfl
  · rw [St.set_ne _ _ _ _ (by omega), nc_app]
    exact St.push_same _ _
theorem MI.init (s : St) (nm : Str) (kd : Int) (D : List Str) (s1 s2 s3 : St) (h1 : s1 = (((s.push mz).push mz).set (s.nx + 1) [SV nm, .v (.int .u8 kd), nilS, nilS]).push (rdr D 0))
    (h2 : s2 = (s1.push []).set (s.nx + 1) ([SV nm, .v (.int .u8 kd), nilS, nilS].set 2 (.own s1.nx 0 0 2))) (h3 : s3 = (s2.push []).set (s.nx + 1) (([SV nm, .v (.int .u8 kd), nilS, nilS].set 2 (.own s1.nx 0 0 2)).set 3 (.own s2.nx 0 0 2))) :
    MI s s3 (s.nx + 2) (s.nx + 1) (s.nx + 3) (s.nx + 4) nm kd [] [] D 0 := by
  have n1 : s1.nx = s.nx + 3 := by rw [h1]; rfl
  have n2 : s2.nx = s.nx + 4 := by rw [h2]; show s1.nx + 1 = _; omega
  have n3 : s3.nx = s.nx + 5 := by rw [h3]; show s2.nx + 1 = _; omega
  have hg : ∀ k c, k ≠ s.nx + 1 → k ≠ s.nx + 3 → k ≠ s.nx + 4 → s1.get k = c → s3.get k = c := fun k c q1 q2 q3 q4 => by
    rw [h3, St.set_ne _ _ _ _ q1, St.push_ne s2 _ _ (by omega), h2, St.set_ne _ _ _ _ q1, St.push_ne s1 _ _ (by omega)]
    exact q4
  have hg1 : ∀ k c, k ≠ s.nx + 1 → k ≠ s.nx + 2 → (s.push mz).get k = c → s1.get k = c := fun k c q1 q2 q3 => by
    rw [h1, St.push_ne (((s.push mz).push mz).set _ _) _ _ (show k ≠ s.nx + 2 from q2), St.set_ne _ _ _ _ q1, St.push_ne (s.push mz) _ _ (show k ≠ s.nx + 1 from q1)]
    exact q3
  refine ⟨hg _ _ (by omega) (by omega) (by omega) ?_, ?_, ?_, ?_, hg _ _ (by omega) (by omega) (by omega) (hg1 _ _ (by omega) (by omega) (St.push_same s mz)), ⟨by omega, by omega, by omega, by omega, by omega, by omega, by omega, by omega, by omega, by omega, by omega, by omega, by omega, by omega⟩, fun k hk => hg _ _ (by omega) (by omega) (by omega) (hg1 _ _ (by omega) (by omega) (St.push_ne s _ _ (by omega)))⟩
  · rw [h1]
    exact St.push_same (((s.push mz).push mz).set _ _) _
  · rw [h3, St.set_same, n1, n2]
    rfl
  · rw [h3, St.set_ne _ _ _ _ (by omega), St.push_ne s2 _ _ (by omega), h2, St.set_ne _ _ _ _ (by omega)]
    have := St.push_same s1 []
    rw [n1] at this
    exact this
  · rw [h3, St.set_ne _ _ _ _ (by omega)]
    have := St.push_same s2 []
    rw [n2] at this
    exact this
/-- The two rows under way are laid down. -/
theorem MI.lay {P : Program} {code : Code} {m0 : Nat} {e : Env} {Q : Exit → Env → St → Prop} {s s' : St} {id bm iG iV : Nat} {nm : Str} {kd : Int} {G V : List Num} {ws : List Str} {er : Int} (h : MI s s' id bm iG iV nm kd G V ws er)
    (k : ∀ e' s'', e'.n = e.n → (∀ t, e'.m t = frz iV (NC V) (frz iG (NC G) (e.m t))) → s''.get bm = some [SV nm, .v (.int .u8 kd), .sl G.length (NC G), .sl V.length (NC V)] → s''.get s.nx = some mz → (∀ k, k < s.nx → s''.get k = s.get k) → AW P code m0 e' s'' Q) : AW P code m0 e s' Q := by
  obtain ⟨o1, o2, o3, o4, o5, o6, o7, o8, o9, o10, o11, o12, o13, o14⟩ := h.o
  have e1 : (NC G).take (G.length * 2) = NC G := by rw [← nc_len, List.take_length]
  have e2 : (NC V).take (V.length * 2) = NC V := by rw [← nc_len, List.take_length]
  have e3 : frz.frzL iV (NC V) (NC G) = NC G := by
    apply List.ext_getElem?
    intro q
    rw [frzL_get]
    cases h : (NC G)[q]? with
    | none => rfl
    | some z =>
      rw [Option.map_some, frz_idf]
      exact (idfL_iff _).1 (nc_idf G) z (List.mem_of_getElem? h)
  refine aw_freeze2 iG (NC G) h.g (fun i => i == bm) fun e7 s7 f1 f2 f3 f4 => ?_
  have g7 : ∀ k c, k ≠ iG → k ≠ bm → s'.get k = c → s7.get k = c := fun k c q1 q2 q3 => by
    rw [f4, if_neg q1, if_neg (by simpa using q2)]
    exact q3
  have b7 : s7.get bm = some [SV nm, .v (.int .u8 kd), .sl G.length (NC G), .own iV 0 V.length 2] := by
    rw [f4, if_neg o10, if_pos (by simp), h.b, Option.map_some]
    have e4 : ¬ iV = iG := fun q => o14 q.symm
    simp only [frz, frz.frzL, SV, if_true, if_neg e4, List.drop_zero, e1]
  refine aw_freeze2 iV (NC V) (g7 _ _ (fun q => o14 q.symm) (fun q => o11 q.symm) h.v) (fun i => i == bm) fun e8 s8 f5 f6 f7 f8 => ?_
  have g8 : ∀ k c, k ≠ iV → k ≠ bm → s7.get k = c → s8.get k = c := fun k c q1 q2 q3 => by
    rw [f8, if_neg q1, if_neg (by simpa using q2)]
    exact q3
  refine k e8 s8 (f5.trans f1) (fun t => by rw [f6, f2]) ?_ (g8 _ _ (by omega) (by omega) (g7 _ _ (by omega) (by omega) h.z)) fun k hk => g8 _ _ (by omega) (by omega) (g7 _ _ (by omega) (by omega) (h.fr k hk))
  rw [f8, if_neg o11, if_pos (by simp), b7, Option.map_some]
  simp only [frz, frz.frzL, SV, if_true, List.drop_zero, e2, e3]
theorem aw_gen {P : Program} {code : Code} {m0 : Nat} {e : Env} {s : St} {Q : Exit → Env → St → Prop} (I : St → Prop) (h : I s) (k : ∀ s', I s' → AW P code m0 e s' Q) : AW P code m0 e s Q := k s h
theorem readM_ax (ws : List Str) (hw : BL ws) (hwl : ∀ w ∈ ws, w.length ≤ 281474976710656) (hl : ws.length ≤ 9223372036854775807) : PCall Tryz.prog 42 [TV ws] (RB (readM ws)) := by
  refine pcall_le fun s => ?_
  have hno : ¬ (4 ≤ ws.length ∧ ws.getD 0 [] = sModel ∧ (ws.getD 2 [] = [100] ∨ ws.getD 2 [] = [115]) ∧ ws.length % 2 = 0 ∧ ws.length ≤ 10 ∧ (ws.getD 2 [] = [115] → ws.length = 6)) → readM ws = (mdl0, 70) := fun q => by
    unfold readM
    simp only
    rw [if_neg q]
  unfold TV
  by_cases q0 : ws.length < 4
  · rw [hno (fun h => by omega)]
    refine acall_of Tryz.func42 rfl rfl (by simp [Tryz.ntmps42]) ?_; rw [Tryz.ntmps42, Tryz.results42]
    (first | refine go rTI ?_ | exact go0 rTI)
    (try rw [then_normal]); (try refine aw_seq ?_); refine aw_cond rfl ?_ ?_ <;> intro hb <;> (try (cases hb; done)) <;> (try simp only [bq] at hb) <;> (try (exfalso; omega))
    (first | refine go rTI ?_ | exact go0 rTI)
    exact ⟨rb_err 70, rb_idf _, fun i hi => if_neg (by omega)⟩
  · have i0 := hd_SL ws 0 (by omega)
    have i1 := hd_SL ws 1 (by omega)
    have i2 := hd_SL ws 2 (by omega)
    rw [List.drop_zero] at i0
    have b0 := bl_at ws hw 0
    have b1 := bl_at ws hw 1
    have b2 := bl_at ws hw 2
    have e1 := str_ne (ws.getD 0 []) sModel b0 (by_lit _ rfl)
    have e2 := str_ne (ws.getD 2 []) [100] b2 (by_lit _ rfl)
    have e3 := str_ne (ws.getD 2 []) [115] b2 (by_lit _ rfl)
    have e4 := str_eq (ws.getD 2 []) [115] b2 (by_lit _ rfl)
    rw [show bs sModel = ByteArray.mk #[46, 109, 111, 100, 101, 108] from rfl] at e1
    rw [show bs [100] = ByteArray.mk #[100] from rfl] at e2
    rw [show bs [115] = ByteArray.mk #[115] from rfl] at e3 e4
    have t2 : Int.toNat 2 = 2 := rfl
    unfold SV at i0 i1 i2
    by_cases hc : (4 ≤ ws.length ∧ ws.getD 0 [] = sModel ∧ (ws.getD 2 [] = [100] ∨ ws.getD 2 [] = [115]) ∧ ws.length % 2 = 0 ∧ ws.length ≤ 10 ∧ (ws.getD 2 [] = [115] → ws.length = 6))
    · have hrd : readM ws = if isName (ws.getD 1 []) = true then (if numsE (ws.drop 3) 0 ≠ 0 then (mdl0, numsE (ws.drop 3) 0) else if modelOk ⟨ws.getD 1 [], ((ws.getD 2 []).getD 0 0 : Nat), (evens (ws.drop 3)).map numV, (odds (ws.drop 3)).map numV⟩ = true then (⟨ws.getD 1 [], ((ws.getD 2 []).getD 0 0 : Nat), (evens (ws.drop 3)).map numV, (odds (ws.drop 3)).map numV⟩, 0) else (mdl0, 50)) else (mdl0, 71) := by
        unfold readM
        simp only
        rw [if_pos hc]
      rw [hrd]
      clear hrd hno
      obtain ⟨c0, c1, c2, c3, c4, c5⟩ := hc
      refine acall_of Tryz.func42 rfl rfl (by simp [Tryz.ntmps42]) ?_; rw [Tryz.ntmps42, Tryz.results42]
      (first | refine go rTI ?_ | exact go0 rTI)
      refine aw_only (fun e' s' => e'.n = 108 ∧ e'.m 0 = .sl ws.length (SL ws) ∧ e'.m 2 = .ptr s.nx 0 ∧ e'.m 47 = .v (.bool false) ∧ s' = s.push mz) ?_ ?_
      · have c6 : ((ws.length : Int) % 2) = 0 := by omega
        rw [decide_eq_true c1] at e1
        rcases c2 with c2 | c2
        · rw [c2, decide_eq_true rfl] at e2
          rw [c2, decide_eq_false (by decide)] at e4
          rw [c2] at i2
          (first | refine go (cj rTI (cj @i0 (cj @i2 (cj @t2 (cj @e1 (cj @e2 (cj @e4 @c6))))))) ?_ | exact go0 (cj rTI (cj @i0 (cj @i2 (cj @t2 (cj @e1 (cj @e2 (cj @e4 @c6))))))))
          (repeat' refine And.intro ?_ ?_) <;> (first | done | exact rfl | (intro i hi; exact rn0 rTI; done) | (exact rn0 rTI; done) | skip)
          all_goals (first | rfl | trivial)
        · have c7 : (ws.length : Int) = 6 := by have := c5 c2; omega
          have c8 : ws.length = 6 := by omega
          rw [c2, decide_eq_true rfl] at e3 e4
          rw [c2, decide_eq_false (by decide)] at e2
          rw [c2] at i2
          (first | refine go (cj rTI (cj @i0 (cj @i2 (cj @t2 (cj @e1 (cj @e2 (cj @e3 (cj @e4 @c6)))))))) ?_ | exact go0 (cj rTI (cj @i0 (cj @i2 (cj @t2 (cj @e1 (cj @e2 (cj @e3 (cj @e4 @c6)))))))))
          (repeat' refine And.intro ?_ ?_) <;> (first | done | exact rfl | (intro i hi; exact rn0 rTI; done) | (exact rn0 rTI; done) | skip)
          all_goals (first | rfl | trivial)
      · obtain ⟨kd, hkd, hkb⟩ : ∃ kd, ws.getD 2 [] = [kd] ∧ kd < 256 := by
          rcases c2 with c2 | c2
          · exact ⟨100, c2, by decide⟩
          · exact ⟨115, c2, by decide⟩
        rw [hkd] at i2 b2 ⊢
        have lS := bs_size [kd]
        have hg := bs_get [kd] b2 0
        rw [show ([kd] : Str).getD 0 0 = kd from rfl] at hg ⊢
        rw [show ([kd] : Str).length = 1 from rfl] at lS
        have htd := TV_drop ws 3
        have hbd : BL (ws.drop 3) := fun w h => hw w (List.mem_of_mem_drop h)
        have hDl : (ws.drop 3).length % 2 = 1 ∧ (ws.drop 3).length ≤ 10 := by rw [List.length_drop]; omega
        have hnm := cname_ax (ws.getD 1 []) b1 (by
          rw [List.getD_eq_getElem?_getD, List.getElem?_eq_getElem (show 1 < ws.length by omega)]
          exact Nat.le_trans (hwl _ (List.getElem_mem _)) (by decide))
        have hnl : (ws.getD 1 []).length ≤ 281474976710656 := by
          rw [List.getD_eq_getElem?_getD, List.getElem?_eq_getElem (show 1 < ws.length by omega)]
          exact hwl _ (List.getElem_mem _)
        unfold TV at htd
        clear e1 e2 e3 e4 c1 c2 c3 c5 hw hwl i0
        rintro e' s' ⟨h1, k0, k2, k47, rfl⟩
        rw [then_normal]
        refine aw_cond (b := false) k47 (fun h => by cases h) (fun _ => ?_)
        refine aw_skip ?_
        rw [then_normal]
        generalize ws.getD 1 [] = nm at *
        generalize ws.drop 3 = D at *
        have t3 : Int.toNat 3 = 3 := rfl
        have t1 : Int.toNat 1 = 1 := rfl
        unfold SV at hnm
        refine aw_seq ?_
        refine aw_drw (.take 0 (.take 1 (.take 2 (.take 3 (.take 4 (.take 5 (.take 6 (.take 7 (.one 8 (.one 9 (.done))))))))))) [] (by kernel_rfl) (by kernel_rfl) fun K hK => ?_; refine dr (cj rTI (cj @h1 (cj @k0 (cj @i1 (cj @i2 (cj @t1 (cj @t2 (cj @lS @hg)))))))) ?_; refine hK _ _ ?_; clear hK K
        rw [then_normal]
        refine aw_seq ?_
        refine aw_seq ?_
        cases hn : isName nm with
        | false =>
          rw [hn] at hnm
          rw [if_neg Bool.false_ne_true]
          refine aw_reg fun K hK => ?_; refine rn (cj rTI @h1) ?_; refine cont_pure hnm ?_; refine rn (cj rTI @h1) ?_; refine hK _ _ ?_; clear hK K
          (try rw [then_normal]); (try refine aw_seq ?_); refine aw_cond rfl ?_ ?_ <;> intro hb <;> (try (cases hb; done)) <;> (try simp only [bq] at hb) <;> (try (exfalso; omega))
          unfold mz nilS
          (first | refine go (cj rTI (cj @h1 @k2)) ?_ | exact go0 (cj rTI (cj @h1 @k2)))
          exact ⟨rb_err 71, rb_idf _, fun i hi => by rw [if_neg (by omega), if_neg (by omega)]⟩
        | true =>
          rw [hn] at hnm
          rw [if_pos rfl]
          refine aw_reg fun K hK => ?_; refine rn (cj rTI @h1) ?_; refine cont_pure hnm ?_; refine rn (cj rTI @h1) ?_; refine hK _ _ ?_; clear hK K
          (try rw [then_normal]); (try refine aw_seq ?_); refine aw_cond rfl ?_ ?_ <;> intro hb <;> (try (cases hb; done)) <;> (try simp only [bq] at hb) <;> (try (exfalso; omega))
          (first | refine go (cj rTI (cj @h1 (cj @k0 (cj @t3 @htd)))) ?_ | exact go0 (cj rTI (cj @h1 (cj @k0 (cj @t3 @htd)))))
          match D, hDl with
          | [], q => simp at q
          | g0 :: q0, hDl =>
          rw [List.length_cons] at hDl
          obtain ⟨hev, hod⟩ := odds_cons g0 q0 (by omega)
          rw [hev, hod]
          refine aw_nil_box (s.nx + 1) 2 2 [.v (.string (bs nm)), .v (.int .u8 (kd : Nat)), .v (.slice none 0 0), .v (.slice none 0 0)] (by rw [St.push_ne _ _ _ (by show s.nx + 1 ≠ s.nx + 1 + 1; omega)]; exact St.set_same _ _ _) rfl ?_
          refine aw_nil_box (s.nx + 1) 3 2 _ (St.set_same _ _ _) rfl ?_
          have hM := MI.init s nm kd (g0 :: q0) _ _ _ rfl rfl rfl
          refine aw_gen (fun x => MI s x (s.nx + 2) (s.nx + 1) (s.nx + 3) (s.nx + 4) nm kd [] [] (g0 :: q0) 0) hM fun s4 hM => ?_
          clear htd i1 i2 hnm lS hg t1 t2 t3
          refine aw_only (fun e5 s5 => e5.n = 108 ∧ e5.m 2 = .ptr s.nx 0 ∧ e5.m 5 = .ptr (s.nx + 1) 0 ∧ e5.m 6 = .ptr (s.nx + 2) 0 ∧ ∃ iG, MI s s5 (s.nx + 2) (s.nx + 1) iG (s.nx + 4) nm kd [numV g0] [] q0 (numE g0 0)) ?_ ?_
          · have hnu := num_ax s4 (s.nx + 2) g0 q0 0 (hbd g0 (List.mem_cons_self ..)) hM.r hM.o.2.2.2.2.2.1 (by omega)
            have gb := hM.b
            have gg := hM.g
            have hG := hM.gg (numV g0) q0 (numE g0 0)
            obtain ⟨o1, o2, o3, o4, o5, o6, o7, o8, o9, o10, o11, o12, o13, o14⟩ := hM.o
            rw [show NC ([] : List Num) = [] from rfl, show ([] : List Num).length = 0 from rfl] at *
            unfold NM at hnu
            unfold SV iv at *
            refine aw_drwR (.take 0 (.take 1 (.take 2 (.one 3 (.one 4 (.one 5 (.done))))))) 6 [7] [s.nx + 1] (by kernel_rfl) (by kernel_rfl) fun K hK => ?_; refine dt (cj rTI (cj @h1 (cj @gb (cj @gg @zr2)))) ?_; refine cont_go hnu ?_; rintro _ s5 ⟨rfl, rfl⟩; refine dt (cj rTI (cj @h1 (cj @gb (cj @gg @zr2)))) ?_; refine hK _ _ ?_; clear hK K
            refine ⟨rfl, ?_, ?_, ?_, ?_, s4.nx + 1, hG⟩
            all_goals ((first | refine rn (cj rTI (cj @h1 @k2)) ?_ | exact rn0 (cj rTI (cj @h1 @k2))))
            all_goals (first | trivial | rfl)
          · clear h1 k0 k2 k47 hM hod hev
            clear hM
            have hbq : BL q0 := fun w h => hbd w (List.mem_cons_of_mem _ h)
            have hE0 : numsE (g0 :: q0) 0 = numsE q0 (numE g0 0) := rfl
            rw [hE0, List.map_cons]
            generalize numE g0 0 = e0
            generalize numV g0 = v0
            generalize s.nx + 4 = iV
            rintro e5 s5 ⟨h1, k2, k5, k6, iG, hM⟩
            rw [then_normal]
            refine aw_seq ?_
            refine aw_block ?_
            refine aw_loop (fun m e6 s6 => ∃ q er G V iG iV, m = q.length ∧ e6.n = 108 ∧ e6.m 2 = .ptr s.nx 0 ∧ e6.m 5 = .ptr (s.nx + 1) 0 ∧ e6.m 6 = .ptr (s.nx + 2) 0 ∧ MI s s6 (s.nx + 2) (s.nx + 1) iG iV nm kd G V q er ∧ numsE q0 e0 = numsE q er ∧ v0 :: (odds q0).map numV = G ++ (odds q).map numV ∧ (evens q0).map numV = V ++ (evens q).map numV ∧ q.length % 2 = 0 ∧ q.length ≤ 10 ∧ G.length + q.length ≤ 20 ∧ V.length + q.length ≤ 20 ∧ ∀ w ∈ q, w ∈ q0) q0.length ?_ ?_
            · refine ⟨q0, e0, [v0], [], iG, iV, rfl, ?_, ?_, ?_, ?_, hM, rfl, rfl, rfl, by omega, by omega, by rw [List.length_cons, List.length_nil]; omega, by rw [List.length_nil]; omega, fun _ h => h⟩
              all_goals ((first | refine rn (cj rTI (cj @h1 (cj @k2 (cj @k5 @k6)))) ?_ | exact rn0 (cj rTI (cj @h1 (cj @k2 (cj @k5 @k6))))))
            · clear h1 k2 k5 k6 hM
              rintro m e6 s6 ⟨q, er, G, V, iG, iV, rfl, h1, k2, k5, k6, hM, hE, hG, hV, hq1, hq2, hq3, hq4, hm⟩
              have gr := hM.r
              match q with
              | [] =>
                unfold rdr TV iv at gr
                have z0 : (([] : List Str).length : Int) = 0 := rfl
                (first | refine go (cj rTI (cj @h1 (cj @k6 (cj @gr @z0)))) ?_ | exact go0 (cj rTI (cj @h1 (cj @k6 (cj @gr @z0)))))
                (try rw [then_normal]); (try refine aw_seq ?_); refine aw_cond rfl ?_ ?_ <;> intro hb <;> (try (cases hb; done)) <;> (try simp only [bq] at hb) <;> (try (exfalso; omega))
                (first | refine go (cj rTI @h1) ?_ | exact go0 (cj rTI @h1))
                have hE2 : numsE q0 e0 = er := hE
                have hG2 : v0 :: (odds q0).map numV = G := by rw [hG]; exact List.append_nil _
                have hV2 : (evens q0).map numV = V := by rw [hV]; exact List.append_nil _
                rw [hE2, hG2, hV2]
                rw [List.length_nil] at hq3 hq4
                have fr := hM.fr
                have gz := hM.z
                obtain ⟨o1, o2, o3, o4, o5, o6, o7, o8, o9, o10, o11, o12, o13, o14⟩ := hM.o
                by_cases he0 : er = 0
                · rw [if_neg (fun h => h he0)]
                  (first | refine go (cj rTI (cj @h1 (cj @k6 (cj @gr @he0)))) ?_ | exact go0 (cj rTI (cj @h1 (cj @k6 (cj @gr @he0)))))
                  (try rw [then_normal]); (try refine aw_seq ?_); refine aw_cond rfl ?_ ?_ <;> intro hb <;> (try (cases hb; done)) <;> (try simp only [bq] at hb) <;> (try (exfalso; omega))
                  refine aw_skip ?_
                  rw [then_normal]
                  refine hM.lay fun e8 s8 f1 f2 gb gz fr => ?_
                  have m1 : e8.n = 108 := f1.trans h1
                  have m2 : e8.m 2 = .ptr s.nx 0 := by
                    rw [f2]
                    (first | refine rn @k2 ?_ | exact rn0 @k2)
                  have m5 : e8.m 5 = .ptr (s.nx + 1) 0 := by
                    rw [f2]
                    (first | refine rn @k5 ?_ | exact rn0 @k5)
                  have hva := mvalid_ax ⟨nm, kd, G, V⟩ ⟨b1, hnl⟩ (by show G.length ≤ _; omega) (by show V.length ≤ _; omega)
                  unfold MA SV NV at hva
                  unfold SV at gb
                  unfold mz nilS at gz
                  simp only at hva
                  clear f1 f2 h1 k2 k5 k6 hM gr
                  refine aw_seq ?_
                  refine aw_seq ?_
                  cases hok : modelOk ⟨nm, kd, G, V⟩ with
                  | false =>
                    rw [hok] at hva
                    rw [if_neg Bool.false_ne_true]
                    refine aw_reg fun K hK => ?_; refine rn (cj rTI (cj @m1 (cj @m5 @gb))) ?_; refine cont_pure hva ?_; refine rn (cj rTI (cj @m1 (cj @m5 @gb))) ?_; refine hK _ _ ?_; clear hK K
                    (try rw [then_normal]); (try refine aw_seq ?_); refine aw_cond rfl ?_ ?_ <;> intro hb <;> (try (cases hb; done)) <;> (try simp only [bq] at hb) <;> (try (exfalso; omega))
                    (first | refine go (cj rTI (cj @m1 (cj @m2 @gz))) ?_ | exact go0 (cj rTI (cj @m1 (cj @m2 @gz))))
                    exact ⟨rb_err 50, rb_idf _, fun i hi => by rw [if_neg (by omega)]; exact fr i hi⟩
                  | true =>
                    rw [hok] at hva
                    rw [if_pos rfl]
                    refine aw_reg fun K hK => ?_; refine rn (cj rTI (cj @m1 (cj @m5 @gb))) ?_; refine cont_pure hva ?_; refine rn (cj rTI (cj @m1 (cj @m5 @gb))) ?_; refine hK _ _ ?_; clear hK K
                    (try rw [then_normal]); (try refine aw_seq ?_); refine aw_cond rfl ?_ ?_ <;> intro hb <;> (try (cases hb; done)) <;> (try simp only [bq] at hb) <;> (try (exfalso; omega))
                    (first | refine go (cj rTI (cj @m1 (cj @m2 (cj @m5 (cj @gb @gz))))) ?_ | exact go0 (cj rTI (cj @m1 (cj @m2 (cj @m5 (cj @gb @gz))))))
                    exact ⟨Le.refl _, rb_idf _, fun i hi => by rw [if_neg (by omega)]; exact fr i hi⟩
                · rw [if_pos he0]
                  unfold mz nilS at gz
                  (first | refine go (cj rTI (cj @h1 (cj @k6 (cj @gr @he0)))) ?_ | exact go0 (cj rTI (cj @h1 (cj @k6 (cj @gr @he0)))))
                  (try rw [then_normal]); (try refine aw_seq ?_); refine aw_cond rfl ?_ ?_ <;> intro hb <;> (try (cases hb; done)) <;> (try simp only [bq] at hb) <;> (try (exfalso; omega))
                  refine aw_seq ?_
                  refine aw_drw (.take 0 (.take 1 (.take 2 (.take 3 (.take 4 (.one 5 (.take 6 (.done)))))))) [s.nx + 2] (by kernel_rfl) (by kernel_rfl) fun K hK => ?_; refine dr (cj rTI (cj @h1 (cj @k2 (cj @k6 (cj @gr @gz))))) ?_; refine hK _ _ ?_; clear hK K
                  rw [then_normal]
                  (first | refine go (cj rTI (cj @h1 (cj @k2 @gz))) ?_ | exact go0 (cj rTI (cj @h1 (cj @k2 @gz))))
                  exact ⟨rb_err er, rb_idf _, fun i hi => by rw [if_neg (by omega)]; exact fr i hi⟩
              | [x] => simp at hq1
              | a :: b :: q' =>
                rw [List.length_cons, List.length_cons] at hq1 hq2 hq3 hq4
                have hE3 : numsE (a :: b :: q') er = numsE q' (numE b (numE a er)) := rfl
                have hG3 : G ++ (odds (a :: b :: q')).map numV = (G ++ [numV b]) ++ (odds q').map numV := by
                  show G ++ (numV b :: (odds q').map numV) = _
                  simp
                have hV3 : V ++ (evens (a :: b :: q')).map numV = (V ++ [numV a]) ++ (evens q').map numV := by
                  show V ++ (numV a :: (evens q').map numV) = _
                  simp
                rw [hE3] at hE
                rw [hG3] at hG
                rw [hV3] at hV
                clear hE3 hG3 hV3
                obtain ⟨o1, o2, o3, o4, o5, o6, o7, o8, o9, o10, o11, o12, o13, o14⟩ := hM.o
                have hna := num_ax s6 (s.nx + 2) a (b :: q') er (hbq a (hm a (List.mem_cons_self ..))) hM.r o6 (by rw [List.length_cons]; omega)
                have gb := hM.b
                have gv := hM.v
                have nl := nc_len V
                have hM2 := hM.vv (numV a) (b :: q') (numE a er)
                have z1 : ((a :: b :: q').length : Int) = ((q'.length + 2 : Nat) : Int) := rfl
                generalize numE a er = ea at *
                generalize numV a = na at *
                unfold rdr TV iv at gr
                unfold NM at hna
                unfold SV at gb
                (first | refine go (cj rTI (cj @h1 (cj @k6 (cj @gr @z1)))) ?_ | exact go0 (cj rTI (cj @h1 (cj @k6 (cj @gr @z1)))))
                (try rw [then_normal]); (try refine aw_seq ?_); refine aw_cond rfl ?_ ?_ <;> intro hb <;> (try (cases hb; done)) <;> (try simp only [bq] at hb) <;> (try (exfalso; omega))
                refine aw_skip ?_
                rw [then_normal]
                refine aw_block ?_
                refine aw_seq ?_
                refine aw_only (fun e7 s7 => e7.n = 108 ∧ e7.m 2 = .ptr s.nx 0 ∧ e7.m 5 = .ptr (s.nx + 1) 0 ∧ e7.m 6 = .ptr (s.nx + 2) 0 ∧ ∃ iV, MI s s7 (s.nx + 2) (s.nx + 1) iG iV nm kd G (V ++ [na]) (b :: q') ea) ?_ ?_
                · unfold iv at *
                  refine aw_drwR (.take 0 (.take 1 (.take 2 (.one 3 (.one 4 (.one 5 (.done))))))) 6 [7] [s.nx + 1] (by kernel_rfl) (by kernel_rfl) fun K hK => ?_; refine dt (cj rTI (cj @h1 (cj @k5 (cj @k6 (cj @gb (cj @gv (cj @nl @zr2))))))) ?_; refine cont_go hna ?_; rintro _ s7 ⟨rfl, rfl⟩; refine dt (cj rTI (cj @h1 (cj @k5 (cj @k6 (cj @gb (cj @gv (cj @nl @zr2))))))) ?_; refine hK _ _ ?_; clear hK K
                  refine ⟨rfl, ?_, ?_, ?_, ?_, s6.nx + 1, hM2⟩
                  all_goals ((first | refine rn (cj rTI (cj @h1 (cj @k2 (cj @k5 @k6)))) ?_ | exact rn0 (cj rTI (cj @h1 (cj @k2 (cj @k5 @k6))))))
                  all_goals (first | trivial | rfl)
                · clear h1 k2 k5 k6 hM hM2 hna gb gv nl z1 gr o1 o2 o3 o4 o5 o6 o7 o8 o9 o10 o11 o12 o13 o14
                  rintro e7 s7 ⟨h1, k2, k5, k6, iV, hM⟩
                  rw [then_normal]
                  obtain ⟨o1, o2, o3, o4, o5, o6, o7, o8, o9, o10, o11, o12, o13, o14⟩ := hM.o
                  have hnb := num_ax s7 (s.nx + 2) b q' ea (hbq b (hm b (by simp))) hM.r o6 (by omega)
                  have gb := hM.b
                  have gg := hM.g
                  have nl := nc_len G
                  have hM2 := hM.gg (numV b) q' (numE b ea)
                  generalize numE b ea = eb at *
                  generalize numV b = nb at *
                  unfold NM at hnb
                  unfold SV at gb
                  have hMM := hM2
                  unfold iv at *
                  refine aw_drwR (.take 0 (.take 1 (.take 2 (.one 3 (.one 4 (.one 5 (.done))))))) 6 [7] [s.nx + 1] (by kernel_rfl) (by kernel_rfl) fun K hK => ?_; refine dt (cj rTI (cj @h1 (cj @k5 (cj @k6 (cj @gb (cj @gg (cj @nl @zr2))))))) ?_; refine cont_go hnb ?_; rintro _ s8 ⟨rfl, rfl⟩; refine dt (cj rTI (cj @h1 (cj @k5 (cj @k6 (cj @gb (cj @gg (cj @nl @zr2))))))) ?_; refine hK _ _ ?_; clear hK K
                  try simp only [block_normal, loop_normal]
                  refine ⟨q'.length, by rw [List.length_cons, List.length_cons]; omega, q', eb, G ++ [nb], V ++ [na], s7.nx + 1, iV, rfl, ?_, ?_, ?_, ?_, hMM, hE, hG, hV, by omega, by omega, by rw [List.length_append, List.length_cons, List.length_nil]; omega, by rw [List.length_append, List.length_cons, List.length_nil]; omega, fun w hw => hm w (by simp [hw])⟩
                  all_goals ((first | refine rn (cj rTI (cj @h1 (cj @k2 (cj @k5 @k6)))) ?_ | exact rn0 (cj rTI (cj @h1 (cj @k2 (cj @k5 @k6))))))
                  all_goals (first | trivial | rfl)
    · rw [hno hc]
      by_cases q1 : ws.getD 0 [] = sModel
      · rw [decide_eq_true q1] at e1
        by_cases q2 : ws.getD 2 [] = [100] ∨ ws.getD 2 [] = [115]
        · have hx : (!decide (ws.getD 2 [] = [100]) && !decide (ws.getD 2 [] = [115])) = false := by
            rcases q2 with q2 | q2
            · rw [decide_eq_true q2]; rfl
            · rw [decide_eq_true q2, Bool.and_comm]; rfl
          by_cases q3 : ws.length % 2 = 0
          · have q4 : ((ws.length : Int) % 2) = 0 := by omega
            by_cases q5 : ws.length ≤ 10
            · have q6 : ws.getD 2 [] = [115] ∧ ¬ ws.length = 6 := by
                refine ⟨Classical.byContradiction fun h => hc ⟨by omega, q1, q2, q3, q5, fun x => absurd x h⟩, fun h => hc ⟨by omega, q1, q2, q3, q5, fun _ => h⟩⟩
              have q7 : ¬ (ws.length : Int) = 6 := by omega
              rw [q6.1, decide_eq_false (by decide)] at e2
              rw [q6.1, decide_eq_true rfl] at e3 e4
              rw [q6.1] at i2
              refine acall_of Tryz.func42 rfl rfl (by simp [Tryz.ntmps42]) ?_; rw [Tryz.ntmps42, Tryz.results42]
              (first | refine go rTI ?_ | exact go0 rTI)
              (first | refine go (cj rTI (cj @i0 (cj @i2 (cj @t2 (cj @e1 (cj @e2 (cj @e3 (cj @e4 (cj @q4 @q7))))))))) ?_ | exact go0 (cj rTI (cj @i0 (cj @i2 (cj @t2 (cj @e1 (cj @e2 (cj @e3 (cj @e4 (cj @q4 @q7))))))))))
              (try rw [then_normal]); (try refine aw_seq ?_); refine aw_cond rfl ?_ ?_ <;> intro hb <;> (try (cases hb; done)) <;> (try simp only [bq] at hb) <;> (try (exfalso; omega))
              (first | refine go rTI ?_ | exact go0 rTI)
              exact ⟨rb_err 70, rb_idf _, fun i hi => if_neg (by omega)⟩
            · rcases q2 with q2 | q2
              · rw [q2, decide_eq_true rfl] at e2
                rw [q2] at i2
                refine acall_of Tryz.func42 rfl rfl (by simp [Tryz.ntmps42]) ?_; rw [Tryz.ntmps42, Tryz.results42]
                (first | refine go rTI ?_ | exact go0 rTI)
                (first | refine go (cj rTI (cj @i0 (cj @i2 (cj @t2 (cj @e1 (cj @e2 (cj @e3 (cj @e4 @q4)))))))) ?_ | exact go0 (cj rTI (cj @i0 (cj @i2 (cj @t2 (cj @e1 (cj @e2 (cj @e3 (cj @e4 @q4)))))))))
                (try rw [then_normal]); (try refine aw_seq ?_); refine aw_cond rfl ?_ ?_ <;> intro hb <;> (try (cases hb; done)) <;> (try simp only [bq] at hb) <;> (try (exfalso; omega))
                (first | refine go rTI ?_ | exact go0 rTI)
                exact ⟨rb_err 70, rb_idf _, fun i hi => if_neg (by omega)⟩
              · rw [q2, decide_eq_false (by decide)] at e2
                rw [q2, decide_eq_true rfl] at e3
                rw [q2] at i2
                refine acall_of Tryz.func42 rfl rfl (by simp [Tryz.ntmps42]) ?_; rw [Tryz.ntmps42, Tryz.results42]
                (first | refine go rTI ?_ | exact go0 rTI)
                (first | refine go (cj rTI (cj @i0 (cj @i2 (cj @t2 (cj @e1 (cj @e2 (cj @e3 (cj @e4 @q4)))))))) ?_ | exact go0 (cj rTI (cj @i0 (cj @i2 (cj @t2 (cj @e1 (cj @e2 (cj @e3 (cj @e4 @q4)))))))))
                (try rw [then_normal]); (try refine aw_seq ?_); refine aw_cond rfl ?_ ?_ <;> intro hb <;> (try (cases hb; done)) <;> (try simp only [bq] at hb) <;> (try (exfalso; omega))
                (first | refine go rTI ?_ | exact go0 rTI)
                exact ⟨rb_err 70, rb_idf _, fun i hi => if_neg (by omega)⟩
          · have q4 : ((ws.length : Int) % 2) = 1 := by omega
            rcases q2 with q2 | q2
            · rw [q2, decide_eq_true rfl] at e2
              rw [q2] at i2
              refine acall_of Tryz.func42 rfl rfl (by simp [Tryz.ntmps42]) ?_; rw [Tryz.ntmps42, Tryz.results42]
              (first | refine go rTI ?_ | exact go0 rTI)
              (first | refine go (cj rTI (cj @i0 (cj @i2 (cj @t2 (cj @e1 (cj @e2 (cj @e3 (cj @e4 @q4)))))))) ?_ | exact go0 (cj rTI (cj @i0 (cj @i2 (cj @t2 (cj @e1 (cj @e2 (cj @e3 (cj @e4 @q4)))))))))
              (try rw [then_normal]); (try refine aw_seq ?_); refine aw_cond rfl ?_ ?_ <;> intro hb <;> (try (cases hb; done)) <;> (try simp only [bq] at hb) <;> (try (exfalso; omega))
              (first | refine go rTI ?_ | exact go0 rTI)
              exact ⟨rb_err 70, rb_idf _, fun i hi => if_neg (by omega)⟩
            · rw [q2, decide_eq_false (by decide)] at e2
              rw [q2, decide_eq_true rfl] at e3
              rw [q2] at i2
              refine acall_of Tryz.func42 rfl rfl (by simp [Tryz.ntmps42]) ?_; rw [Tryz.ntmps42, Tryz.results42]
              (first | refine go rTI ?_ | exact go0 rTI)
              (first | refine go (cj rTI (cj @i0 (cj @i2 (cj @t2 (cj @e1 (cj @e2 (cj @e3 (cj @e4 @q4)))))))) ?_ | exact go0 (cj rTI (cj @i0 (cj @i2 (cj @t2 (cj @e1 (cj @e2 (cj @e3 (cj @e4 @q4)))))))))
              (try rw [then_normal]); (try refine aw_seq ?_); refine aw_cond rfl ?_ ?_ <;> intro hb <;> (try (cases hb; done)) <;> (try simp only [bq] at hb) <;> (try (exfalso; omega))
              (first | refine go rTI ?_ | exact go0 rTI)
              exact ⟨rb_err 70, rb_idf _, fun i hi => if_neg (by omega)⟩
        · rw [decide_eq_false (fun h => q2 (.inl h))] at e2
          rw [decide_eq_false (fun h => q2 (.inr h))] at e3
          refine acall_of Tryz.func42 rfl rfl (by simp [Tryz.ntmps42]) ?_; rw [Tryz.ntmps42, Tryz.results42]
          (first | refine go rTI ?_ | exact go0 rTI)
          (first | refine go (cj rTI (cj @i0 (cj @i2 (cj @t2 (cj @e1 (cj @e2 @e3)))))) ?_ | exact go0 (cj rTI (cj @i0 (cj @i2 (cj @t2 (cj @e1 (cj @e2 @e3)))))))
          (try rw [then_normal]); (try refine aw_seq ?_); refine aw_cond rfl ?_ ?_ <;> intro hb <;> (try (cases hb; done)) <;> (try simp only [bq] at hb) <;> (try (exfalso; omega))
          (first | refine go rTI ?_ | exact go0 rTI)
          exact ⟨rb_err 70, rb_idf _, fun i hi => if_neg (by omega)⟩
      · rw [decide_eq_false q1] at e1
        refine acall_of Tryz.func42 rfl rfl (by simp [Tryz.ntmps42]) ?_; rw [Tryz.ntmps42, Tryz.results42]
        (first | refine go rTI ?_ | exact go0 rTI)
        (first | refine go (cj rTI (cj @i0 (cj @i2 (cj @t2 (cj @e1 (cj @e2 (cj @e3 @e4))))))) ?_ | exact go0 (cj rTI (cj @i0 (cj @i2 (cj @t2 (cj @e1 (cj @e2 (cj @e3 @e4))))))))
        (try rw [then_normal]); (try refine aw_seq ?_); refine aw_cond rfl ?_ ?_ <;> intro hb <;> (try (cases hb; done)) <;> (try simp only [bq] at hb) <;> (try (exfalso; omega))
        (first | refine go rTI ?_ | exact go0 rTI)
        exact ⟨rb_err 70, rb_idf _, fun i hi => if_neg (by omega)⟩
end Go.Proofs.YtfjelkjlfcafgaaGreatDoor.CardN
end
section
/- The laws' first fact: a resistor is read and written, a model is read. -/
namespace Go.Proofs.YtfjelkjlfcafgaaGreatDoor.CardU
open Go Go.RowKit Go.Proofs.YtfjelkjlfcafgaaGreatDoor.Ax Go.Proofs.YtfjelkjlfcafgaaGreatDoor.Ti Go.Proofs.YtfjelkjlfcafgaaGreatDoor.NumS Go.Proofs.YtfjelkjlfcafgaaGreatDoor.NumT Go.Proofs.YtfjelkjlfcafgaaGreatDoor.CardS Go.Proofs.YtfjelkjlfcafgaaGreatDoor.CardP Go.Proofs.YtfjelkjlfcafgaaGreatDoor.CardA Go.Proofs.YtfjelkjlfcafgaaGreatDoor.CardB Go.Proofs.YtfjelkjlfcafgaaGreatDoor.CardC Go.Proofs.YtfjelkjlfcafgaaGreatDoor.CardD Go.Proofs.YtfjelkjlfcafgaaGreatDoor.CardE Go.Proofs.YtfjelkjlfcafgaaGreatDoor.CardF Go.Proofs.YtfjelkjlfcafgaaGreatDoor.CardG Go.Proofs.YtfjelkjlfcafgaaGreatDoor.CardH Go.Proofs.YtfjelkjlfcafgaaGreatDoor.CardI Go.Proofs.YtfjelkjlfcafgaaGreatDoor.CardK Go.Proofs.YtfjelkjlfcafgaaGreatDoor.CardL Go.Proofs.YtfjelkjlfcafgaaGreatDoor.CardN Go.Proofs.YtfjelkjlfcafgaaGreatDoor.CardR
open Go.Proofs.YtfjelkjlfcafgaaGreatDoor.NumA (NM)
set_option linter.unusedSimpArgs false
set_option linter.unusedVariables false
set_option maxRecDepth 4000
set_option maxHeartbeats 2000000
theorem rTI : type_of% (cj @ti3 (cj @ti4 (cj @ti9 (cj @ti5 (cj @ti2 (cj @ti36 (cj @ti63 (cj @ti62 (cj @ti24 (cj @ti65 (cj @ti67 (cj @ti82 (cj @ti25 (cj @Nat.zero_add (cj @tz0 (cj @tz1 (cj @tz3 (cj @Nat.mul_one @Int.toNat_natCast)))))))))))))))))) := cj @ti3 (cj @ti4 (cj @ti9 (cj @ti5 (cj @ti2 (cj @ti36 (cj @ti63 (cj @ti62 (cj @ti24 (cj @ti65 (cj @ti67 (cj @ti82 (cj @ti25 (cj @Nat.zero_add (cj @tz0 (cj @tz1 (cj @tz3 (cj @Nat.mul_one @Int.toNat_natCast)))))))))))))))))
/-- A call with a fresh row, which is laid down. -/
theorem cont_box {P : Program} {f : FuncId} {n : Nat} {r : AV} {s : St} {K : Env → St → Prop} {e : Env} {d : Option Nat} (id : Nat) (c : List AV) (sz : Nat) (hi : s.get id = some c) (hc : PCall P f [.sl n ((c.drop 0).take (n * sz))] r)
    (h : ∀ s', s'.nx = s.nx → (∀ j, j ≠ id → s'.get j = s.get j) → K (e.put d r) s') : ACall P f [.own id 0 n sz] s (ContS K e d) := by
  refine acall_frz id c hi (fun _ => false) ?_
  rw [List.map_cons, List.map_nil, frz_own]
  exact cont_pure hc (h _ rfl fun j hj => frz_false _ _ _ _ hj)
theorem cont_box2 {P : Program} {f : FuncId} {n : Nat} {x r : AV} {s : St} {K : Env → St → Prop} {e : Env} {d : Option Nat} (id : Nat) (c : List AV) (sz : Nat) (hi : s.get id = some c) (hx : idf x = true) (hc : PCall P f [x, .sl n ((c.drop 0).take (n * sz))] r)
    (h : ∀ s', s'.nx = s.nx → (∀ j, j ≠ id → s'.get j = s.get j) → K (e.put d r) s') : ACall P f [x, .own id 0 n sz] s (ContS K e d) := by
  refine acall_frz id c hi (fun _ => false) ?_
  rw [List.map_cons, List.map_cons, List.map_nil, frz_own, frz_idf _ _ x hx]
  exact cont_pure hc (h _ rfl fun j hj => frz_false _ _ _ _ hj)
def aw1 : List Str := [[114, 49], [97], [48], [52, 46, 55, 107]]
def aw2 : List Str := [[46, 109, 111, 100, 101, 108], [100, 49], [100], [49, 117], [48, 46, 55], [49, 48, 48, 109]]
def awC : Crd := ⟨[114, 49], [[97], [48]], [], (47, 2), wv0⟩
def awM : Mdl := ⟨[100, 49], 100, [(1, -6), (1, -1)], [(7, -1)]⟩
theorem aw_r : readC aw1 = (awC, 0) := by kernel_rfl
theorem aw_w : writeC awC = ([[114, 49], [97], [48], [52, 55, 48, 48]], 0) := by kernel_rfl
theorem aw_m : readM aw2 = (awM, 0) := by kernel_rfl
theorem aw_by1 : BL aw1 ∧ ∀ w ∈ aw1, w.length ≤ 281474976710656 := by
  constructor <;> intro w hw <;> simp only [aw1, List.mem_cons, List.not_mem_nil, or_false] at hw <;> rcases hw with rfl | rfl | rfl | rfl <;> first | exact by_lit _ rfl | decide
theorem aw_by2 : BL aw2 ∧ ∀ w ∈ aw2, w.length ≤ 281474976710656 := by
  constructor <;> intro w hw <;> simp only [aw2, List.mem_cons, List.not_mem_nil, or_false] at hw <;> rcases hw with rfl | rfl | rfl | rfl | rfl | rfl <;> first | exact by_lit _ rfl | decide
theorem aw_by3 : BL [[114, 49], [97], [48], [52, 55, 48, 48]] := by
  intro w hw; simp only [List.mem_cons, List.not_mem_nil, or_false] at hw; rcases hw with rfl | rfl | rfl | rfl <;> exact by_lit _ rfl
theorem aw_cw : CW awC := by
  refine ⟨⟨by_lit _ rfl, by decide⟩, ⟨?_, ?_, by decide⟩, ⟨by_lit _ rfl, by decide⟩, by decide, by decide, fun z hz => by cases hz⟩
  · intro w hw; simp only [awC, List.mem_cons, List.not_mem_nil, or_false] at hw; rcases hw with rfl | rfl <;> exact by_lit _ rfl
  · intro w hw; simp only [awC, List.mem_cons, List.not_mem_nil, or_false] at hw; rcases hw with rfl | rfl <;> decide
theorem awake_ax : PCall Tryz.prog 29 [] (.v (.bool true)) := by
  refine pcall_of fun s => ?_
  have p1 := read_ax aw1 aw_by1.1 aw_by1.2 (by decide)
  rw [aw_r] at p1
  have p2 := write_ax awC aw_cw
  rw [aw_w] at p2
  have p3 := readM_ax aw2 aw_by2.1 aw_by2.2 (by decide)
  rw [aw_m] at p3
  have p4 := texts_ax [[114, 49], [97], [48], [52, 55, 48, 48]] [[114, 49], [97], [48], [52, 55, 48, 48]] aw_by3 aw_by3 (by decide) (by decide)
  rw [decide_eq_true rfl] at p4
  have f5 : eqOk Tryz.prog 24 = true := by kernel_rfl
  unfold RA CA SV TV NV IV iv at p1
  unfold PA CA SV TV NV IV iv at p2
  unfold RB MA SV TV NV iv at p3
  unfold TV at p4
  refine acall_of Tryz.func29 rfl rfl (by simp [Tryz.ntmps29]) ?_; rw [Tryz.ntmps29, Tryz.results29]
  (first | refine go rTI ?_ | exact go0 rTI)
  refine aw_reg fun K hK => ?_; refine rn rTI ?_; refine cont_box s.nx _ 1 (St.push_same _ _) p1 fun s1 n1 g1 => ?_; refine rn rTI ?_; refine hK _ _ ?_; clear hK K
  have m1 : s1.nx = s.nx + 1 := n1
  have r1 : ∀ j, j < s.nx → s1.get j = s.get j := fun j hj => (g1 j (by omega)).trans (St.push_ne s _ _ (by omega))
  clear n1 g1
  (first | refine go rTI ?_ | exact go0 rTI)
  refine aw_reg fun K hK => ?_; refine rn rTI ?_; refine cont_pure p2 ?_; refine rn rTI ?_; refine hK _ _ ?_; clear hK K
  (first | refine go rTI ?_ | exact go0 rTI)
  refine aw_reg fun K hK => ?_; refine rn rTI ?_; refine cont_box (s1.nx + 1) _ 1 (St.push_same _ _) p3 fun s2 n2 g2 => ?_; refine rn rTI ?_; refine hK _ _ ?_; clear hK K
  have m2 : s2.nx = s1.nx + 2 := n2
  have r2 : ∀ j, j < s.nx → s2.get j = s.get j := fun j hj => by
    rw [g2 j (by omega), St.push_ne _ _ _ (show j ≠ s1.nx + 1 by omega), St.set_ne _ _ _ _ (by omega), St.push_ne s1 _ _ (by omega)]
    exact r1 j hj
  have c2 : s2.get s1.nx = some [.v (.string (bs awC.name)), .sl awC.nodes.length (SL awC.nodes), .v (.string (bs awC.ref)), .v (.int .i64 awC.value.1), .v (.int .i64 awC.value.2), .v (.int .i64 awC.wave.kind), .sl awC.wave.vals.length (NC awC.wave.vals), .sl awC.wave.steps.length (IL awC.wave.steps)] := by
    rw [g2 s1.nx (by omega), St.push_ne _ _ _ (show s1.nx ≠ s1.nx + 1 by omega)]
    exact St.set_same _ _ _
  clear n2 g2
  (first | refine go rTI ?_ | exact go0 rTI)
  have v1 : awC.value.1 = 47 := rfl
  have v2 : awC.value.2 = 2 := rfl
  have v3 : (awM.g.length : Int) = 2 := rfl
  have v4 : awM.kind = 100 := rfl
  refine aw_reg fun K hK => ?_
  (first | refine rn (cj rTI (cj @c2 (cj @f5 (cj @v1 (cj @v2 (cj @v3 @v4)))))) ?_ | exact rn0 (cj rTI (cj @c2 (cj @f5 (cj @v1 (cj @v2 (cj @v3 @v4)))))))
  refine cont_box2 (s2.nx + 1) _ 1 (St.push_same _ _) (tv_idf [[114, 49], [97], [48], [52, 55, 48, 48]]) p4 fun s3 n3 g3 => ?_
  have c3 : s3.get s2.nx = some [.v (.string (bs awM.name)), .v (.int .u8 awM.kind), .sl awM.g.length (NC awM.g), .sl awM.v.length (NC awM.v)] := (g3 _ (by omega)).trans ((St.push_ne _ _ _ (show s2.nx ≠ s2.nx + 1 by omega)).trans (St.set_same _ _ _))
  (first | refine rn (cj rTI (cj @c3 (cj @v3 @v4))) ?_ | exact rn0 (cj rTI (cj @c3 (cj @v3 @v4))))
  refine hK _ _ ?_
  clear hK K
  (first | refine go rTI ?_ | exact go0 rTI)
  intro i hi
  rw [g3 i (by omega), St.push_ne _ _ _ (show i ≠ s2.nx + 1 by omega), St.set_ne _ _ _ _ (by omega), St.push_ne s2 _ _ (by omega)]
  exact r2 i hi
end Go.Proofs.YtfjelkjlfcafgaaGreatDoor.CardU
end
section
/- The law CardPlain, walked: a source with a number alone is one with dc ahead of it. -/
namespace Go.Proofs.YtfjelkjlfcafgaaGreatDoor.CardV
open Go Go.RowKit Go.Proofs.YtfjelkjlfcafgaaGreatDoor.Ax Go.Proofs.YtfjelkjlfcafgaaGreatDoor.Ti Go.Proofs.YtfjelkjlfcafgaaGreatDoor.NumS Go.Proofs.YtfjelkjlfcafgaaGreatDoor.NumT Go.Proofs.YtfjelkjlfcafgaaGreatDoor.CardS Go.Proofs.YtfjelkjlfcafgaaGreatDoor.CardP Go.Proofs.YtfjelkjlfcafgaaGreatDoor.CardQ Go.Proofs.YtfjelkjlfcafgaaGreatDoor.CardA Go.Proofs.YtfjelkjlfcafgaaGreatDoor.CardB Go.Proofs.YtfjelkjlfcafgaaGreatDoor.CardC Go.Proofs.YtfjelkjlfcafgaaGreatDoor.CardD Go.Proofs.YtfjelkjlfcafgaaGreatDoor.CardE Go.Proofs.YtfjelkjlfcafgaaGreatDoor.CardF Go.Proofs.YtfjelkjlfcafgaaGreatDoor.CardG Go.Proofs.YtfjelkjlfcafgaaGreatDoor.CardH Go.Proofs.YtfjelkjlfcafgaaGreatDoor.CardI Go.Proofs.YtfjelkjlfcafgaaGreatDoor.CardK Go.Proofs.YtfjelkjlfcafgaaGreatDoor.CardL Go.Proofs.YtfjelkjlfcafgaaGreatDoor.CardN Go.Proofs.YtfjelkjlfcafgaaGreatDoor.CardR Go.Proofs.YtfjelkjlfcafgaaGreatDoor.CardU
open Go.Proofs.YtfjelkjlfcafgaaGreatDoor.NumA (NM)
set_option linter.unusedSimpArgs false
set_option linter.unusedVariables false
set_option maxRecDepth 4000
set_option maxHeartbeats 2000000
theorem rTI : type_of% (cj @ti3 (cj @ti4 (cj @ti9 (cj @ti5 (cj @ti2 (cj @ti36 (cj @ti63 (cj @ti62 (cj @ti24 (cj @ti65 (cj @ti67 (cj @ti82 (cj @ti25 (cj @Nat.zero_add (cj @tz0 (cj @tz1 (cj @tz3 (cj @Nat.mul_one @Int.toNat_natCast)))))))))))))))))) := cj @ti3 (cj @ti4 (cj @ti9 (cj @ti5 (cj @ti2 (cj @ti36 (cj @ti63 (cj @ti62 (cj @ti24 (cj @ti65 (cj @ti67 (cj @ti82 (cj @ti25 (cj @Nat.zero_add (cj @tz0 (cj @tz1 (cj @tz3 (cj @Nat.mul_one @Int.toNat_natCast)))))))))))))))))
theorem sameV_refl (w : Wv) : sameV w w = true := by unfold sameV; simp
theorem sameC_refl (c : Crd) : sameC c c = true := by unfold sameC; rw [sameV_refl]; simp
theorem plain_facts (a b x : Str) : (plainC [118, 49] a b x).2 = (plainC [105, 49] a b x).2 ∧ ((plainC [118, 49] a b x).2 = 0 → ({ (plainC [105, 49] a b x).1 with name := (plainC [118, 49] a b x).1.name } : Crd) = (plainC [118, 49] a b x).1 ∧ (plainC [118, 49] a b x).1.wave.kind = 1) ∧ By (plainC [118, 49] a b x).1.name ∧ By (plainC [105, 49] a b x).1.name := by
  unfold plainC
  split
  · split
    · rename_i h
      exact ⟨rfl, fun q => absurd q h, by_lit _ rfl, by_lit _ rfl⟩
    · exact ⟨rfl, fun _ => ⟨rfl, rfl⟩, by_lit _ rfl, by_lit _ rfl⟩
  · exact ⟨rfl, fun q => absurd q (by show ¬ (71 : Int) = 0; decide), by_lit _ rfl, by_lit _ rfl⟩
theorem plain_ax (a b x : Str) (ha : By a) (hb' : By b) (hx : By x) (la : a.length ≤ 281474976710656) (lb : b.length ≤ 281474976710656) (lx : x.length ≤ 281474976710656) :
    PCall Tryz.prog 10 [SV a, SV b, SV x] (.v (.bool true)) := by
  refine pcall_of fun s => ?_
  have e1 := str_eq x sDc hx (by_lit _ rfl)
  have e2 := str_eq x sPulse hx (by_lit _ rfl)
  have e3 := str_eq x sPwl hx (by_lit _ rfl)
  have e4 := str_eq x sTable hx (by_lit _ rfl)
  rw [show bs sDc = ByteArray.mk #[100, 99] from rfl] at e1
  rw [show bs sPulse = ByteArray.mk #[112, 117, 108, 115, 101] from rfl] at e2
  rw [show bs sPwl = ByteArray.mk #[112, 119, 108] from rfl] at e3
  rw [show bs sTable = ByteArray.mk #[116, 97, 98, 108, 101] from rfl] at e4
  unfold SV
  have hskip : ∀ (x1 x2 x3 x4 : Bool), decide (x = sDc) = x1 → decide (x = sPulse) = x2 → decide (x = sPwl) = x3 → decide (x = sTable) = x4 → (x1 || x2 || x3 || x4) = true → True := fun _ _ _ _ _ _ _ _ _ => trivial
  clear hskip
  by_cases c1 : x = sDc
  · rw [decide_eq_true c1] at e1
    refine acall_of Tryz.func10 rfl rfl (by simp [Tryz.ntmps10]) ?_; rw [Tryz.ntmps10, Tryz.results10]
    (first | refine go rTI ?_ | exact go0 rTI)
    refine aw_reg fun K hK => ?_; refine rn rTI ?_; refine cont_pure awake_ax ?_; refine rn rTI ?_; refine hK _ _ ?_; clear hK K
    (try rw [then_normal]); (try refine aw_seq ?_); refine aw_cond rfl ?_ ?_ <;> intro hb <;> (try (cases hb; done)) <;> (try simp only [bq] at hb) <;> (try (exfalso; omega))
    (first | refine go (cj rTI @e1) ?_ | exact go0 (cj rTI @e1))
    (try rw [then_normal]); (try refine aw_seq ?_); refine aw_cond rfl ?_ ?_ <;> intro hb <;> (try (cases hb; done)) <;> (try simp only [bq] at hb) <;> (try (exfalso; omega))
    (first | refine go rTI ?_ | exact go0 rTI)
  rw [decide_eq_false c1] at e1
  by_cases c2 : x = sPulse
  · rw [decide_eq_true c2] at e2
    refine acall_of Tryz.func10 rfl rfl (by simp [Tryz.ntmps10]) ?_; rw [Tryz.ntmps10, Tryz.results10]
    (first | refine go rTI ?_ | exact go0 rTI)
    refine aw_reg fun K hK => ?_; refine rn rTI ?_; refine cont_pure awake_ax ?_; refine rn rTI ?_; refine hK _ _ ?_; clear hK K
    (try rw [then_normal]); (try refine aw_seq ?_); refine aw_cond rfl ?_ ?_ <;> intro hb <;> (try (cases hb; done)) <;> (try simp only [bq] at hb) <;> (try (exfalso; omega))
    (first | refine go (cj rTI (cj @e1 @e2)) ?_ | exact go0 (cj rTI (cj @e1 @e2)))
    (try rw [then_normal]); (try refine aw_seq ?_); refine aw_cond rfl ?_ ?_ <;> intro hb <;> (try (cases hb; done)) <;> (try simp only [bq] at hb) <;> (try (exfalso; omega))
    (first | refine go rTI ?_ | exact go0 rTI)
  rw [decide_eq_false c2] at e2
  by_cases c3 : x = sPwl
  · rw [decide_eq_true c3] at e3
    refine acall_of Tryz.func10 rfl rfl (by simp [Tryz.ntmps10]) ?_; rw [Tryz.ntmps10, Tryz.results10]
    (first | refine go rTI ?_ | exact go0 rTI)
    refine aw_reg fun K hK => ?_; refine rn rTI ?_; refine cont_pure awake_ax ?_; refine rn rTI ?_; refine hK _ _ ?_; clear hK K
    (try rw [then_normal]); (try refine aw_seq ?_); refine aw_cond rfl ?_ ?_ <;> intro hb <;> (try (cases hb; done)) <;> (try simp only [bq] at hb) <;> (try (exfalso; omega))
    (first | refine go (cj rTI (cj @e1 (cj @e2 @e3))) ?_ | exact go0 (cj rTI (cj @e1 (cj @e2 @e3))))
    (try rw [then_normal]); (try refine aw_seq ?_); refine aw_cond rfl ?_ ?_ <;> intro hb <;> (try (cases hb; done)) <;> (try simp only [bq] at hb) <;> (try (exfalso; omega))
    (first | refine go rTI ?_ | exact go0 rTI)
  rw [decide_eq_false c3] at e3
  by_cases c4 : x = sTable
  · rw [decide_eq_true c4] at e4
    refine acall_of Tryz.func10 rfl rfl (by simp [Tryz.ntmps10]) ?_; rw [Tryz.ntmps10, Tryz.results10]
    (first | refine go rTI ?_ | exact go0 rTI)
    refine aw_reg fun K hK => ?_; refine rn rTI ?_; refine cont_pure awake_ax ?_; refine rn rTI ?_; refine hK _ _ ?_; clear hK K
    (try rw [then_normal]); (try refine aw_seq ?_); refine aw_cond rfl ?_ ?_ <;> intro hb <;> (try (cases hb; done)) <;> (try simp only [bq] at hb) <;> (try (exfalso; omega))
    (first | refine go (cj rTI (cj @e1 (cj @e2 (cj @e3 @e4)))) ?_ | exact go0 (cj rTI (cj @e1 (cj @e2 (cj @e3 @e4)))))
    (try rw [then_normal]); (try refine aw_seq ?_); refine aw_cond rfl ?_ ?_ <;> intro hb <;> (try (cases hb; done)) <;> (try simp only [bq] at hb) <;> (try (exfalso; omega))
    (first | refine go rTI ?_ | exact go0 rTI)
  rw [decide_eq_false c4] at e4
  obtain ⟨r1, r2⟩ := plain_read 118 (.inl rfl) a b x ⟨c1, c2, c3, c4⟩
  obtain ⟨r3, _⟩ := plain_read 105 (.inr rfl) a b x ⟨c1, c2, c3, c4⟩
  have mem4 : ∀ k : Nat, k = 118 ∨ k = 105 → ∀ w ∈ ([[k, 49], a, b, x] : List Str), By w ∧ w.length ≤ 281474976710656 := fun k hk w hw => by
    simp only [List.mem_cons, List.not_mem_nil, or_false] at hw
    rcases hw with rfl | rfl | rfl | rfl
    · rcases hk with rfl | rfl <;> exact ⟨by_lit _ rfl, by show 2 ≤ _; omega⟩
    · exact ⟨ha, la⟩
    · exact ⟨hb', lb⟩
    · exact ⟨hx, lx⟩
  have mem5 : ∀ w ∈ ([[118, 49], a, b, sDc, x] : List Str), By w ∧ w.length ≤ 281474976710656 := fun w hw => by
    simp only [List.mem_cons, List.not_mem_nil, or_false] at hw
    rcases hw with rfl | rfl | rfl | rfl | rfl
    · exact ⟨by_lit _ rfl, by show 2 ≤ _; omega⟩
    · exact ⟨ha, la⟩
    · exact ⟨hb', lb⟩
    · exact ⟨by_lit _ rfl, by show 2 ≤ _; omega⟩
    · exact ⟨hx, lx⟩
  have p1 := read_ax [[118, 49], a, b, x] (fun w hw => (mem4 118 (.inl rfl) w hw).1) (fun w hw => (mem4 118 (.inl rfl) w hw).2) (by show 4 ≤ _; omega)
  have p2 := read_ax [[118, 49], a, b, sDc, x] (fun w hw => (mem5 w hw).1) (fun w hw => (mem5 w hw).2) (by show 5 ≤ _; omega)
  have p3 := read_ax [[105, 49], a, b, x] (fun w hw => (mem4 105 (.inr rfl) w hw).1) (fun w hw => (mem4 105 (.inr rfl) w hw).2) (by show 4 ≤ _; omega)
  have y1 := read_by [[118, 49], a, b, x] (fun w hw => (mem4 118 (.inl rfl) w hw).1)
  have y3 := read_by [[105, 49], a, b, x] (fun w hw => (mem4 105 (.inr rfl) w hw).1)
  rw [r1] at p1 y1
  rw [r2] at p2
  rw [r3] at p3 y3
  obtain ⟨w1, w2, w3, w4⟩ := plain_facts a b x
  generalize plainC [118, 49] a b x = P at *
  generalize plainC [105, 49] a b x = G at *
  obtain ⟨cc, ee⟩ := P
  obtain ⟨cg, eg⟩ := G
  simp only at w1 w2 w3 w4 y1 y3
  subst w1
  have z1 : CB cc := ⟨w3, ⟨y1.2.1, by have := y1.2.2.1; simp only [List.length_cons, List.length_nil] at this; omega⟩, y1.1, by have := y1.2.2.2.1; simp only [List.length_cons, List.length_nil] at this; omega, by have := y1.2.2.2.2; simp only [List.length_cons, List.length_nil] at this; omega⟩
  have z3 : CB { cg with name := cc.name } := ⟨w3, ⟨y3.2.1, by have := y3.2.2.1; simp only [List.length_cons, List.length_nil] at this ⊢; omega⟩, y3.1, by have := y3.2.2.2.1; simp only [List.length_cons, List.length_nil] at this ⊢; omega, by have := y3.2.2.2.2; simp only [List.length_cons, List.length_nil] at this ⊢; omega⟩
  have q1 := sameC_ax cc cc z1 z1
  rw [sameC_refl] at q1
  have q2 := sameC_ax cc { cg with name := cc.name } z1 z3
  unfold RA CA SV TV NV IV iv at p1 p2 p3
  unfold CA SV TV NV IV iv at q1 q2
  simp only at p1 p2 p3 q1 q2
  clear y1 y3 z1 z3 mem4 mem5 r1 r2 r3
  refine acall_of Tryz.func10 rfl rfl (by simp [Tryz.ntmps10]) ?_; rw [Tryz.ntmps10, Tryz.results10]
  (first | refine go rTI ?_ | exact go0 rTI)
  refine aw_reg fun K hK => ?_; refine rn rTI ?_; refine cont_pure awake_ax ?_; refine rn rTI ?_; refine hK _ _ ?_; clear hK K
  (try rw [then_normal]); (try refine aw_seq ?_); refine aw_cond rfl ?_ ?_ <;> intro hb <;> (try (cases hb; done)) <;> (try simp only [bq] at hb) <;> (try (exfalso; omega))
  (first | refine go (cj rTI (cj @e1 (cj @e2 (cj @e3 @e4)))) ?_ | exact go0 (cj rTI (cj @e1 (cj @e2 (cj @e3 @e4)))))
  (try rw [then_normal]); (try refine aw_seq ?_); refine aw_cond rfl ?_ ?_ <;> intro hb <;> (try (cases hb; done)) <;> (try simp only [bq] at hb) <;> (try (exfalso; omega))
  (first | refine go rTI ?_ | exact go0 rTI)
  clear e1 e2 e3 e4 c1 c2 c3 c4
  refine aw_reg fun K hK => ?_; refine rn rTI ?_; refine cont_box s.nx _ 1 (St.push_same _ _) p1 fun s1 n1 g1 => ?_; refine rn rTI ?_; refine hK _ _ ?_; clear hK K
  have m1 : s1.nx = s.nx + 1 := n1
  have r1 : ∀ j, j < s.nx → s1.get j = s.get j := fun j hj => (g1 j (by omega)).trans (St.push_ne s _ _ (by omega))
  clear n1 g1
  (first | refine go rTI ?_ | exact go0 rTI)
  refine aw_reg fun K hK => ?_; refine rn rTI ?_; refine cont_box (s1.nx + 1) _ 1 (St.push_same _ _) p2 fun s2 n2 g2 => ?_; refine rn rTI ?_; refine hK _ _ ?_; clear hK K
  have m2 : s2.nx = s1.nx + 2 := n2
  have r2 : ∀ j, j < s.nx → s2.get j = s.get j := fun j hj => by
    rw [g2 j (by omega), St.push_ne _ _ _ (show j ≠ s1.nx + 1 by omega), St.set_ne _ _ _ _ (by omega), St.push_ne s1 _ _ (by omega)]
    exact r1 j hj
  have k2 : s2.get s1.nx = some [.v (.string (bs cc.name)), .sl cc.nodes.length (SL cc.nodes), .v (.string (bs cc.ref)), .v (.int .i64 cc.value.1), .v (.int .i64 cc.value.2), .v (.int .i64 cc.wave.kind), .sl cc.wave.vals.length (NC cc.wave.vals), .sl cc.wave.steps.length (IL cc.wave.steps)] := by
    rw [g2 s1.nx (by omega), St.push_ne _ _ _ (show s1.nx ≠ s1.nx + 1 by omega)]
    exact St.set_same _ _ _
  clear n2 g2 r1
  (first | refine go rTI ?_ | exact go0 rTI)
  refine aw_reg fun K hK => ?_; refine rn rTI ?_; refine cont_box (s2.nx + 1) _ 1 (St.push_same _ _) p3 fun s3 n3 g3 => ?_; refine rn rTI ?_; refine hK _ _ ?_; clear hK K
  have m3 : s3.nx = s2.nx + 2 := n3
  have r3 : ∀ j, j < s2.nx → s3.get j = s2.get j := fun j hj => by
    rw [g3 j (by omega), St.push_ne _ _ _ (show j ≠ s2.nx + 1 by omega), St.set_ne _ _ _ _ (by omega), St.push_ne s2 _ _ (by omega)]
  have k3 : s3.get s1.nx = some [.v (.string (bs cc.name)), .sl cc.nodes.length (SL cc.nodes), .v (.string (bs cc.ref)), .v (.int .i64 cc.value.1), .v (.int .i64 cc.value.2), .v (.int .i64 cc.wave.kind), .sl cc.wave.vals.length (NC cc.wave.vals), .sl cc.wave.steps.length (IL cc.wave.steps)] := (r3 _ (by omega)).trans k2
  have k4 : s3.get s2.nx = some [.v (.string (bs cc.name)), .sl cc.nodes.length (SL cc.nodes), .v (.string (bs cc.ref)), .v (.int .i64 cc.value.1), .v (.int .i64 cc.value.2), .v (.int .i64 cc.wave.kind), .sl cc.wave.vals.length (NC cc.wave.vals), .sl cc.wave.steps.length (IL cc.wave.steps)] := by
    rw [g3 s2.nx (by omega), St.push_ne _ _ _ (show s2.nx ≠ s2.nx + 1 by omega)]
    exact St.set_same _ _ _
  clear n3 g3 k2
  (first | refine go (cj rTI @k3) ?_ | exact go0 (cj rTI @k3))
  have fin : ∀ j, j < s.nx → s3.get j = s.get j := fun j hj => (r3 j (by omega)).trans (r2 j hj)
  by_cases h0 : ee = 0
  · obtain ⟨u1, u2⟩ := w2 h0
    rw [u1, sameC_refl, u2] at q2
    rw [u2] at q1
    refine aw_reg fun K hK => ?_; refine rn (cj rTI (cj @k3 (cj @k4 (cj @h0 @u2)))) ?_; refine cont_pure q1 ?_; (first | refine rn (cj rTI (cj @k3 (cj @k4 (cj @h0 @u2)))) ?_ | exact rn0 (cj rTI (cj @k3 (cj @k4 (cj @h0 @u2))))); refine cont_pure q2 ?_; refine rn (cj rTI (cj @k3 (cj @k4 (cj @h0 @u2)))) ?_; refine hK _ _ ?_; clear hK K
    (first | refine go rTI ?_ | exact go0 rTI)
    intro j hj
    rw [if_neg (by omega)]
    exact fin j hj
  · refine aw_reg fun K hK => ?_; refine rn (cj rTI (cj @k3 (cj @k4 @h0))) ?_; refine cont_pure q1 ?_; refine rn (cj rTI (cj @k3 (cj @k4 @h0))) ?_; refine hK _ _ ?_; clear hK K
    (first | refine go rTI ?_ | exact go0 rTI)
    intro j hj
    rw [if_neg (by omega)]
    exact fin j hj
theorem all_len (b : ByteArray) : (b.data.toList.map UInt8.toNat).length = b.size := by
  rw [List.length_map]
  rfl
theorem plain_str (a b x : ByteArray) (la : a.size ≤ 140737488351232) (lb : b.size ≤ 140737488351232) (lx : x.size ≤ 140737488351232) : PCall Tryz.prog 10 [.v (.string a), .v (.string b), .v (.string x)] (.v (.bool true)) := by
  have h := plain_ax _ _ _ (by_all a) (by_all b) (by_all x) (by rw [all_len]; omega) (by rw [all_len]; omega) (by rw [all_len]; omega)
  unfold SV at h
  rw [← bs_all a, ← bs_all b, ← bs_all x] at h
  exact h
end Go.Proofs.YtfjelkjlfcafgaaGreatDoor.CardV
end
