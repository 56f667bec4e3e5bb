/- A part of the proof. -/
import Derived.Test.YtfjelkjlfcafgaaGreatDoorPCardWritesD
import Derived.WalkKit
import Derived.ProofKit
import Derived.WideShapes
import Derived.KernelRfl
import Derived.Stop.FmtTextKit
import Derived.Lib.LaidTab
import Derived.DataReads
import Derived.SizedLaws
section
/- Cards: Write. -/
namespace Go.Proofs.YtfjelkjlfcafgaaGreatDoor.CardK
open Go Go.RowKit Go.Proofs.YtfjelkjlfcafgaaGreatDoor.Ax Go.Proofs.YtfjelkjlfcafgaaGreatDoor.Ti Go.Proofs.YtfjelkjlfcafgaaGreatDoor.NumS Go.Proofs.YtfjelkjlfcafgaaGreatDoor.NumT Go.Proofs.YtfjelkjlfcafgaaGreatDoor.CardS Go.Proofs.YtfjelkjlfcafgaaGreatDoor.CardP Go.Proofs.YtfjelkjlfcafgaaGreatDoor.CardA Go.Proofs.YtfjelkjlfcafgaaGreatDoor.CardB Go.Proofs.YtfjelkjlfcafgaaGreatDoor.CardC Go.Proofs.YtfjelkjlfcafgaaGreatDoor.CardD Go.Proofs.YtfjelkjlfcafgaaGreatDoor.CardE Go.Proofs.YtfjelkjlfcafgaaGreatDoor.CardF Go.Proofs.YtfjelkjlfcafgaaGreatDoor.CardG Go.Proofs.YtfjelkjlfcafgaaGreatDoor.CardH Go.Proofs.YtfjelkjlfcafgaaGreatDoor.CardI Go.Proofs.YtfjelkjlfcafgaaGreatDoor.CardJ
open Go.Proofs.YtfjelkjlfcafgaaGreatDoor.NumA (NM)
set_option linter.unusedSimpArgs false
set_option linter.unusedVariables false
set_option maxRecDepth 4000
set_option maxHeartbeats 2000000
theorem rTI : type_of% (cj @ti3 (cj @ti4 (cj @ti9 (cj @ti5 (cj @ti2 (cj @ti36 (cj @ti63 (cj @ti62 (cj @ti24 (cj @ti65 (cj @ti67 (cj @ti25 (cj @Nat.zero_add (cj @tz0 (cj @tz1 (cj @tz3 (cj @Nat.mul_one @Int.toNat_natCast))))))))))))))))) := cj @ti3 (cj @ti4 (cj @ti9 (cj @ti5 (cj @ti2 (cj @ti36 (cj @ti63 (cj @ti62 (cj @ti24 (cj @ti65 (cj @ti67 (cj @ti25 (cj @Nat.zero_add (cj @tz0 (cj @tz1 (cj @tz3 (cj @Nat.mul_one @Int.toNat_natCast))))))))))))))))
def PA (p : List Str × Int) : AV := .tp [TV p.1, iv p.2]
theorem pa_idf (p : List Str × Int) : idf (PA p) = true := by
  show (idf (TV p.1) && (true && true)) = true
  rw [tv_idf]
  rfl
theorem pa_err (e : Int) : Le (.tp [.v (.slice none 0 0), .v (.int .i64 e)]) (PA ([], e)) := by
  refine Le.tp rfl fun j x y hx hy => ?_
  match j with
  | 0 => simp at hx hy; subst hx hy; exact Le.nil 0 0 rfl
  | 1 => simp at hx hy; subst hx hy; exact Le.refl _
  | j + 2 => simp at hx
theorem read_by (ws : List Str) (h : BL ws) : By (readC ws).1.ref ∧ BL (readC ws).1.nodes ∧ (readC ws).1.nodes.length ≤ ws.length ∧ (readC ws).1.wave.vals.length ≤ ws.length + 1 ∧ (readC ws).1.wave.steps.length ≤ ws.length := by
  have h0 : By crd0.ref ∧ BL crd0.nodes ∧ crd0.nodes.length ≤ ws.length ∧ crd0.wave.vals.length ≤ ws.length + 1 ∧ crd0.wave.steps.length ≤ ws.length :=
    ⟨fun c hc => (by cases hc), fun c hc => (by cases hc), Nat.zero_le _, Nat.zero_le _, Nat.zero_le _⟩
  cases ws with
  | nil => exact h0
  | cons w0 r =>
    have hr : BL r := fun w hw => h w (List.mem_cons_of_mem _ hw)
    have hh : ∀ l : List Str, BL l → By (l.headD []) := fun l hl => by
      cases l with
      | nil => exact fun c hc => by cases hc
      | cons a l => exact hl a (List.mem_cons_self ..)
    rw [read_eq]
    generalize w0.getD 0 0 = k
    generalize formOf k (r.length + 1) = f
    unfold readB
    split
    · split
      · split
        · exact h0
        · split
          · exact h0
          · split
            · exact h0
            · split
              · exact h0
              · obtain ⟨fa, fb, fc⟩ := f
                refine ⟨?_, fun w hw => hr w (List.mem_of_mem_take hw), ?_, ?_⟩
                · show By (refC (fa, fb, fc) r)
                  unfold refC
                  simp only
                  split
                  · exact hh _ fun w hw => hr w (List.mem_of_mem_drop hw)
                  · exact fun c hc => by cases hc
                · show (r.take fa).length ≤ _
                  rw [List.length_take, List.length_cons]
                  omega
                · show (wvC k (fa, fb, fc) r).vals.length ≤ _ ∧ (wvC k (fa, fb, fc) r).steps.length ≤ _
                  unfold wvC
                  split
                  · have h1 := wave_len (restC (fa, fb, fc) r) (errV (fa, fb, fc) r)
                    have h2 : (restC (fa, fb, fc) r).length ≤ r.length := by
                      unfold restC
                      simp only
                      split <;> simp only [List.length_drop] <;> omega
                    rw [List.length_cons]
                    omega
                  · exact ⟨Nat.zero_le _, Nat.zero_le _⟩
      · exact h0
    · exact h0
def refW (c : Crd) (k : Nat) (f : Nat × Bool × Bool) : List Str := if f.2.1 = true ∨ k = 120 then [c.ref] else []
def valW (c : Crd) (k : Nat) (f : Nat × Bool × Bool) : List Str := if f.2.2 = true ∧ k ≠ 120 then [textN c.value] else []
def wavW (c : Crd) (k : Nat) : List Str := if k = 118 ∨ k = 105 then waveT c.wave else []
theorem wordsC_eq (c : Crd) : wordsC c = c.name :: c.nodes ++ refW c (c.name.getD 0 0) (shapeK (c.name.getD 0 0)) ++ valW c (c.name.getD 0 0) (shapeK (c.name.getD 0 0)) ++ wavW c (c.name.getD 0 0) := rfl
structure CW (c : Crd) : Prop where
  n : By c.name ∧ c.name.length ≤ 281474976710656
  d : BL c.nodes ∧ (∀ w ∈ c.nodes, w.length ≤ 281474976710656) ∧ c.nodes.length ≤ 9223372036854775807
  r : By c.ref ∧ c.ref.length ≤ 281474976710656
  v : c.wave.vals.length ≤ 9223372036854775807
  t : c.wave.steps.length ≤ 9223372036854775807
  z : ∀ z ∈ c.wave.steps, -9223372036854775808 ≤ z ∧ z ≤ 9223372036854775807
theorem textN_by (n : Num) : By (textN n) ∧ (textN n).length ≤ 20 := by
  unfold textN
  split
  · rename_i h
    exact ⟨NumH.textS_by _ _, Nat.le_trans (text_len _ _ ((NumH.ok_valid _ _).1 h)) (by decide)⟩
  · exact ⟨by_lit _ rfl, by decide⟩
theorem decS_le (z : Int) (h0 : -9223372036854775808 ≤ z) (h1 : z ≤ 9223372036854775807) : (decS z).length ≤ 20 := by
  unfold decS
  split
  · decide
  · have := decN_len z.natAbs 19 (by omega)
    rw [List.length_append]
    split
    · rw [List.length_cons, List.length_nil]; omega
    · rw [List.length_nil]; omega
theorem zip_mem : ∀ (S : List Int) (V : List Num) (x : Str), x ∈ zipW S V → (∃ z ∈ S, x = decS z) ∨ ∃ v ∈ V, x = textN v
  | [], _, x, h => by simp [zipW] at h
  | _ :: _, [], x, h => by simp [zipW] at h
  | a :: S, b :: V, x, h => by
    have h' : x ∈ decS a :: textN b :: zipW S V := h
    rcases List.mem_cons.1 h' with rfl | h'
    · exact .inl ⟨a, List.mem_cons_self .., rfl⟩
    · rcases List.mem_cons.1 h' with rfl | h'
      · exact .inr ⟨b, List.mem_cons_self .., rfl⟩
      · rcases zip_mem S V x h' with ⟨z, hz, e⟩ | ⟨v, hv, e⟩
        · exact .inl ⟨z, List.mem_cons_of_mem _ hz, e⟩
        · exact .inr ⟨v, List.mem_cons_of_mem _ hv, e⟩
theorem zip_le : ∀ (S : List Int) (V : List Num), (zipW S V).length ≤ 2 * V.length
  | [], _ => Nat.zero_le _
  | _ :: _, [] => Nat.zero_le _
  | a :: S, b :: V => by
    show (zipW S V).length + 1 + 1 ≤ _
    have := zip_le S V
    rw [List.length_cons]
    omega
theorem waveT_by (w : Wv) (hz : ∀ z ∈ w.steps, -9223372036854775808 ≤ z ∧ z ≤ 9223372036854775807) : (waveT w).length ≤ 1 + 2 * (w.vals.length + w.steps.length) ∧ ∀ x ∈ waveT w, By x ∧ x.length ≤ 20 := by
  have hd : ∀ z ∈ w.steps, By (decS z) ∧ (decS z).length ≤ 20 := fun z h => ⟨decS_by z, decS_le z (hz z h).1 (hz z h).2⟩
  unfold waveT
  split
  · refine ⟨?_, fun x hx => ?_⟩
    · have := zip_le w.steps w.vals
      rw [List.length_cons]
      omega
    · rcases List.mem_cons.1 hx with rfl | hx
      · exact ⟨by_lit _ rfl, by decide⟩
      · rcases zip_mem _ _ _ hx with ⟨z, h, rfl⟩ | ⟨v, _, rfl⟩
        · exact hd z h
        · exact textN_by v
  · refine ⟨?_, fun x hx => ?_⟩
    · have : (if w.kind = 1 then [sDc] else if w.kind = 2 then [sPulse] else if w.kind = 4 then [sTable] else []).length ≤ 1 := by (repeat' split) <;> decide
      rw [List.length_append, List.length_append, List.length_map, List.length_map]
      omega
    · rcases List.mem_append.1 hx with hx | hx
      · rcases List.mem_append.1 hx with hx | hx
        · have : x = sDc ∨ x = sPulse ∨ x = sTable := by
            split at hx
            · exact .inl (List.mem_singleton.1 hx)
            · split at hx
              · exact .inr (.inl (List.mem_singleton.1 hx))
              · split at hx
                · exact .inr (.inr (List.mem_singleton.1 hx))
                · cases hx
          rcases this with rfl | rfl | rfl
          · exact ⟨by_lit _ rfl, by decide⟩
          · exact ⟨by_lit _ rfl, by decide⟩
          · exact ⟨by_lit _ rfl, by decide⟩
        · obtain ⟨v, _, rfl⟩ := List.mem_map.1 hx
          exact textN_by v
      · obtain ⟨z, h, rfl⟩ := List.mem_map.1 hx
        exact hd z h
theorem words_by (c : Crd) (hc : CW c) : ∀ x ∈ wordsC c, By x ∧ x.length ≤ 281474976710656 := by
  intro x hx
  rw [wordsC_eq] at hx
  rcases List.mem_append.1 hx with hx | hx
  · rcases List.mem_append.1 hx with hx | hx
    · rcases List.mem_append.1 hx with hx | hx
      · rcases List.mem_cons.1 hx with rfl | hx
        · exact hc.n
        · exact ⟨hc.d.1 x hx, hc.d.2.1 x hx⟩
      · unfold refW at hx
        split at hx
        · rw [List.mem_singleton.1 hx]; exact hc.r
        · cases hx
    · unfold valW at hx
      split at hx
      · rw [List.mem_singleton.1 hx]; exact ⟨(textN_by _).1, Nat.le_trans (textN_by _).2 (by decide)⟩
      · cases hx
  · unfold wavW at hx
    split at hx
    · have := (waveT_by c.wave hc.z).2 x hx
      exact ⟨this.1, Nat.le_trans this.2 (by decide)⟩
    · cases hx
theorem write_ax (c : Crd) (hc : CW c) : PCall Tryz.prog 31 [CA c] (PA (writeC c)) := by
  refine pcall_le fun s => ?_
  have hd := dev_ax c.name hc.n.1 (by have := hc.n.2; omega)
  have hno : ∀ q : ¬ (isDev c.name = true ∧ c.nodes.length ≤ 8 ∧ c.wave.vals.length ≤ 16 ∧ c.wave.steps.length ≤ 16), writeC c = ([], 70) := fun q => if_neg q
  obtain ⟨h1, h2, h3, h4, h5, h6⟩ := hc
  unfold CA TV NV IV iv
  unfold SV at hd ⊢
  by_cases q1 : isDev c.name = true
  · rw [q1] at hd
    by_cases q2 : c.nodes.length ≤ 8
    · by_cases q3 : c.wave.vals.length ≤ 16
      · by_cases q4 : c.wave.steps.length ≤ 16
        · refine acall_of Tryz.func31 rfl rfl (by simp [Tryz.ntmps31]) ?_; rw [Tryz.ntmps31, Tryz.results31]
          refine go rTI ?_
          refine aw_reg fun K hK => ?_; refine rn rTI ?_; refine cont_pure hd ?_; refine rn rTI ?_; refine hK _ _ ?_; clear hK K
          refine ifs ?_ ?_ <;> first | exact nope | intro hb
          have e1 := sl_len c.nodes
          have e2 := sl_take c.nodes
          have e3 := sl_one c.nodes
          refine go (cj rTI (cj @e1 (cj @e2 @e3))) ?_
          have hL : LI s ((((s.push [.v (.string (bs c.name)), .sl c.nodes.length (SL c.nodes), .v (.string (bs c.ref)), .v (.int .i64 c.value.1), .v (.int .i64 c.value.2), .v (.int .i64 c.wave.kind), .sl c.wave.vals.length (NC c.wave.vals), .sl c.wave.steps.length (IL c.wave.steps)]).push [.v (.string (bs c.name))]).kill (s.nx + 1)).push ([.v (.string (bs c.name))] ++ SL c.nodes)) [.v (.string (bs c.name)), .sl c.nodes.length (SL c.nodes), .v (.string (bs c.ref)), .v (.int .i64 c.value.1), .v (.int .i64 c.value.2), .v (.int .i64 c.wave.kind), .sl c.wave.vals.length (NC c.wave.vals), .sl c.wave.steps.length (IL c.wave.steps)] (s.nx + 1 + 1) (c.name :: c.nodes) := by
            refine ⟨?_, St.push_same _ _, ⟨by omega, Nat.lt_succ_self _⟩, fun k hk => ?_⟩
            · rw [St.push_ne (((s.push _).push _).kill _) _ _ (show s.nx ≠ s.nx + 1 + 1 by omega), St.kill_ne _ _ _ (by omega), St.push_ne (s.push _) _ _ (show s.nx ≠ s.nx + 1 by omega)]
              exact St.push_same _ _
            · rw [St.push_ne (((s.push _).push _).kill _) _ _ (show k ≠ s.nx + 1 + 1 by omega), St.kill_ne _ _ _ (by omega), St.push_ne (s.push _) _ _ (show k ≠ s.nx + 1 by omega), St.push_ne s _ _ (by omega)]
          generalize (((s.push [.v (.string (bs c.name)), .sl c.nodes.length (SL c.nodes), .v (.string (bs c.ref)), .v (.int .i64 c.value.1), .v (.int .i64 c.value.2), .v (.int .i64 c.wave.kind), .sl c.wave.vals.length (NC c.wave.vals), .sl c.wave.steps.length (IL c.wave.steps)]).push [.v (.string (bs c.name))]).kill (s.nx + 1)).push ([.v (.string (bs c.name))] ++ SL c.nodes) = s1 at *
          have hp : 0 < c.name.length := name_pos c.name (by unfold isDev at q1; rw [Bool.and_eq_true] at q1; exact q1.1)
          have lS := bs_size c.name
          have hg := bs_get c.name h1.1 0
          have gb := hL.b
          have hln : (c.name :: c.nodes).length = 1 + c.nodes.length := by rw [List.length_cons]; omega
          have hww := wordsC_eq c
          have hsh := shape_ax (c.name.getD 0 0)
          unfold shapeV at hsh
          refine go (cj rTI (cj @gb (cj @lS @hg))) ?_
          rw [← hln]
          have hl0 : (c.name :: c.nodes).length ≤ 9 := by omega
          generalize hL0 : c.name :: c.nodes = L0 at *
          generalize shapeK (c.name.getD 0 0) = f at *
          generalize hk0 : c.name.getD 0 0 = k at *
          obtain ⟨fa, fb, fc⟩ := f
          refine aw_reg fun K hK => ?_; refine rn rTI ?_; refine cont_pure hsh ?_; refine rn rTI ?_; refine hK _ _ ?_; clear hK K
          refine aw_seq ?_
          refine aw_only (fun e' s' => e'.n = 120 ∧ e'.m 1 = .ptr s.nx 0 ∧ e'.m 5 = .v (.int .u8 (k : Nat)) ∧ e'.m 8 = .v (.bool fc) ∧ ∃ id, e'.m 4 = .own id 0 (L0 ++ refW c k (fa, fb, fc)).length 1 ∧ LI s s' [.v (.string (bs c.name)), .sl c.nodes.length (SL c.nodes), .v (.string (bs c.ref)), .v (.int .i64 c.value.1), .v (.int .i64 c.value.2), .v (.int .i64 c.wave.kind), .sl c.wave.vals.length (NC c.wave.vals), .sl c.wave.steps.length (IL c.wave.steps)] id (L0 ++ refW c k (fa, fb, fc))) ?_ ?_
          · have gl := hL.l
            obtain ⟨o1, o2⟩ := hL.o
            have ll := sl_len L0
            have hA := hL.app (s1.push [SV c.ref]) (Nat.le_succ _) (fun k hk => St.push_ne s1 _ _ (by omega)) [c.ref]
            have hA2 : L0.length + 1 = (L0 ++ [c.ref]).length := by rw [List.length_append]; rfl
            unfold SV at hA
            cases fb with
            | true =>
              rw [show refW c k (fa, true, fc) = [c.ref] from if_pos (.inl rfl)]
              refine go rTI ?_
              refine ifs ?_ ?_ <;> first | exact nope | intro hb
              refine go (cj rTI (cj @gb (cj @gl @ll))) ?_
              refine ⟨rfl, ?_, ?_, ?_, ?_, s1.nx + 1, ?_, hA⟩
              all_goals ((first | refine rn rTI ?_ | exact rn0 rTI))
              all_goals (first | trivial | rfl | rw [hA2] | rw [hk2])
            | false =>
              by_cases hk : k = 120
              · have hk2 : (k : Int) = 120 := by omega
                rw [show refW c k (fa, false, fc) = [c.ref] from if_pos (.inr hk)]
                refine go (cj rTI @hk2) ?_
                refine ifs ?_ ?_ <;> first | exact nope | intro hb
                refine go (cj rTI (cj @gb (cj @gl @ll))) ?_
                refine ⟨rfl, ?_, ?_, ?_, ?_, s1.nx + 1, ?_, hA⟩
                all_goals ((first | refine rn rTI ?_ | exact rn0 rTI))
                all_goals (first | trivial | rfl | rw [hA2] | rw [hk2])
              · have hk2 : ¬ (k : Int) = 120 := by omega
                rw [show refW c k (fa, false, fc) = [] from if_neg (fun h => by rcases h with h | h; · cases h
                                                                                · exact hk h), List.append_nil]
                refine go (cj rTI @hk2) ?_
                refine ifs ?_ ?_ <;> first | exact nope | intro hb
                refine go rTI ?_
                exact ⟨s.nx + 1 + 1, rfl, hL⟩
          · clear hL gb e1 e2 e3 lS hg hsh
            have hl1 : (L0 ++ refW c k (fa, fb, fc)).length ≤ 10 := by
              rw [List.length_append]
              have : (refW c k (fa, fb, fc)).length ≤ 1 := by unfold refW; split <;> simp
              omega
            generalize L0 ++ refW c k (fa, fb, fc) = L1 at *
            rintro e2 s2 ⟨n1, p1, p5, p8, id, p4, hL⟩
            rw [then_normal]
            refine aw_seq ?_
            refine aw_only (fun e' s' => e'.n = 120 ∧ e'.m 1 = .ptr s.nx 0 ∧ e'.m 5 = .v (.int .u8 (k : Nat)) ∧ ∃ id, e'.m 4 = .own id 0 (L1 ++ valW c k (fa, fb, fc)).length 1 ∧ LI s s' [.v (.string (bs c.name)), .sl c.nodes.length (SL c.nodes), .v (.string (bs c.ref)), .v (.int .i64 c.value.1), .v (.int .i64 c.value.2), .v (.int .i64 c.wave.kind), .sl c.wave.vals.length (NC c.wave.vals), .sl c.wave.steps.length (IL c.wave.steps)] id (L1 ++ valW c k (fa, fb, fc))) ?_ ?_
            · have gb := hL.b
              have gl := hL.l
              obtain ⟨o1, o2⟩ := hL.o
              have ll := sl_len L1
              have hA := hL.app (s2.push [SV (textN c.value)]) (Nat.le_succ _) (fun k hk => St.push_ne s2 _ _ (by omega)) [textN c.value]
              have hA2 : L1.length + 1 = (L1 ++ [textN c.value]).length := by rw [List.length_append]; rfl
              have hp := ctext_ax c.value
              unfold NM SV at hp
              unfold SV at hA
              by_cases hk : fc = true ∧ k ≠ 120
              · obtain ⟨rfl, hk⟩ := hk
                have hk2 : ¬ (k : Int) = 120 := by omega
                rw [show valW c k (fa, fb, true) = [textN c.value] from if_pos ⟨rfl, hk⟩]
                refine go (cj rTI (cj @n1 (cj @p5 (cj @p8 @hk2)))) ?_
                refine ifs ?_ ?_ <;> first | exact nope | intro hb
                refine aw_reg fun K hK => ?_; refine rn (cj rTI (cj @p1 (cj @p4 (cj @gb (cj @gl @ll))))) ?_; refine cont_pure hp ?_; refine rn (cj rTI (cj @p1 (cj @p4 (cj @gb (cj @gl @ll))))) ?_; refine hK _ _ ?_; clear hK K
                refine go (cj rTI (cj @n1 (cj @p1 @p5))) ?_
                refine ⟨rfl, ?_, ?_, ?_, s2.nx + 1, ?_, hA⟩
                all_goals ((first | refine rn (cj @n1 (cj @p1 (cj @p4 @p5))) ?_ | exact rn0 (cj @n1 (cj @p1 (cj @p4 @p5)))))
                all_goals (first | trivial | rfl | rw [hA2] | rw [hk2])
              · rw [show valW c k (fa, fb, fc) = [] from if_neg hk, List.append_nil]
                cases fc with
                | false =>
                  refine go (cj rTI (cj @n1 (cj @p5 @p8))) ?_
                  refine ifs ?_ ?_ <;> first | exact nope | intro hb
                  refine go (cj rTI (cj @n1 (cj @p1 (cj @p5 @p4)))) ?_
                  exact ⟨id, rfl, hL⟩
                | true =>
                  have hk2 : (k : Int) = 120 := by
                    have : ¬ k ≠ 120 := fun h => hk ⟨rfl, h⟩
                    omega
                  refine go (cj rTI (cj @n1 (cj @p5 (cj @p8 @hk2)))) ?_
                  refine ifs ?_ ?_ <;> first | exact nope | intro hb
                  refine go (cj rTI (cj @n1 (cj @p1 (cj @p5 @p4)))) ?_
                  exact ⟨id, rfl, hL⟩
            · clear hL n1 p1 p4 p5 p8
              have hl2 : (L1 ++ valW c k (fa, fb, fc)).length ≤ 11 := by
                rw [List.length_append]
                have : (valW c k (fa, fb, fc)).length ≤ 1 := by unfold valW; split <;> simp
                omega
              generalize L1 ++ valW c k (fa, fb, fc) = L2 at *
              rintro e3 s3 ⟨n1, p1, p5, id2, p4, hL⟩
              rw [then_normal]
              refine aw_seq ?_
              refine aw_only (fun e' s' => e'.n = 120 ∧ e'.m 1 = .ptr s.nx 0 ∧ ∃ id, e'.m 4 = .own id 0 (L2 ++ wavW c k).length 1 ∧ LI s s' [.v (.string (bs c.name)), .sl c.nodes.length (SL c.nodes), .v (.string (bs c.ref)), .v (.int .i64 c.value.1), .v (.int .i64 c.value.2), .v (.int .i64 c.wave.kind), .sl c.wave.vals.length (NC c.wave.vals), .sl c.wave.steps.length (IL c.wave.steps)] id (L2 ++ wavW c k)) ?_ ?_
              · have gb := hL.b
                have gl := hL.l
                obtain ⟨o1, o2⟩ := hL.o
                have ll := sl_len L2
                have hA := hL.app s3 (Nat.le_refl _) (fun _ _ => rfl) (waveT c.wave)
                have hA2 : L2.length + (waveT c.wave).length = (L2 ++ waveT c.wave).length := by rw [List.length_append]
                have hp := writeW_ax c.wave (by omega) (by omega) h6
                have hwl := (waveT_by c.wave h6).1
                have e1 := sl_len (waveT c.wave)
                have e2 := sl_take (waveT c.wave)
                have e3 := sl_one (waveT c.wave)
                unfold WA NV IV iv TV at hp
                generalize hT : waveT c.wave = T at *
                by_cases hk : k = 118
                · have hk2 : (k : Int) = 118 := by omega
                  rw [show wavW c k = T from (if_pos (.inl hk)).trans hT]
                  refine go (cj rTI (cj @n1 (cj @p5 @hk2))) ?_
                  refine ifs ?_ ?_ <;> first | exact nope | intro hb
                  refine aw_reg fun K hK => ?_; refine rn (cj rTI (cj @p1 (cj @p4 (cj @gb (cj @gl (cj @ll (cj @e1 (cj @e2 @e3)))))))) ?_; refine cont_pure hp ?_; refine rn (cj rTI (cj @p1 (cj @p4 (cj @gb (cj @gl (cj @ll (cj @e1 (cj @e2 @e3)))))))) ?_; refine hK _ _ ?_; clear hK K
                  refine go (cj rTI (cj @n1 @p1)) ?_
                  refine ⟨rfl, ?_, ?_, s3.nx, ?_, hA⟩
                  all_goals ((first | refine rn (cj @n1 (cj @p1 (cj @p4 @p5))) ?_ | exact rn0 (cj @n1 (cj @p1 (cj @p4 @p5)))))
                  all_goals (first | trivial | rfl | rw [hA2])
                · have hk2 : ¬ (k : Int) = 118 := by omega
                  by_cases hk3 : k = 105
                  · have hk4 : (k : Int) = 105 := by omega
                    rw [show wavW c k = T from (if_pos (.inr hk3)).trans hT]
                    refine go (cj rTI (cj @n1 (cj @p5 @hk4))) ?_
                    refine ifs ?_ ?_ <;> first | exact nope | intro hb
                    refine aw_reg fun K hK => ?_; refine rn (cj rTI (cj @p1 (cj @p4 (cj @gb (cj @gl (cj @ll (cj @e1 (cj @e2 @e3)))))))) ?_; refine cont_pure hp ?_; refine rn (cj rTI (cj @p1 (cj @p4 (cj @gb (cj @gl (cj @ll (cj @e1 (cj @e2 @e3)))))))) ?_; refine hK _ _ ?_; clear hK K
                    refine go (cj rTI (cj @n1 @p1)) ?_
                    refine ⟨rfl, ?_, ?_, s3.nx, ?_, hA⟩
                    all_goals ((first | refine rn (cj @n1 (cj @p1 (cj @p4 @p5))) ?_ | exact rn0 (cj @n1 (cj @p1 (cj @p4 @p5)))))
                    all_goals (first | trivial | rfl | rw [hA2])
                  · have hk4 : ¬ (k : Int) = 105 := by omega
                    rw [show wavW c k = [] from if_neg (fun h => h.elim hk hk3), List.append_nil]
                    refine go (cj rTI (cj @n1 (cj @p5 (cj @hk2 @hk4)))) ?_
                    refine ifs ?_ ?_ <;> first | exact nope | intro hb
                    refine go (cj rTI (cj @n1 (cj @p1 @p4))) ?_
                    exact ⟨id2, rfl, hL⟩
              · clear hL n1 p1 p4 p5
                rintro e4 s4 ⟨n1, p1, id3, p4, hL⟩
                rw [then_normal]
                rw [← hww] at hL p4
                obtain ⟨o1, o2⟩ := hL.o
                have hwl : (wordsC c).length ≤ 100 := by
                  rw [hww, List.length_append]
                  have : (wavW c k).length ≤ 65 := by
                    unfold wavW
                    split
                    · have := (waveT_by c.wave h6).1
                      omega
                    · exact Nat.zero_le _
                  omega
                have hwb := words_by c ⟨h1, h2, h3, h4, h5, h6⟩
                have hrd := read_ax (wordsC c) (fun x hx => (hwb x hx).1) (fun x hx => (hwb x hx).2) (by omega)
                have hrb := read_by (wordsC c) (fun x hx => (hwb x hx).1)
                have hwr : writeC c = if (readC (wordsC c)).2 = 0 ∧ (readC (wordsC c)).1.ref = c.ref ∧ (readC (wordsC c)).1.value = c.value ∧ (readC (wordsC c)).1.nodes = c.nodes ∧ sameW (readC (wordsC c)).1.wave c.wave = true then (wordsC c, 0) else ([], 70) := if_pos ⟨q1, q2, q3, q4⟩
                rw [hwr]
                clear hwr hww hwb hno hln hl0 hl1 hl2 hL0
                generalize readC (wordsC c) = d at *
                generalize wordsC c = W at *
                obtain ⟨d, er⟩ := d
                simp only at hrb ⊢
                refine aw_freeze2 id3 _ hL.l (fun _ => false) fun e5 s5 f1 f2 f3 f4 => ?_
                have m1 : e5.n = 120 := f1.trans n1
                have m2 : e5.m 1 = .ptr s.nx 0 := by rw [f2, p1, frz_ptr_ne _ _ _ _ (by omega)]
                have m4 : e5.m 4 = .sl W.length (SL W) := by rw [f2, p4, frz_SL]; rfl
                have gb : s5.get s.nx = some [.v (.string (bs c.name)), .sl c.nodes.length (SL c.nodes), .v (.string (bs c.ref)), .v (.int .i64 c.value.1), .v (.int .i64 c.value.2), .v (.int .i64 c.wave.kind), .sl c.wave.vals.length (NC c.wave.vals), .sl c.wave.steps.length (IL c.wave.steps)] := by
                  rw [f4, if_neg (by omega), if_neg Bool.false_ne_true]
                  exact hL.b
                have fr : ∀ i, i < s.nx → s5.get i = s.get i := fun i hi => by
                  rw [f4, if_neg (by omega), if_neg Bool.false_ne_true]
                  exact hL.fr i hi
                have hnx : s.nx < s5.nx := by rw [f3]; omega
                clear f1 f2 f3 f4 n1 p1 p4 hL
                unfold RA CA SV TV NV IV iv at hrd
                simp only at hrd
                refine go (cj rTI (cj @m1 @m4)) ?_
                refine aw_reg fun K hK => ?_; refine rn (cj rTI (cj @m1 @m4)) ?_; refine cont_pure hrd ?_; refine rn (cj rTI (cj @m1 @m4)) ?_; refine hK _ _ ?_; clear hK K
                have hrr := str_ne d.ref c.ref hrb.1 h3.1
                have hf5 : eqOk Tryz.prog 24 = true := by kernel_rfl
                have hf6 : (d.value.1 == c.value.1 && d.value.2 == c.value.2) = decide (d.value = c.value) := by rw [Bool.eq_iff_iff, decide_eq_true_eq, Prod.ext_iff]; simp
                have hnd := equalS_ax d.nodes c.nodes hrb.2.1 h2.1 (by omega) h2.2.2
                have hsw := sameW_ax d.wave c.wave (by omega) (by omega) h4 h5
                unfold TV at hnd
                unfold WA NV IV iv at hsw
                by_cases x1 : er = 0
                · by_cases x2 : d.ref = c.ref
                  · rw [decide_eq_true x2] at hrr
                    by_cases x3 : d.value = c.value
                    · rw [decide_eq_true x3] at hf6
                      by_cases x4 : d.nodes = c.nodes
                      · rw [decide_eq_true x4] at hnd
                        generalize sameW d.wave c.wave = x5 at *
                        cases x5 with
                        | true =>
                          rw [if_pos ⟨x1, x2, x3, x4, rfl⟩]
                          rw [then_normal]
                          refine aw_seq ?_
                          refine aw_seq ?_
                          refine aw_reg fun K hK => ?_; refine rn (cj rTI (cj @m1 (cj @m2 (cj @gb (cj @hnx (cj @x1 (cj @hrr (cj @hf5 @hf6)))))))) ?_; refine cont_pure hnd ?_; refine rn (cj rTI (cj @m1 (cj @m2 (cj @gb (cj @hnx (cj @x1 (cj @hrr (cj @hf5 @hf6)))))))) ?_; refine cont_pure hsw ?_; refine rn (cj rTI (cj @m1 (cj @m2 (cj @gb (cj @hnx (cj @x1 (cj @hrr (cj @hf5 @hf6)))))))) ?_; refine hK _ _ ?_; clear hK K
                          refine ifs ?_ ?_ <;> first | exact nope | intro hb
                          refine go (cj rTI (cj @m1 @m4)) ?_
                          exact ⟨Le.refl _, pa_idf _, fun i hi => by rw [if_neg (by omega)]; exact fr i hi⟩
                        | false =>
                          rw [if_neg fun h => by cases h.2.2.2.2]
                          rw [then_normal]
                          refine aw_seq ?_
                          refine aw_seq ?_
                          refine aw_reg fun K hK => ?_; refine rn (cj rTI (cj @m1 (cj @m2 (cj @gb (cj @hnx (cj @x1 (cj @hrr (cj @hf5 @hf6)))))))) ?_; refine cont_pure hnd ?_; refine rn (cj rTI (cj @m1 (cj @m2 (cj @gb (cj @hnx (cj @x1 (cj @hrr (cj @hf5 @hf6)))))))) ?_; refine cont_pure hsw ?_; refine rn (cj rTI (cj @m1 (cj @m2 (cj @gb (cj @hnx (cj @x1 (cj @hrr (cj @hf5 @hf6)))))))) ?_; refine hK _ _ ?_; clear hK K
                          refine ifs ?_ ?_ <;> first | exact nope | intro hb
                          refine go (cj rTI @m1) ?_
                          exact ⟨pa_err 70, pa_idf _, fun i hi => by rw [if_neg (by omega)]; exact fr i hi⟩
                      · rw [decide_eq_false x4] at hnd
                        rw [if_neg fun h => x4 h.2.2.2.1]
                        rw [then_normal]
                        refine aw_seq ?_
                        refine aw_seq ?_
                        refine aw_reg fun K hK => ?_; refine rn (cj rTI (cj @m1 (cj @m2 (cj @gb (cj @hnx (cj @x1 (cj @hrr (cj @hf5 @hf6)))))))) ?_; refine cont_pure hnd ?_; refine rn (cj rTI (cj @m1 (cj @m2 (cj @gb (cj @hnx (cj @x1 (cj @hrr (cj @hf5 @hf6)))))))) ?_; refine hK _ _ ?_; clear hK K
                        refine ifs ?_ ?_ <;> first | exact nope | intro hb
                        refine go (cj rTI @m1) ?_
                        exact ⟨pa_err 70, pa_idf _, fun i hi => by rw [if_neg (by omega)]; exact fr i hi⟩
                    · rw [decide_eq_false x3] at hf6
                      rw [if_neg fun h => x3 h.2.2.1]
                      rw [then_normal]
                      refine aw_seq ?_
                      refine aw_seq ?_
                      refine go (cj rTI (cj @m1 (cj @m2 (cj @gb (cj @hnx (cj @x1 (cj @hrr (cj @hf5 @hf6)))))))) ?_
                      refine ifs ?_ ?_ <;> first | exact nope | intro hb
                      refine go (cj rTI @m1) ?_
                      exact ⟨pa_err 70, pa_idf _, fun i hi => by rw [if_neg (by omega)]; exact fr i hi⟩
                  · rw [decide_eq_false x2] at hrr
                    rw [if_neg fun h => x2 h.2.1]
                    rw [then_normal]
                    refine aw_seq ?_
                    refine aw_seq ?_
                    refine go (cj rTI (cj @m1 (cj @m2 (cj @gb (cj @hnx (cj @x1 @hrr)))))) ?_
                    refine ifs ?_ ?_ <;> first | exact nope | intro hb
                    refine go (cj rTI @m1) ?_
                    exact ⟨pa_err 70, pa_idf _, fun i hi => by rw [if_neg (by omega)]; exact fr i hi⟩
                · rw [if_neg fun h => x1 h.1]
                  rw [then_normal]
                  refine aw_seq ?_
                  refine aw_seq ?_
                  refine go (cj rTI (cj @m1 (cj @m2 (cj @gb (cj @hnx @x1))))) ?_
                  refine ifs ?_ ?_ <;> first | exact nope | intro hb
                  refine go (cj rTI @m1) ?_
                  exact ⟨pa_err 70, pa_idf _, fun i hi => by rw [if_neg (by omega)]; exact fr i hi⟩
        · rw [hno fun h => q4 h.2.2.2]
          refine acall_of Tryz.func31 rfl rfl (by simp [Tryz.ntmps31]) ?_; rw [Tryz.ntmps31, Tryz.results31]
          refine go rTI ?_
          refine aw_reg fun K hK => ?_; refine rn rTI ?_; refine cont_pure hd ?_; refine rn rTI ?_; refine hK _ _ ?_; clear hK K
          refine ifs ?_ ?_ <;> first | exact nope | intro hb
          refine go rTI ?_
          exact ⟨pa_err 70, pa_idf _, fun i hi => if_neg (by omega)⟩
      · rw [hno fun h => q3 h.2.2.1]
        refine acall_of Tryz.func31 rfl rfl (by simp [Tryz.ntmps31]) ?_; rw [Tryz.ntmps31, Tryz.results31]
        refine go rTI ?_
        refine aw_reg fun K hK => ?_; refine rn rTI ?_; refine cont_pure hd ?_; refine rn rTI ?_; refine hK _ _ ?_; clear hK K
        refine ifs ?_ ?_ <;> first | exact nope | intro hb
        refine go rTI ?_
        exact ⟨pa_err 70, pa_idf _, fun i hi => if_neg (by omega)⟩
    · rw [hno fun h => q2 h.2.1]
      refine acall_of Tryz.func31 rfl rfl (by simp [Tryz.ntmps31]) ?_; rw [Tryz.ntmps31, Tryz.results31]
      refine go rTI ?_
      refine aw_reg fun K hK => ?_; refine rn rTI ?_; refine cont_pure hd ?_; refine rn rTI ?_; refine hK _ _ ?_; clear hK K
      refine ifs ?_ ?_ <;> first | exact nope | intro hb
      refine go rTI ?_
      exact ⟨pa_err 70, pa_idf _, fun i hi => if_neg (by omega)⟩
  · rw [hno fun h => q1 h.1]
    rw [Bool.eq_false_iff.2 q1] at hd
    refine acall_of Tryz.func31 rfl rfl (by simp [Tryz.ntmps31]) ?_; rw [Tryz.ntmps31, Tryz.results31]
    refine go rTI ?_
    refine aw_reg fun K hK => ?_; refine rn rTI ?_; refine cont_pure hd ?_; refine rn rTI ?_; refine hK _ _ ?_; clear hK K
    refine ifs ?_ ?_ <;> first | exact nope | intro hb
    refine go rTI ?_
    exact ⟨pa_err 70, pa_idf _, fun i hi => if_neg (by omega)⟩
end Go.Proofs.YtfjelkjlfcafgaaGreatDoor.CardK
end
section
/- Models: Valid. -/
namespace Go.Proofs.YtfjelkjlfcafgaaGreatDoor.CardL
open Go Go.RowKit Go.Proofs.YtfjelkjlfcafgaaGreatDoor.Ax Go.Proofs.YtfjelkjlfcafgaaGreatDoor.Ti Go.Proofs.YtfjelkjlfcafgaaGreatDoor.NumS Go.Proofs.YtfjelkjlfcafgaaGreatDoor.NumT Go.Proofs.YtfjelkjlfcafgaaGreatDoor.CardS Go.Proofs.YtfjelkjlfcafgaaGreatDoor.CardP Go.Proofs.YtfjelkjlfcafgaaGreatDoor.CardA Go.Proofs.YtfjelkjlfcafgaaGreatDoor.CardB Go.Proofs.YtfjelkjlfcafgaaGreatDoor.CardC Go.Proofs.YtfjelkjlfcafgaaGreatDoor.CardD Go.Proofs.YtfjelkjlfcafgaaGreatDoor.CardE Go.Proofs.YtfjelkjlfcafgaaGreatDoor.CardF Go.Proofs.YtfjelkjlfcafgaaGreatDoor.CardG Go.Proofs.YtfjelkjlfcafgaaGreatDoor.CardH Go.Proofs.YtfjelkjlfcafgaaGreatDoor.CardI Go.Proofs.YtfjelkjlfcafgaaGreatDoor.CardJ Go.Proofs.YtfjelkjlfcafgaaGreatDoor.CardK
open Go.Proofs.YtfjelkjlfcafgaaGreatDoor.NumA (NM)
set_option linter.unusedSimpArgs false
set_option linter.unusedVariables false
set_option maxRecDepth 4000
set_option maxHeartbeats 2000000
theorem rTI : type_of% (cj @ti3 (cj @ti4 (cj @ti9 (cj @ti5 (cj @ti2 (cj @ti36 (cj @ti63 (cj @ti62 (cj @ti191 (cj @ti24 (cj @ti82 (cj @ti25 (cj @Nat.zero_add (cj @tz0 (cj @tz1 (cj @tz3 (cj @Nat.mul_one @Int.toNat_natCast))))))))))))))))) := cj @ti3 (cj @ti4 (cj @ti9 (cj @ti5 (cj @ti2 (cj @ti36 (cj @ti63 (cj @ti62 (cj @ti191 (cj @ti24 (cj @ti82 (cj @ti25 (cj @Nat.zero_add (cj @tz0 (cj @tz1 (cj @tz3 (cj @Nat.mul_one @Int.toNat_natCast))))))))))))))))
def MA (m : Mdl) : AV := .ag [SV m.name, .v (.int .u8 m.kind), NV m.g, NV m.v]
theorem risingN_of : ∀ (S : List Num), (∀ i, i + 1 < S.length → sLess (S.getD i (0, 0)) (S.getD (i + 1) (0, 0)) = true) → risingN S = true
  | [], _ => rfl
  | [_], _ => rfl
  | a :: b :: r, h => by
    show (sLess a b && risingN (b :: r)) = true
    rw [Bool.and_eq_true]
    refine ⟨h 0 (by simp), risingN_of (b :: r) fun i hi => ?_⟩
    have := h (i + 1) (by simpa using hi)
    simpa using this
theorem risingN_not : ∀ (S : List Num) (i : Nat), i + 1 < S.length → sLess (S.getD i (0, 0)) (S.getD (i + 1) (0, 0)) = false → risingN S = false
  | [], _, h, _ => by simp at h
  | [_], _, h, _ => by simp at h
  | a :: b :: r, 0, h, q => by
    show (sLess a b && risingN (b :: r)) = false
    have : sLess a b = false := q
    rw [this, Bool.false_and]
  | a :: b :: r, i + 1, h, q => by
    show (sLess a b && risingN (b :: r)) = false
    rw [risingN_not (b :: r) i (by simpa using h) (by simpa using q), Bool.and_false]
def kindM (k : Int) (g v : List Num) : Bool := if k = 115 then decide (g.length = 2 ∧ v.length = 1) else if k = 100 then decide (1 ≤ g.length ∧ g.length ≤ 4 ∧ v.length + 1 = g.length) && risingN v else false
theorem modelOk_eq (n : Str) (k : Int) (g v : List Num) : modelOk ⟨n, k, g, v⟩ = (isName n && g.all valid && v.all valid && kindM k g v) := rfl
theorem mvalid_ax (m : Mdl) (hn : By m.name ∧ m.name.length ≤ 281474976710656) (hg : m.g.length ≤ 9223372036854775807) (hv : m.v.length ≤ 9223372036854775807) : PCall Tryz.prog 98 [MA m] (.v (.bool (modelOk m))) := by
  refine pcall_of fun s => ?_
  obtain ⟨nm, kd, G, V⟩ := m
  rw [modelOk_eq]
  simp only at hn hg hv
  have hnm := name_ax nm hn.1 (by have := hn.2; omega)
  unfold MA NV
  unfold SV at hnm ⊢
  simp only
  cases hc : isName nm with
  | false =>
    rw [hc] at hnm
    rw [Bool.false_and, Bool.false_and, Bool.false_and]
    refine acall_of Tryz.func98 rfl rfl (by simp [Tryz.ntmps98]) ?_; rw [Tryz.ntmps98, Tryz.results98]
    refine go rTI ?_
    refine aw_reg fun K hK => ?_; refine rn rTI ?_; refine cont_pure hnm ?_; refine rn rTI ?_; refine hK _ _ ?_; clear hK K
    refine ifs ?_ ?_ <;> first | exact nope | intro hb
    refine go rTI ?_
    exact fun i hi => if_neg (by omega)
  | true =>
    rw [hc] at hnm
    rw [Bool.true_and]
    refine acall_of Tryz.func98 rfl rfl (by simp [Tryz.ntmps98]) ?_; rw [Tryz.ntmps98, Tryz.results98]
    refine go rTI ?_
    refine aw_reg fun K hK => ?_; refine rn rTI ?_; refine cont_pure hnm ?_; refine rn rTI ?_; refine hK _ _ ?_; clear hK K
    refine ifs ?_ ?_ <;> first | exact nope | intro hb
    refine go rTI ?_
    refine aw_loop (fun m e s' => ∃ j, m = 2 - j ∧ j ≤ 2 ∧ e.n = 93 ∧ e.m 1 = .ptr s.nx 0 ∧ e.m 18 = .ag [.sl G.length (NC G), .sl V.length (NC V)] ∧ e.m 19 = .v (.int .i64 (j : Nat)) ∧ (1 ≤ j → G.all valid = true) ∧ (2 ≤ j → V.all valid = true) ∧ s.nx < s'.nx ∧ s'.get s.nx = some [.v (.string (bs nm)), .v (.int .u8 kd), .sl G.length (NC G), .sl V.length (NC V)] ∧ ∀ i, i < s.nx → s'.get i = s.get i) 2 ?_ ?_
    · refine ⟨0, by omega, by omega, ?_, ?_, ?_, ?_, fun h => by omega, fun h => by omega, Nat.lt_succ_self _, St.push_same _ _, fun i hi => St.push_ne s _ _ (by omega)⟩
      all_goals ((first | refine rn rTI ?_ | exact rn0 rTI))
      all_goals (first | rfl | trivial)
    · rintro m e s' ⟨j, rfl, hj, h1, k1, k18, k19, hG, hV, hn2, gb, fr⟩
      by_cases hj2 : j < 2
      · obtain ⟨L, hh, hbad, hok, hL⟩ : ∃ L : List Num, ([AV.sl G.length (NC G), AV.sl V.length (NC V)].drop j).head? = some (.sl L.length (NC L)) ∧ (L.all valid = false → (G.all valid && V.all valid && kindM kd G V) = false) ∧ (L.all valid = true → (1 ≤ j + 1 → G.all valid = true) ∧ (2 ≤ j + 1 → V.all valid = true)) ∧ L.length ≤ 9223372036854775807 := by
          match j, hj2 with
          | 0, _ => exact ⟨G, rfl, fun h => by rw [h, Bool.false_and, Bool.false_and], fun h => ⟨fun _ => h, fun q => by omega⟩, hg⟩
          | 1, _ => exact ⟨V, rfl, fun h => by rw [h, Bool.and_false, Bool.false_and], fun h => ⟨fun _ => hG (by omega), fun _ => h⟩, hv⟩
        refine go (cj rTI (cj @h1 @k19)) ?_
        refine ifs ?_ ?_ <;> first | exact nope | intro hb
        refine aw_skip ?_
        refine go (cj rTI (cj @h1 (cj @k18 (cj @k19 @hh)))) ?_
        clear hG hV hh
        refine aw_loop (fun m e2 s2 => ∃ k, m = L.length - k ∧ k ≤ L.length ∧ e2.n = 93 ∧ e2.m 1 = .ptr s.nx 0 ∧ e2.m 18 = .ag [.sl G.length (NC G), .sl V.length (NC V)] ∧ e2.m 19 = .v (.int .i64 (j : Nat)) ∧ e2.m 22 = .sl L.length (NC L) ∧ e2.m 23 = .v (.int .i64 L.length) ∧ e2.m 24 = .v (.int .i64 (k : Nat)) ∧ (L.take k).all valid = true ∧ s.nx < s2.nx ∧ s2.get s.nx = some [.v (.string (bs nm)), .v (.int .u8 kd), .sl G.length (NC G), .sl V.length (NC V)] ∧ ∀ i, i < s.nx → s2.get i = s.get i) L.length ?_ ?_
        · refine ⟨0, by omega, by omega, ?_, ?_, ?_, ?_, ?_, ?_, ?_, rfl, hn2, gb, fr⟩
          all_goals ((first | refine rn (cj rTI (cj @h1 (cj @k1 (cj @k18 @k19)))) ?_ | exact rn0 (cj rTI (cj @h1 (cj @k1 (cj @k18 @k19))))))
          all_goals (first | rfl | trivial)
        · clear h1 k1 k18 k19 hn2 gb fr
          rintro m e2 s2 ⟨k, rfl, hk, h1, k1, k18, k19, k22, k23, k24, ha, hn2, gb, fr⟩
          by_cases hk2 : k < L.length
          · have f1 := nc_at L k hk2
            have f2 : 2 ≤ ((NC L).drop (k * 2)).length := by rw [List.length_drop, nc_len]; omega
            have hp : PCall Tryz.prog 18 [NM (L.getD k (0, 0)).1 (L.getD k (0, 0)).2] (.v (.bool (valid (L.getD k (0, 0))))) := NumA.valid_ax _ _
            have ht := take_all valid L (0, 0) k hk2 ha
            have hf := all_not valid L (0, 0) k hk2
            unfold iv at f1
            unfold NM at hp
            generalize L.getD k (0, 0) = n at *
            refine go (cj rTI (cj @h1 (cj @k23 @k24))) ?_
            refine ifs ?_ ?_ <;> first | exact nope | intro hb
            refine aw_skip ?_
            refine go (cj rTI (cj @h1 (cj @k22 (cj @k24 (cj @f1 @f2))))) ?_
            refine aw_reg fun K hK => ?_; refine rn rTI ?_; refine cont_pure hp ?_; refine rn rTI ?_; refine hK _ _ ?_; clear hK K
            cases hc : valid n with
            | false =>
              rw [hbad (hf hc)]
              refine ifs ?_ ?_ <;> first | exact nope | intro hb
              refine go (cj rTI @h1) ?_
              exact fun i hi => by rw [if_neg (by omega)]; exact fr i hi
            | true =>
              rw [hc] at ht
              refine ifs ?_ ?_ <;> first | exact nope | intro hb
              refine go (cj rTI (cj @h1 @k24)) ?_
              simp only [block_normal, loop_normal]
              refine ⟨L.length - (k + 1), by omega, k + 1, rfl, by omega, ?_, ?_, ?_, ?_, ?_, ?_, ?_, ht, ?_, ?_, ?_⟩
              all_goals ((first | refine rn (cj rTI (cj @h1 (cj @k1 (cj @k18 (cj @k19 (cj @k22 (cj @k23 @k24))))))) ?_ | exact rn0 (cj rTI (cj @h1 (cj @k1 (cj @k18 (cj @k19 (cj @k22 (cj @k23 @k24)))))))))
              all_goals (first | rfl | trivial | (rw [St.nx_push]; omega) | omega | (intro i hi; rw [if_neg (by omega)]; exact fr i hi) | skip)
          · obtain rfl : k = L.length := by omega
            rw [List.take_length] at ha
            obtain ⟨hG, hV⟩ := hok ha
            refine go (cj rTI (cj @h1 (cj @k19 (cj @k23 @k24)))) ?_
            refine ifs ?_ ?_ <;> first | exact nope | intro hb
            refine go (cj rTI (cj @h1 @k19)) ?_
            simp only [block_normal, loop_normal]
            refine ⟨2 - (j + 1), by omega, j + 1, rfl, by omega, ?_, ?_, ?_, ?_, hG, hV, hn2, gb, fr⟩
            all_goals ((first | refine rn (cj rTI (cj @h1 (cj @k1 (cj @k18 @k19)))) ?_ | exact rn0 (cj rTI (cj @h1 (cj @k1 (cj @k18 @k19))))))
            all_goals (first | rfl | trivial)
      · obtain rfl : j = 2 := by omega
        have hVa : ∀ i, i < V.length → valid (V.getD i (0, 0)) = true := fun i hi => by
          rw [List.getD_eq_getElem?_getD, List.getElem?_eq_getElem hi]
          exact List.all_eq_true.1 (hV (by omega)) _ (List.getElem_mem _)
        rw [hG (by omega), hV (by omega), Bool.true_and, Bool.true_and]
        clear hG hV hj hj2
        unfold kindM
        by_cases q1 : kd = 115
        · rw [if_pos q1]
          subst q1
          have hd2 : decide (G.length = 2 ∧ V.length = 1) = (decide (G.length = 2) && decide (V.length = 1)) := by rw [Bool.decide_and]
          rw [hd2]
          refine go (cj rTI (cj @h1 (cj @k1 (cj @k19 @gb)))) ?_
          refine ifs ?_ ?_ <;> first | exact nope | intro hb
          refine go (cj rTI (cj @h1 (cj @k1 @gb))) ?_
          refine ifs ?_ ?_ <;> first | exact nope | intro hb
          by_cases c1 : G.length = 2
          · by_cases c2 : V.length = 1
            · rw [decide_eq_true c1, decide_eq_true c2]
              refine go (cj rTI (cj @h1 (cj @k1 @gb))) ?_
              exact fr
            · rw [decide_eq_true c1, decide_eq_false c2]
              refine go (cj rTI (cj @h1 (cj @k1 @gb))) ?_
              exact fr
          · rw [decide_eq_false c1, Bool.false_and]
            refine go (cj rTI (cj @h1 (cj @k1 @gb))) ?_
            exact fr
        rw [if_neg q1]
        by_cases q2 : kd = 100
        · rw [if_pos q2]
          subst q2
          refine go (cj rTI (cj @h1 (cj @k1 (cj @k19 @gb)))) ?_
          refine ifs ?_ ?_ <;> first | exact nope | intro hb
          refine go (cj rTI (cj @h1 (cj @k1 @gb))) ?_
          refine ifs ?_ ?_ <;> first | exact nope | intro hb
          refine go (cj rTI (cj @h1 (cj @k1 @gb))) ?_
          refine ifs ?_ ?_ <;> first | exact nope | intro hb
          rcases (by omega : G.length < 1 ∨ (1 ≤ G.length ∧ 4 < G.length) ∨ (1 ≤ G.length ∧ G.length ≤ 4 ∧ ¬ V.length + 1 = G.length) ∨ (1 ≤ G.length ∧ G.length ≤ 4 ∧ V.length + 1 = G.length)) with c | ⟨c1, c2⟩ | ⟨c1, c2, c3⟩ | ⟨c1, c2, c3⟩
          · rw [decide_eq_false (fun h => by omega), Bool.false_and]
            refine go (cj rTI (cj @h1 (cj @k1 @gb))) ?_
            refine ifs ?_ ?_ <;> first | exact nope | intro hb
            refine go (cj rTI @h1) ?_
            exact fr
          · rw [decide_eq_false (fun h => by omega), Bool.false_and]
            refine go (cj rTI (cj @h1 (cj @k1 @gb))) ?_
            refine ifs ?_ ?_ <;> first | exact nope | intro hb
            refine go (cj rTI @h1) ?_
            exact fr
          · rw [decide_eq_false (fun h => by omega), Bool.false_and]
            refine go (cj rTI (cj @h1 (cj @k1 @gb))) ?_
            refine ifs ?_ ?_ <;> first | exact nope | intro hb
            refine go (cj rTI @h1) ?_
            exact fr
          · rw [decide_eq_true ⟨c1, c2, c3⟩, Bool.true_and]
            refine go (cj rTI (cj @h1 (cj @k1 @gb))) ?_
            refine ifs ?_ ?_ <;> first | exact nope | intro hb
            refine go (cj rTI @h1) ?_
            refine aw_loop (fun m e2 s2 => ∃ j, m = V.length - j ∧ j ≤ V.length ∧ e2.n = 93 ∧ e2.m 1 = .ptr s.nx 0 ∧ e2.m 7 = .v (.int .i64 ((j : Int) + 1)) ∧ (∀ i, i < j → i + 1 < V.length → sLess (V.getD i (0, 0)) (V.getD (i + 1) (0, 0)) = true) ∧ s2 = s') V.length ?_ ?_
            · refine ⟨0, by omega, by omega, ?_, ?_, ?_, fun i hi => by omega, ?_⟩
              all_goals ((first | refine rn (cj rTI (cj @h1 @k1)) ?_ | exact rn0 (cj rTI (cj @h1 @k1))))
              all_goals (first | rfl | trivial)
            · clear h1 k1 k18 k19
              rintro m e2 s2 ⟨j, rfl, hj, h1, k1, k7, hr, rfl⟩
              by_cases hj2 : j + 1 < V.length
              · have f1 := nc_at V j (by omega)
                have f2 : 2 ≤ ((NC V).drop (j * 2)).length := by rw [List.length_drop, nc_len]; omega
                have f3 := nc_at V (j + 1) hj2
                have f4 : 2 ≤ ((NC V).drop ((j + 1) * 2)).length := by rw [List.length_drop, nc_len]; omega
                have hcm := NumB.cmp_ax (V.getD j (0, 0)).1 (V.getD j (0, 0)).2 (V.getD (j + 1) (0, 0)).1 (V.getD (j + 1) (0, 0)).2
                rw [NumB.cmpNN_eq, if_pos ⟨hVa j (by omega), hVa (j + 1) hj2⟩, show @BigI.sgn = @RefC.sgn from rfl] at hcm
                have hnr := risingN_not V j hj2
                have hpr : sLess (V.getD j (0, 0)) (V.getD (j + 1) (0, 0)) = true → ∀ i, i < j + 1 → i + 1 < V.length → sLess (V.getD i (0, 0)) (V.getD (i + 1) (0, 0)) = true := fun h i hi hi2 => by
                  by_cases q : i = j
                  · subst q; exact h
                  · exact hr i (by omega) hi2
                have hsl : sLess (V.getD j (0, 0)) (V.getD (j + 1) (0, 0)) = decide (RefC.sgn ((RefM.ofN (V.getD j (0, 0)).1 (V.getD j (0, 0)).2).1 * (RefM.ofN (V.getD (j + 1) (0, 0)).1 (V.getD (j + 1) (0, 0)).2).2 - (RefM.ofN (V.getD (j + 1) (0, 0)).1 (V.getD (j + 1) (0, 0)).2).1 * (RefM.ofN (V.getD j (0, 0)).1 (V.getD j (0, 0)).2).2) < 0) := rfl
                rw [hsl] at hnr hpr
                clear hr hsl
                generalize hz : RefC.sgn ((RefM.ofN (V.getD j (0, 0)).1 (V.getD j (0, 0)).2).1 * (RefM.ofN (V.getD (j + 1) (0, 0)).1 (V.getD (j + 1) (0, 0)).2).2 - (RefM.ofN (V.getD (j + 1) (0, 0)).1 (V.getD (j + 1) (0, 0)).2).1 * (RefM.ofN (V.getD j (0, 0)).1 (V.getD j (0, 0)).2).2) = z at hcm hnr hpr
                clear hz
                unfold iv at f1 f3
                unfold NM at hcm
                generalize V.getD (j + 1) (0, 0) = x1 at *
                generalize V.getD j (0, 0) = x0 at *
                have hj3 : (j : Int) + 1 - 1 = (j : Int) := by omega
                have hj4 : ((j : Int) + 1).toNat = j + 1 := by omega
                refine go (cj rTI (cj @h1 (cj @k1 (cj @k7 @gb)))) ?_
                refine ifs ?_ ?_ <;> first | exact nope | intro hb
                refine aw_skip ?_
                refine go rTI ?_
                refine aw_drw (.take 0 (.take 1 (.take 2 (.take 3 (.take 4 (.take 5 (.take 6 (.take 7 (.take 8 (.take 9 (.take 10 (.one 11 (.take 12 (.take 13 (.take 14 (.take 15 (.take 16 (.done)))))))))))))))))) [s.nx] (by kernel_rfl) (by kernel_rfl) fun K hK => ?_; refine dr (cj rTI (cj @h1 (cj @k1 (cj @k7 (cj @gb (cj @f1 (cj @f2 (cj @f3 (cj @f4 (cj @hj3 @hj4)))))))))) ?_; refine cont_pure hcm ?_; refine dr (cj rTI (cj @h1 (cj @k1 (cj @k7 (cj @gb (cj @f1 (cj @f2 (cj @f3 (cj @f4 (cj @hj3 @hj4)))))))))) ?_; refine hK _ _ ?_; clear hK K
                by_cases c : z < 0
                · refine go (cj rTI @h1) ?_
                  refine ifs ?_ ?_ <;> first | exact nope | intro hb
                  have hp2 := hpr (decide_eq_true c)
                  refine go (cj rTI (cj @h1 @k7)) ?_
                  try simp only [block_normal, loop_normal]
                  refine ⟨V.length - (j + 1), by omega, j + 1, rfl, by omega, ?_, ?_, ?_, hp2, ?_⟩
                  all_goals ((first | refine rn (cj rTI (cj @h1 (cj @k1 @k7))) ?_ | exact rn0 (cj rTI (cj @h1 (cj @k1 @k7)))))
                  all_goals (first | rfl | trivial)
                · refine go (cj rTI @h1) ?_
                  refine ifs ?_ ?_ <;> first | exact nope | intro hb
                  rw [hnr (decide_eq_false c)]
                  refine go (cj rTI @h1) ?_
                  exact fr
              · have hR : risingN V = true := risingN_of V fun i hi => hr i (by omega) hi
                rw [hR]
                refine go (cj rTI (cj @h1 (cj @k1 (cj @k7 @gb)))) ?_
                refine ifs ?_ ?_ <;> first | exact nope | intro hb
                refine go (cj rTI @h1) ?_
                exact fr
        · rw [if_neg q2]
          refine go (cj rTI (cj @h1 (cj @k1 (cj @k19 @gb)))) ?_
          refine ifs ?_ ?_ <;> first | exact nope | intro hb
          refine go (cj rTI (cj @h1 (cj @k1 @gb))) ?_
          refine ifs ?_ ?_ <;> first | exact nope | intro hb
          refine go (cj rTI (cj @h1 (cj @k1 @gb))) ?_
          refine ifs ?_ ?_ <;> first | exact nope | intro hb
          refine go (cj rTI @h1) ?_
          exact fr
end Go.Proofs.YtfjelkjlfcafgaaGreatDoor.CardL
end
section
/- The document: the same texts, the same numbers, the same steps. (Made by gen_cardr.py.) -/
namespace Go.Proofs.YtfjelkjlfcafgaaGreatDoor.CardR
open Go Go.RowKit Go.Proofs.YtfjelkjlfcafgaaGreatDoor.Ax Go.Proofs.YtfjelkjlfcafgaaGreatDoor.Ti Go.Proofs.YtfjelkjlfcafgaaGreatDoor.NumS Go.Proofs.YtfjelkjlfcafgaaGreatDoor.NumT Go.Proofs.YtfjelkjlfcafgaaGreatDoor.CardS Go.Proofs.YtfjelkjlfcafgaaGreatDoor.CardP Go.Proofs.YtfjelkjlfcafgaaGreatDoor.CardA Go.Proofs.YtfjelkjlfcafgaaGreatDoor.CardB Go.Proofs.YtfjelkjlfcafgaaGreatDoor.CardC Go.Proofs.YtfjelkjlfcafgaaGreatDoor.CardD Go.Proofs.YtfjelkjlfcafgaaGreatDoor.CardE Go.Proofs.YtfjelkjlfcafgaaGreatDoor.CardG Go.Proofs.YtfjelkjlfcafgaaGreatDoor.CardH Go.Proofs.YtfjelkjlfcafgaaGreatDoor.CardI Go.Proofs.YtfjelkjlfcafgaaGreatDoor.CardL
open Go.Proofs.YtfjelkjlfcafgaaGreatDoor.NumA (NM)
set_option linter.unusedSimpArgs false
set_option linter.unusedVariables false
set_option maxRecDepth 4000
set_option maxHeartbeats 2000000
theorem rTI : type_of% (cj @ti3 (cj @ti4 (cj @ti9 (cj @ti5 (cj @ti2 (cj @ti36 (cj @ti63 (cj @ti62 (cj @ti24 (cj @ti65 (cj @ti82 (cj @ti67 (cj @Nat.zero_add (cj @tz0 (cj @tz1 (cj @tz3 (cj @Nat.mul_one @Int.toNat_natCast))))))))))))))))) := cj @ti3 (cj @ti4 (cj @ti9 (cj @ti5 (cj @ti2 (cj @ti36 (cj @ti63 (cj @ti62 (cj @ti24 (cj @ti65 (cj @ti82 (cj @ti67 (cj @Nat.zero_add (cj @tz0 (cj @tz1 (cj @tz3 (cj @Nat.mul_one @Int.toNat_natCast))))))))))))))))
theorem texts_ax (a b : List Str) (ga : BL a) (gb : BL b) (ha : a.length ≤ 9223372036854775807) (hb' : b.length ≤ 9223372036854775807) : PCall Tryz.prog 33 [TV a, TV b] (.v (.bool (decide (a = b)))) := by
  refine pcall_of fun s => ?_
  unfold TV
  by_cases hl : a.length = b.length
  · refine acall_of Tryz.func33 rfl rfl (by simp [Tryz.ntmps33]) ?_; rw [Tryz.ntmps33, Tryz.results33]
    refine go (cj rTI @hl) ?_
    refine ifs ?_ ?_ <;> first | exact nope | intro hb
    refine go (cj rTI @hl) ?_
    refine aw_loop (fun m e s' => ∃ k, m = b.length - k ∧ k ≤ b.length ∧ e.n = 26 ∧ e.m 0 = .sl b.length (SL a) ∧ e.m 1 = .sl b.length (SL b) ∧ e.m 5 = .v (.int .i64 (k : Nat)) ∧ a.take k = b.take k ∧ s' = s) b.length ?_ ?_
    · refine ⟨0, by omega, by omega, ?_⟩
      (repeat' refine And.intro ?_ ?_) <;> first | exact rfl | exact fnz (cj rTI @hl) | skip
    · rintro m e s' ⟨k, rfl, hk, h1, k0, k1, k5, ht, rfl⟩
      by_cases hk2 : k < b.length
      · have ha2 : k < a.length := by omega
        have f1 := hd_SL a k ha2
        have f2 := hd_SL b k hk2
        have f3 := str_ne (a.getD k []) (b.getD k []) (bl_at a ga k) (bl_at b gb k)
        unfold SV at f1 f2
        refine go (cj rTI (cj @h1 (cj @k0 @k5))) ?_
        refine ifs ?_ ?_ <;> first | exact nope | intro hb
        refine aw_skip ?_
        refine go rTI ?_
        refine aw_drw (.take 0 (.take 1 (.take 2 (.take 3 (.take 4 (.take 5 (.take 6 (.take 7 (.take 8 (.done)))))))))) [] (by kernel_rfl) (by kernel_rfl) fun K hK => ?_; refine dr (cj rTI (cj @h1 (cj @k0 (cj @k1 (cj @k5 (cj @f1 (cj @f2 @f3))))))) ?_; refine hK _ _ ?_; clear hK K
        by_cases q : a.getD k [] = b.getD k []
        · have ht2 := take_eq hl ha2 ht q
          rw [decide_eq_true q]
          refine ifs ?_ ?_ <;> first | exact nope | intro hb
          refine go (cj rTI (cj @h1 @k5)) ?_
          simp only [block_normal, loop_normal]
          refine ⟨b.length - (k + 1), by omega, k + 1, rfl, by omega, ?_, ?_, ?_, ?_, ht2, trivial⟩
          all_goals ((first | refine rn (cj @h1 (cj @k0 (cj @k1 @k5))) ?_ | exact rn0 (cj @h1 (cj @k0 (cj @k1 @k5)))))
          all_goals rfl
        · rw [decide_eq_false (ne_at q)]
          rw [decide_eq_false q]
          refine ifs ?_ ?_ <;> first | exact nope | intro hb
          exact go0 (cj rTI @h1)
      · obtain rfl : k = b.length := by omega
        rw [List.take_length, ← hl, List.take_length] at ht
        rw [decide_eq_true ht]
        refine go (cj rTI (cj @h1 (cj @k0 @k5))) ?_
        refine ifs ?_ ?_ <;> first | exact nope | intro hb
        exact go0 (cj rTI @h1)
  · rw [decide_eq_false fun h => hl (by rw [h])]
    have hl2 : ¬ ((a.length : Int) = (b.length : Int)) := by omega
    refine acall_of Tryz.func33 rfl rfl (by simp [Tryz.ntmps33]) ?_; rw [Tryz.ntmps33, Tryz.results33]
    refine go rTI ?_
    refine ifs ?_ ?_ <;> first | exact nope | intro hb
    exact go0 rTI
end Go.Proofs.YtfjelkjlfcafgaaGreatDoor.CardR
end
section
/- Models: WriteModel. -/
namespace Go.Proofs.YtfjelkjlfcafgaaGreatDoor.CardM
open Go Go.RowKit Go.Proofs.YtfjelkjlfcafgaaGreatDoor.Ax Go.Proofs.YtfjelkjlfcafgaaGreatDoor.Ti Go.Proofs.YtfjelkjlfcafgaaGreatDoor.NumS Go.Proofs.YtfjelkjlfcafgaaGreatDoor.NumT Go.Proofs.YtfjelkjlfcafgaaGreatDoor.CardS Go.Proofs.YtfjelkjlfcafgaaGreatDoor.CardP Go.Proofs.YtfjelkjlfcafgaaGreatDoor.CardA Go.Proofs.YtfjelkjlfcafgaaGreatDoor.CardB Go.Proofs.YtfjelkjlfcafgaaGreatDoor.CardC Go.Proofs.YtfjelkjlfcafgaaGreatDoor.CardD Go.Proofs.YtfjelkjlfcafgaaGreatDoor.CardE Go.Proofs.YtfjelkjlfcafgaaGreatDoor.CardF Go.Proofs.YtfjelkjlfcafgaaGreatDoor.CardG Go.Proofs.YtfjelkjlfcafgaaGreatDoor.CardH Go.Proofs.YtfjelkjlfcafgaaGreatDoor.CardI Go.Proofs.YtfjelkjlfcafgaaGreatDoor.CardJ Go.Proofs.YtfjelkjlfcafgaaGreatDoor.CardK Go.Proofs.YtfjelkjlfcafgaaGreatDoor.CardL
open Go.Proofs.YtfjelkjlfcafgaaGreatDoor.NumA (NM)
set_option linter.unusedSimpArgs false
set_option linter.unusedVariables false
set_option maxRecDepth 4000
set_option maxHeartbeats 2000000
theorem rTI : type_of% (cj @ti3 (cj @ti4 (cj @ti9 (cj @ti5 (cj @ti2 (cj @ti116 (cj @ti36 (cj @ti63 (cj @ti62 (cj @ti24 (cj @ti82 (cj @ti25 (cj @Nat.zero_add (cj @tz0 (cj @tz1 (cj @tz3 (cj @Nat.mul_one @Int.toNat_natCast))))))))))))))))) := cj @ti3 (cj @ti4 (cj @ti9 (cj @ti5 (cj @ti2 (cj @ti116 (cj @ti36 (cj @ti63 (cj @ti62 (cj @ti24 (cj @ti82 (cj @ti25 (cj @Nat.zero_add (cj @tz0 (cj @tz1 (cj @tz3 (cj @Nat.mul_one @Int.toNat_natCast))))))))))))))))
end Go.Proofs.YtfjelkjlfcafgaaGreatDoor.CardM
end
section
/- The document on models: Valid. -/
namespace Go.Proofs.YtfjelkjlfcafgaaGreatDoor.CardT
open Go Go.RowKit Go.Proofs.YtfjelkjlfcafgaaGreatDoor.Ax Go.Proofs.YtfjelkjlfcafgaaGreatDoor.Ti Go.Proofs.YtfjelkjlfcafgaaGreatDoor.NumS Go.Proofs.YtfjelkjlfcafgaaGreatDoor.NumT Go.Proofs.YtfjelkjlfcafgaaGreatDoor.CardS Go.Proofs.YtfjelkjlfcafgaaGreatDoor.CardP Go.Proofs.YtfjelkjlfcafgaaGreatDoor.CardA Go.Proofs.YtfjelkjlfcafgaaGreatDoor.CardB Go.Proofs.YtfjelkjlfcafgaaGreatDoor.CardC Go.Proofs.YtfjelkjlfcafgaaGreatDoor.CardD Go.Proofs.YtfjelkjlfcafgaaGreatDoor.CardE Go.Proofs.YtfjelkjlfcafgaaGreatDoor.CardF Go.Proofs.YtfjelkjlfcafgaaGreatDoor.CardG Go.Proofs.YtfjelkjlfcafgaaGreatDoor.CardH Go.Proofs.YtfjelkjlfcafgaaGreatDoor.CardL
open Go.Proofs.YtfjelkjlfcafgaaGreatDoor.NumA (NM)
set_option linter.unusedSimpArgs false
set_option linter.unusedVariables false
set_option maxRecDepth 4000
set_option maxHeartbeats 2000000
theorem rTI : type_of% (cj @ti3 (cj @ti4 (cj @ti9 (cj @ti5 (cj @ti2 (cj @ti36 (cj @ti63 (cj @ti62 (cj @ti24 (cj @ti82 (cj @Nat.zero_add (cj @tz0 (cj @tz1 (cj @tz3 (cj @Nat.mul_one @Int.toNat_natCast))))))))))))))) := cj @ti3 (cj @ti4 (cj @ti9 (cj @ti5 (cj @ti2 (cj @ti36 (cj @ti63 (cj @ti62 (cj @ti24 (cj @ti82 (cj @Nat.zero_add (cj @tz0 (cj @tz1 (cj @tz3 (cj @Nat.mul_one @Int.toNat_natCast))))))))))))))
theorem aw_gen {P : Program} {code : Code} {m0 : Nat} {e : Env} {s : St} {Q : Exit → Env → St → Prop} (I : St → Prop) (h : I s) (k : ∀ s', I s' → AW P code m0 e s' Q) : AW P code m0 e s Q := k s h
end Go.Proofs.YtfjelkjlfcafgaaGreatDoor.CardT
end
section
/- Models: ReadModel. -/
namespace Go.Proofs.YtfjelkjlfcafgaaGreatDoor.CardN
open Go Go.RowKit Go.Proofs.YtfjelkjlfcafgaaGreatDoor.Ax Go.Proofs.YtfjelkjlfcafgaaGreatDoor.Ti Go.Proofs.YtfjelkjlfcafgaaGreatDoor.NumS Go.Proofs.YtfjelkjlfcafgaaGreatDoor.NumT Go.Proofs.YtfjelkjlfcafgaaGreatDoor.CardS Go.Proofs.YtfjelkjlfcafgaaGreatDoor.CardP Go.Proofs.YtfjelkjlfcafgaaGreatDoor.CardA Go.Proofs.YtfjelkjlfcafgaaGreatDoor.CardB Go.Proofs.YtfjelkjlfcafgaaGreatDoor.CardC Go.Proofs.YtfjelkjlfcafgaaGreatDoor.CardD Go.Proofs.YtfjelkjlfcafgaaGreatDoor.CardE Go.Proofs.YtfjelkjlfcafgaaGreatDoor.CardF Go.Proofs.YtfjelkjlfcafgaaGreatDoor.CardG Go.Proofs.YtfjelkjlfcafgaaGreatDoor.CardH Go.Proofs.YtfjelkjlfcafgaaGreatDoor.CardI Go.Proofs.YtfjelkjlfcafgaaGreatDoor.CardJ Go.Proofs.YtfjelkjlfcafgaaGreatDoor.CardK Go.Proofs.YtfjelkjlfcafgaaGreatDoor.CardL
open Go.Proofs.YtfjelkjlfcafgaaGreatDoor.NumA (NM)
set_option linter.unusedSimpArgs false
set_option linter.unusedVariables false
set_option maxRecDepth 4000
set_option maxHeartbeats 2000000
theorem rTI : type_of% (cj @ti3 (cj @ti4 (cj @ti9 (cj @ti5 (cj @ti2 (cj @ti36 (cj @ti63 (cj @ti62 (cj @ti24 (cj @ti82 (cj @ti25 (cj @ti144 (cj @ti146 (cj @Nat.zero_add (cj @tz0 (cj @tz1 (cj @tz3 (cj @Nat.mul_one @Int.toNat_natCast)))))))))))))))))) := cj @ti3 (cj @ti4 (cj @ti9 (cj @ti5 (cj @ti2 (cj @ti36 (cj @ti63 (cj @ti62 (cj @ti24 (cj @ti82 (cj @ti25 (cj @ti144 (cj @ti146 (cj @Nat.zero_add (cj @tz0 (cj @tz1 (cj @tz3 (cj @Nat.mul_one @Int.toNat_natCast)))))))))))))))))
def RB (p : Mdl × Int) : AV := .tp [MA p.1, iv p.2]
theorem ma_idf (m : Mdl) : idf (MA m) = true := by
  show (true && (true && (idf.idfL (NC m.g) && (idf.idfL (NC m.v) && true)))) = true
  rw [nc_idf, nc_idf]
  rfl
theorem rb_idf (p : Mdl × Int) : idf (RB p) = true := by
  show (idf (MA p.1) && (true && true)) = true
  rw [ma_idf]
  rfl
def mz : List AV := [.v (.string ByteArray.empty), .v (.int .u8 0), nilS, nilS]
theorem rb_err (e : Int) : Le (.tp [.ag mz, .v (.int .i64 e)]) (RB (mdl0, e)) := by
  refine Le.tp rfl fun j x y hx hy => ?_
  match j with
  | 0 =>
    simp at hx hy; subst hx hy
    refine Le.ag rfl fun j x y hx hy => ?_
    match j with
    | 0 => simp [mz] at hx hy; subst hx hy; exact Le.refl _
    | 1 => simp [mz] at hx hy; subst hx hy; exact Le.refl _
    | 2 => simp [mz, nilS] at hx hy; subst hx hy; exact Le.nil 0 0 rfl
    | 3 => simp [mz, nilS] at hx hy; subst hx hy; exact Le.nil 0 0 rfl
    | j + 4 => simp [mz] at hx
  | 1 => simp at hx hy; subst hx hy; exact Le.refl _
  | j + 2 => simp at hx
theorem odds_cons : ∀ (x : Str) (q : List Str), q.length % 2 = 0 → evens (x :: q) = x :: odds q ∧ odds (x :: q) = evens q
  | x, [], _ => ⟨rfl, rfl⟩
  | x, [_], h => by simp at h
  | x, v :: g :: t, h => by
    obtain ⟨h1, h2⟩ := odds_cons g t (by simp only [List.length_cons] at h; omega)
    constructor
    · show x :: evens (g :: t) = x :: g :: odds t
      rw [h1]
    · show v :: odds (g :: t) = v :: evens t
      rw [h2]
structure MI (s s' : St) (id bm iG iV : Nat) (nm : Str) (kd : Int) (G V : List Num) (ws : List Str) (e : Int) : Prop where
  r : s'.get id = some (rdr ws e)
  b : s'.get bm = some [SV nm, .v (.int .u8 kd), .own iG 0 G.length 2, .own iV 0 V.length 2]
  g : s'.get iG = some (NC G)
  v : s'.get iV = some (NC V)
  z : s'.get s.nx = some mz
  o : s.nx < bm ∧ s.nx < id ∧ s.nx < iG ∧ s.nx < iV ∧ bm < s'.nx ∧ id < s'.nx ∧ iG < s'.nx ∧ iV < s'.nx ∧ bm ≠ id ∧ bm ≠ iG ∧ bm ≠ iV ∧ id ≠ iG ∧ id ≠ iV ∧ iG ≠ iV
  fr : ∀ k, k < s.nx → s'.get k = s.get k
theorem nc_app (V : List Num) (n : Num) : NC (V ++ [n]) = NC V ++ [iv n.1, iv n.2] := by simp [NC]
theorem MI.gg {s s' : St} {id bm iG iV : Nat} {nm : Str} {kd : Int} {G V : List Num} {ws : List Str} {e : Int} (h : MI s s' id bm iG iV nm kd G V ws e) (n : Num) (ws2 : List Str) (e2 : Int) :
    MI s (((((s'.set id (rdr ws2 e2)).push [iv n.1, iv n.2]).kill iG).push (NC G ++ [iv n.1, iv n.2])).set bm [SV nm, .v (.int .u8 kd), .own (s'.nx + 1) 0 (G.length + 1) 2, .own iV 0 V.length 2]) id bm (s'.nx + 1) iV nm kd (G ++ [n]) V ws2 e2 := by
  obtain ⟨o1, o2, o3, o4, o5, o6, o7, o8, o9, o10, o11, o12, o13, o14⟩ := h.o
  have hn : (((((s'.set id (rdr ws2 e2)).push [iv n.1, iv n.2]).kill iG).push (NC G ++ [iv n.1, iv n.2])).set bm [SV nm, .v (.int .u8 kd), .own (s'.nx + 1) 0 (G.length + 1) 2, .own iV 0 V.length 2]).nx = s'.nx + 2 := rfl
  have hg : ∀ k c, k ≠ bm → k ≠ s'.nx + 1 → k ≠ iG → k ≠ s'.nx → k ≠ id → s'.get k = c → (((((s'.set id (rdr ws2 e2)).push [iv n.1, iv n.2]).kill iG).push (NC G ++ [iv n.1, iv n.2])).set bm [SV nm, .v (.int .u8 kd), .own (s'.nx + 1) 0 (G.length + 1) 2, .own iV 0 V.length 2]).get k = c := fun k c h1 h2 h3 h4 h5 h6 => by
    rw [St.set_ne _ _ _ _ h1, St.push_ne _ _ _ h2, St.kill_ne _ _ _ h3, St.push_ne (s'.set id _) _ _ h4, St.set_ne _ _ _ _ h5]
    exact h6
  refine ⟨?_, ?_, ?_, hg _ _ (by omega) (by omega) (by omega) (by omega) (by omega) h.v, hg _ _ (by omega) (by omega) (by omega) (by omega) (by omega) h.z, ⟨o1, o2, by omega, o4, by omega, by omega, by omega, by omega, o9, by omega, o11, by omega, o13, by omega⟩, fun k h1 => hg _ _ (by omega) (by omega) (by omega) (by omega) (by omega) (h.fr k h1)⟩
  · rw [St.set_ne _ _ _ _ (by omega), St.push_ne _ _ _ (show id ≠ s'.nx + 1 by omega), St.kill_ne _ _ _ (by omega), St.push_ne (s'.set id _) _ _ (show id ≠ s'.nx by omega)]
    exact St.set_same _ _ _
  · rw [St.set_same, List.length_append]
    rfl
  · rw [St.set_ne _ _ _ _ (by omega), nc_app]
    exact St.push_same _ _
theorem MI.vv {s s' : St} {id bm iG iV : Nat} {nm : Str} {kd : Int} {G V : List Num} {ws : List Str} {e : Int} (h : MI s s' id bm iG iV nm kd G V ws e) (n : Num) (ws2 : List Str) (e2 : Int) :
    MI s (((((s'.set id (rdr ws2 e2)).push [iv n.1, iv n.2]).kill iV).push (NC V ++ [iv n.1, iv n.2])).set bm [SV nm, .v (.int .u8 kd), .own iG 0 G.length 2, .own (s'.nx + 1) 0 (V.length + 1) 2]) id bm iG (s'.nx + 1) nm kd G (V ++ [n]) ws2 e2 := by
  obtain ⟨o1, o2, o3, o4, o5, o6, o7, o8, o9, o10, o11, o12, o13, o14⟩ := h.o
  have hn : (((((s'.set id (rdr ws2 e2)).push [iv n.1, iv n.2]).kill iV).push (NC V ++ [iv n.1, iv n.2])).set bm [SV nm, .v (.int .u8 kd), .own iG 0 G.length 2, .own (s'.nx + 1) 0 (V.length + 1) 2]).nx = s'.nx + 2 := rfl
  have hg : ∀ k c, k ≠ bm → k ≠ s'.nx + 1 → k ≠ iV → k ≠ s'.nx → k ≠ id → s'.get k = c → (((((s'.set id (rdr ws2 e2)).push [iv n.1, iv n.2]).kill iV).push (NC V ++ [iv n.1, iv n.2])).set bm [SV nm, .v (.int .u8 kd), .own iG 0 G.length 2, .own (s'.nx + 1) 0 (V.length + 1) 2]).get k = c := fun k c h1 h2 h3 h4 h5 h6 => by
    rw [St.set_ne _ _ _ _ h1, St.push_ne _ _ _ h2, St.kill_ne _ _ _ h3, St.push_ne (s'.set id _) _ _ h4, St.set_ne _ _ _ _ h5]
    exact h6
  refine ⟨?_, ?_, hg _ _ (by omega) (by omega) (by omega) (by omega) (by omega) h.g, ?_, hg _ _ (by omega) (by omega) (by omega) (by omega) (by omega) h.z, ⟨o1, o2, o3, by omega, by omega, by omega, by omega, by omega, o9, o10, by omega, o12, by omega, by omega⟩, fun k h1 => hg _ _ (by omega) (by omega) (by omega) (by omega) (by omega) (h.fr k h1)⟩
  · rw [St.set_ne _ _ _ _ (by omega), St.push_ne _ _ _ (show id ≠ s'.nx + 1 by omega), St.kill_ne _ _ _ (by omega), St.push_ne (s'.set id _) _ _ (show id ≠ s'.nx by omega)]
    exact St.set_same _ _ _
  · rw [St.set_same, List.length_append]
    rfl
  · rw [St.set_ne _ _ _ _ (by omega), nc_app]
    exact St.push_same _ _
theorem MI.init (s : St) (nm : Str) (kd : Int) (D : List Str) (s1 s2 s3 : St) (h1 : s1 = (((s.push mz).push mz).set (s.nx + 1) [SV nm, .v (.int .u8 kd), nilS, nilS]).push (rdr D 0))
    (h2 : s2 = (s1.push []).set (s.nx + 1) ([SV nm, .v (.int .u8 kd), nilS, nilS].set 2 (.own s1.nx 0 0 2))) (h3 : s3 = (s2.push []).set (s.nx + 1) (([SV nm, .v (.int .u8 kd), nilS, nilS].set 2 (.own s1.nx 0 0 2)).set 3 (.own s2.nx 0 0 2))) :
    MI s s3 (s.nx + 2) (s.nx + 1) (s.nx + 3) (s.nx + 4) nm kd [] [] D 0 := by
  have n1 : s1.nx = s.nx + 3 := by rw [h1]; rfl
  have n2 : s2.nx = s.nx + 4 := by rw [h2]; show s1.nx + 1 = _; omega
  have n3 : s3.nx = s.nx + 5 := by rw [h3]; show s2.nx + 1 = _; omega
  have hg : ∀ k c, k ≠ s.nx + 1 → k ≠ s.nx + 3 → k ≠ s.nx + 4 → s1.get k = c → s3.get k = c := fun k c q1 q2 q3 q4 => by
    rw [h3, St.set_ne _ _ _ _ q1, St.push_ne s2 _ _ (by omega), h2, St.set_ne _ _ _ _ q1, St.push_ne s1 _ _ (by omega)]
    exact q4
  have hg1 : ∀ k c, k ≠ s.nx + 1 → k ≠ s.nx + 2 → (s.push mz).get k = c → s1.get k = c := fun k c q1 q2 q3 => by
    rw [h1, St.push_ne (((s.push mz).push mz).set _ _) _ _ (show k ≠ s.nx + 2 from q2), St.set_ne _ _ _ _ q1, St.push_ne (s.push mz) _ _ (show k ≠ s.nx + 1 from q1)]
    exact q3
  refine ⟨hg _ _ (by omega) (by omega) (by omega) ?_, ?_, ?_, ?_, hg _ _ (by omega) (by omega) (by omega) (hg1 _ _ (by omega) (by omega) (St.push_same s mz)), ⟨by omega, by omega, by omega, by omega, by omega, by omega, by omega, by omega, by omega, by omega, by omega, by omega, by omega, by omega⟩, fun k hk => hg _ _ (by omega) (by omega) (by omega) (hg1 _ _ (by omega) (by omega) (St.push_ne s _ _ (by omega)))⟩
  · rw [h1]
    exact St.push_same (((s.push mz).push mz).set _ _) _
  · rw [h3, St.set_same, n1, n2]
    rfl
  · rw [h3, St.set_ne _ _ _ _ (by omega), St.push_ne s2 _ _ (by omega), h2, St.set_ne _ _ _ _ (by omega)]
    have := St.push_same s1 []
    rw [n1] at this
    exact this
  · rw [h3, St.set_ne _ _ _ _ (by omega)]
    have := St.push_same s2 []
    rw [n2] at this
    exact this
theorem MI.lay {P : Program} {code : Code} {m0 : Nat} {e : Env} {Q : Exit → Env → St → Prop} {s s' : St} {id bm iG iV : Nat} {nm : Str} {kd : Int} {G V : List Num} {ws : List Str} {er : Int} (h : MI s s' id bm iG iV nm kd G V ws er)
    (k : ∀ e' s'', e'.n = e.n → (∀ t, e'.m t = frz iV (NC V) (frz iG (NC G) (e.m t))) → s''.get bm = some [SV nm, .v (.int .u8 kd), .sl G.length (NC G), .sl V.length (NC V)] → s''.get s.nx = some mz → (∀ k, k < s.nx → s''.get k = s.get k) → AW P code m0 e' s'' Q) : AW P code m0 e s' Q := by
  obtain ⟨o1, o2, o3, o4, o5, o6, o7, o8, o9, o10, o11, o12, o13, o14⟩ := h.o
  have e1 : (NC G).take (G.length * 2) = NC G := by rw [← nc_len, List.take_length]
  have e2 : (NC V).take (V.length * 2) = NC V := by rw [← nc_len, List.take_length]
  have e3 : frz.frzL iV (NC V) (NC G) = NC G := by
    apply List.ext_getElem?
    intro q
    rw [frzL_get]
    cases h : (NC G)[q]? with
    | none => rfl
    | some z =>
      rw [Option.map_some, frz_idf]
      exact (idfL_iff _).1 (nc_idf G) z (List.mem_of_getElem? h)
  refine aw_freeze2 iG (NC G) h.g (fun i => i == bm) fun e7 s7 f1 f2 f3 f4 => ?_
  have g7 : ∀ k c, k ≠ iG → k ≠ bm → s'.get k = c → s7.get k = c := fun k c q1 q2 q3 => by
    rw [f4, if_neg q1, if_neg (by simpa using q2)]
    exact q3
  have b7 : s7.get bm = some [SV nm, .v (.int .u8 kd), .sl G.length (NC G), .own iV 0 V.length 2] := by
    rw [f4, if_neg o10, if_pos (by simp), h.b, Option.map_some]
    have e4 : ¬ iV = iG := fun q => o14 q.symm
    simp only [frz, frz.frzL, SV, if_true, if_neg e4, List.drop_zero, e1]
  refine aw_freeze2 iV (NC V) (g7 _ _ (fun q => o14 q.symm) (fun q => o11 q.symm) h.v) (fun i => i == bm) fun e8 s8 f5 f6 f7 f8 => ?_
  have g8 : ∀ k c, k ≠ iV → k ≠ bm → s7.get k = c → s8.get k = c := fun k c q1 q2 q3 => by
    rw [f8, if_neg q1, if_neg (by simpa using q2)]
    exact q3
  refine k e8 s8 (f5.trans f1) (fun t => by rw [f6, f2]) ?_ (g8 _ _ (by omega) (by omega) (g7 _ _ (by omega) (by omega) h.z)) fun k hk => g8 _ _ (by omega) (by omega) (g7 _ _ (by omega) (by omega) (h.fr k hk))
  rw [f8, if_neg o11, if_pos (by simp), b7, Option.map_some]
  simp only [frz, frz.frzL, SV, if_true, List.drop_zero, e2, e3]
theorem aw_gen {P : Program} {code : Code} {m0 : Nat} {e : Env} {s : St} {Q : Exit → Env → St → Prop} (I : St → Prop) (h : I s) (k : ∀ s', I s' → AW P code m0 e s' Q) : AW P code m0 e s Q := k s h
theorem readM_ax (ws : List Str) (hw : BL ws) (hwl : ∀ w ∈ ws, w.length ≤ 281474976710656) (hl : ws.length ≤ 9223372036854775807) : PCall Tryz.prog 42 [TV ws] (RB (readM ws)) := by
  refine pcall_le fun s => ?_
  have hno : ¬ (4 ≤ ws.length ∧ ws.getD 0 [] = sModel ∧ (ws.getD 2 [] = [100] ∨ ws.getD 2 [] = [115]) ∧ ws.length % 2 = 0 ∧ ws.length ≤ 10 ∧ (ws.getD 2 [] = [115] → ws.length = 6)) → readM ws = (mdl0, 70) := fun q => by
    unfold readM
    simp only
    rw [if_neg q]
  unfold TV
  by_cases q0 : ws.length < 4
  · rw [hno (fun h => by omega)]
    refine acall_of Tryz.func42 rfl rfl (by simp [Tryz.ntmps42]) ?_; rw [Tryz.ntmps42, Tryz.results42]
    refine go rTI ?_
    refine ifs ?_ ?_ <;> first | exact nope | intro hb
    refine go rTI ?_
    exact ⟨rb_err 70, rb_idf _, fun i hi => if_neg (by omega)⟩
  · have i0 := hd_SL ws 0 (by omega)
    have i1 := hd_SL ws 1 (by omega)
    have i2 := hd_SL ws 2 (by omega)
    rw [List.drop_zero] at i0
    have b0 := bl_at ws hw 0
    have b1 := bl_at ws hw 1
    have b2 := bl_at ws hw 2
    have e1 := str_ne (ws.getD 0 []) sModel b0 (by_lit _ rfl)
    have e2 := str_ne (ws.getD 2 []) [100] b2 (by_lit _ rfl)
    have e3 := str_ne (ws.getD 2 []) [115] b2 (by_lit _ rfl)
    have e4 := str_eq (ws.getD 2 []) [115] b2 (by_lit _ rfl)
    rw [show bs sModel = ByteArray.mk #[46, 109, 111, 100, 101, 108] from rfl] at e1
    rw [show bs [100] = ByteArray.mk #[100] from rfl] at e2
    rw [show bs [115] = ByteArray.mk #[115] from rfl] at e3 e4
    have t2 : Int.toNat 2 = 2 := rfl
    unfold SV at i0 i1 i2
    by_cases hc : (4 ≤ ws.length ∧ ws.getD 0 [] = sModel ∧ (ws.getD 2 [] = [100] ∨ ws.getD 2 [] = [115]) ∧ ws.length % 2 = 0 ∧ ws.length ≤ 10 ∧ (ws.getD 2 [] = [115] → ws.length = 6))
    · have hrd : readM ws = if isName (ws.getD 1 []) = true then (if numsE (ws.drop 3) 0 ≠ 0 then (mdl0, numsE (ws.drop 3) 0) else if modelOk ⟨ws.getD 1 [], ((ws.getD 2 []).getD 0 0 : Nat), (evens (ws.drop 3)).map numV, (odds (ws.drop 3)).map numV⟩ = true then (⟨ws.getD 1 [], ((ws.getD 2 []).getD 0 0 : Nat), (evens (ws.drop 3)).map numV, (odds (ws.drop 3)).map numV⟩, 0) else (mdl0, 50)) else (mdl0, 71) := by
        unfold readM
        simp only
        rw [if_pos hc]
      rw [hrd]
      clear hrd hno
      obtain ⟨c0, c1, c2, c3, c4, c5⟩ := hc
      refine acall_of Tryz.func42 rfl rfl (by simp [Tryz.ntmps42]) ?_; rw [Tryz.ntmps42, Tryz.results42]
      refine go rTI ?_
      refine aw_only (fun e' s' => e'.n = 108 ∧ e'.m 0 = .sl ws.length (SL ws) ∧ e'.m 2 = .ptr s.nx 0 ∧ e'.m 47 = .v (.bool false) ∧ s' = s.push mz) ?_ ?_
      · have c6 : ((ws.length : Int) % 2) = 0 := by omega
        rw [decide_eq_true c1] at e1
        rcases c2 with c2 | c2
        · rw [c2, decide_eq_true rfl] at e2
          rw [c2, decide_eq_false (by decide)] at e4
          rw [c2] at i2
          refine go (cj rTI (cj @i0 (cj @i2 (cj @t2 (cj @e1 (cj @e2 (cj @e4 @c6))))))) ?_
          (repeat' refine And.intro ?_ ?_) <;> first | exact rfl | exact fnz rTI | skip
          all_goals (first | rfl | trivial)
        · have c7 : (ws.length : Int) = 6 := by have := c5 c2; omega
          have c8 : ws.length = 6 := by omega
          rw [c2, decide_eq_true rfl] at e3 e4
          rw [c2, decide_eq_false (by decide)] at e2
          rw [c2] at i2
          refine go (cj rTI (cj @i0 (cj @i2 (cj @t2 (cj @e1 (cj @e2 (cj @e3 (cj @e4 @c6)))))))) ?_
          (repeat' refine And.intro ?_ ?_) <;> first | exact rfl | exact fnz rTI | skip
          all_goals (first | rfl | trivial)
      · obtain ⟨kd, hkd, hkb⟩ : ∃ kd, ws.getD 2 [] = [kd] ∧ kd < 256 := by
          rcases c2 with c2 | c2
          · exact ⟨100, c2, by decide⟩
          · exact ⟨115, c2, by decide⟩
        rw [hkd] at i2 b2 ⊢
        have lS := bs_size [kd]
        have hg := bs_get [kd] b2 0
        rw [show ([kd] : Str).getD 0 0 = kd from rfl] at hg ⊢
        rw [show ([kd] : Str).length = 1 from rfl] at lS
        have htd := TV_drop ws 3
        have hbd : BL (ws.drop 3) := fun w h => hw w (List.mem_of_mem_drop h)
        have hDl : (ws.drop 3).length % 2 = 1 ∧ (ws.drop 3).length ≤ 10 := by rw [List.length_drop]; omega
        have hnm := cname_ax (ws.getD 1 []) b1 (by
          rw [List.getD_eq_getElem?_getD, List.getElem?_eq_getElem (show 1 < ws.length by omega)]
          exact Nat.le_trans (hwl _ (List.getElem_mem _)) (by decide))
        have hnl : (ws.getD 1 []).length ≤ 281474976710656 := by
          rw [List.getD_eq_getElem?_getD, List.getElem?_eq_getElem (show 1 < ws.length by omega)]
          exact hwl _ (List.getElem_mem _)
        unfold TV at htd
        clear e1 e2 e3 e4 c1 c2 c3 c5 hw hwl i0
        rintro e' s' ⟨h1, k0, k2, k47, rfl⟩
        rw [then_normal]
        refine aw_cond (b := false) k47 (fun h => by cases h) (fun _ => ?_)
        refine aw_skip ?_
        rw [then_normal]
        generalize ws.getD 1 [] = nm at *
        generalize ws.drop 3 = D at *
        have t3 : Int.toNat 3 = 3 := rfl
        have t1 : Int.toNat 1 = 1 := rfl
        unfold SV at hnm
        refine aw_seq ?_
        refine aw_drw (.take 0 (.take 1 (.take 2 (.take 3 (.take 4 (.take 5 (.take 6 (.take 7 (.one 8 (.one 9 (.done))))))))))) [] (by kernel_rfl) (by kernel_rfl) fun K hK => ?_; refine dr (cj rTI (cj @h1 (cj @k0 (cj @i1 (cj @i2 (cj @t1 (cj @t2 (cj @lS @hg)))))))) ?_; refine hK _ _ ?_; clear hK K
        rw [then_normal]
        refine aw_seq ?_
        refine aw_seq ?_
        cases hn : isName nm with
        | false =>
          rw [hn] at hnm
          rw [if_neg Bool.false_ne_true]
          refine aw_reg fun K hK => ?_; refine rn (cj rTI @h1) ?_; refine cont_pure hnm ?_; refine rn (cj rTI @h1) ?_; refine hK _ _ ?_; clear hK K
          refine ifs ?_ ?_ <;> first | exact nope | intro hb
          unfold mz nilS
          refine go (cj rTI (cj @h1 @k2)) ?_
          exact ⟨rb_err 71, rb_idf _, fun i hi => by rw [if_neg (by omega), if_neg (by omega)]⟩
        | true =>
          rw [hn] at hnm
          rw [if_pos rfl]
          refine aw_reg fun K hK => ?_; refine rn (cj rTI @h1) ?_; refine cont_pure hnm ?_; refine rn (cj rTI @h1) ?_; refine hK _ _ ?_; clear hK K
          refine ifs ?_ ?_ <;> first | exact nope | intro hb
          refine go (cj rTI (cj @h1 (cj @k0 (cj @t3 @htd)))) ?_
          match D, hDl with
          | [], q => simp at q
          | g0 :: q0, hDl =>
          rw [List.length_cons] at hDl
          obtain ⟨hev, hod⟩ := odds_cons g0 q0 (by omega)
          rw [hev, hod]
          refine aw_nil_box (s.nx + 1) 2 2 [.v (.string (bs nm)), .v (.int .u8 (kd : Nat)), .v (.slice none 0 0), .v (.slice none 0 0)] (by rw [St.push_ne _ _ _ (by show s.nx + 1 ≠ s.nx + 1 + 1; omega)]; exact St.set_same _ _ _) rfl ?_
          refine aw_nil_box (s.nx + 1) 3 2 _ (St.set_same _ _ _) rfl ?_
          have hM := MI.init s nm kd (g0 :: q0) _ _ _ rfl rfl rfl
          refine aw_gen (fun x => MI s x (s.nx + 2) (s.nx + 1) (s.nx + 3) (s.nx + 4) nm kd [] [] (g0 :: q0) 0) hM fun s4 hM => ?_
          clear htd i1 i2 hnm lS hg t1 t2 t3
          refine aw_only (fun e5 s5 => e5.n = 108 ∧ e5.m 2 = .ptr s.nx 0 ∧ e5.m 5 = .ptr (s.nx + 1) 0 ∧ e5.m 6 = .ptr (s.nx + 2) 0 ∧ ∃ iG, MI s s5 (s.nx + 2) (s.nx + 1) iG (s.nx + 4) nm kd [numV g0] [] q0 (numE g0 0)) ?_ ?_
          · have hnu := num_ax s4 (s.nx + 2) g0 q0 0 (hbd g0 (List.mem_cons_self ..)) hM.r hM.o.2.2.2.2.2.1 (by omega)
            have gb := hM.b
            have gg := hM.g
            have hG := hM.gg (numV g0) q0 (numE g0 0)
            obtain ⟨o1, o2, o3, o4, o5, o6, o7, o8, o9, o10, o11, o12, o13, o14⟩ := hM.o
            rw [show NC ([] : List Num) = [] from rfl, show ([] : List Num).length = 0 from rfl] at *
            unfold NM at hnu
            unfold SV iv at *
            refine aw_drwR (.take 0 (.take 1 (.take 2 (.one 3 (.one 4 (.one 5 (.done))))))) 6 [7] [s.nx + 1] (by kernel_rfl) (by kernel_rfl) fun K hK => ?_; refine dt (cj rTI (cj @h1 (cj @gb (cj @gg @zr2)))) ?_; refine cont_go hnu ?_; rintro _ s5 ⟨rfl, rfl⟩; refine dt (cj rTI (cj @h1 (cj @gb (cj @gg @zr2)))) ?_; refine hK _ _ ?_; clear hK K
            refine ⟨rfl, ?_, ?_, ?_, ?_, s4.nx + 1, hG⟩
            all_goals (exact rn0 (cj rTI (cj @h1 @k2)))
            all_goals (first | trivial | rfl)
          · clear h1 k0 k2 k47 hM hod hev
            clear hM
            have hbq : BL q0 := fun w h => hbd w (List.mem_cons_of_mem _ h)
            have hE0 : numsE (g0 :: q0) 0 = numsE q0 (numE g0 0) := rfl
            rw [hE0, List.map_cons]
            generalize numE g0 0 = e0
            generalize numV g0 = v0
            generalize s.nx + 4 = iV
            rintro e5 s5 ⟨h1, k2, k5, k6, iG, hM⟩
            rw [then_normal]
            refine aw_seq ?_
            refine aw_block ?_
            refine aw_loop (fun m e6 s6 => ∃ q er G V iG iV, m = q.length ∧ e6.n = 108 ∧ e6.m 2 = .ptr s.nx 0 ∧ e6.m 5 = .ptr (s.nx + 1) 0 ∧ e6.m 6 = .ptr (s.nx + 2) 0 ∧ MI s s6 (s.nx + 2) (s.nx + 1) iG iV nm kd G V q er ∧ numsE q0 e0 = numsE q er ∧ v0 :: (odds q0).map numV = G ++ (odds q).map numV ∧ (evens q0).map numV = V ++ (evens q).map numV ∧ q.length % 2 = 0 ∧ q.length ≤ 10 ∧ G.length + q.length ≤ 20 ∧ V.length + q.length ≤ 20 ∧ ∀ w ∈ q, w ∈ q0) q0.length ?_ ?_
            · refine ⟨q0, e0, [v0], [], iG, iV, rfl, ?_, ?_, ?_, ?_, hM, rfl, rfl, rfl, by omega, by omega, by rw [List.length_cons, List.length_nil]; omega, by rw [List.length_nil]; omega, fun _ h => h⟩
              all_goals (exact rn0 (cj rTI (cj @h1 (cj @k2 (cj @k5 @k6)))))
            · clear h1 k2 k5 k6 hM
              rintro m e6 s6 ⟨q, er, G, V, iG, iV, rfl, h1, k2, k5, k6, hM, hE, hG, hV, hq1, hq2, hq3, hq4, hm⟩
              have gr := hM.r
              match q with
              | [] =>
                unfold rdr TV iv at gr
                have z0 : (([] : List Str).length : Int) = 0 := rfl
                refine go (cj rTI (cj @h1 (cj @k6 (cj @gr @z0)))) ?_
                refine ifs ?_ ?_ <;> first | exact nope | intro hb
                refine go (cj rTI @h1) ?_
                have hE2 : numsE q0 e0 = er := hE
                have hG2 : v0 :: (odds q0).map numV = G := by rw [hG]; exact List.append_nil _
                have hV2 : (evens q0).map numV = V := by rw [hV]; exact List.append_nil _
                rw [hE2, hG2, hV2]
                rw [List.length_nil] at hq3 hq4
                have fr := hM.fr
                have gz := hM.z
                obtain ⟨o1, o2, o3, o4, o5, o6, o7, o8, o9, o10, o11, o12, o13, o14⟩ := hM.o
                by_cases he0 : er = 0
                · rw [if_neg (fun h => h he0)]
                  refine go (cj rTI (cj @h1 (cj @k6 (cj @gr @he0)))) ?_
                  refine ifs ?_ ?_ <;> first | exact nope | intro hb
                  refine aw_skip ?_
                  rw [then_normal]
                  refine hM.lay fun e8 s8 f1 f2 gb gz fr => ?_
                  have m1 : e8.n = 108 := f1.trans h1
                  have m2 : e8.m 2 = .ptr s.nx 0 := by
                    rw [f2]
                    exact rn0 @k2
                  have m5 : e8.m 5 = .ptr (s.nx + 1) 0 := by
                    rw [f2]
                    exact rn0 @k5
                  have hva := mvalid_ax ⟨nm, kd, G, V⟩ ⟨b1, hnl⟩ (by show G.length ≤ _; omega) (by show V.length ≤ _; omega)
                  unfold MA SV NV at hva
                  unfold SV at gb
                  unfold mz nilS at gz
                  simp only at hva
                  clear f1 f2 h1 k2 k5 k6 hM gr
                  refine aw_seq ?_
                  refine aw_seq ?_
                  cases hok : modelOk ⟨nm, kd, G, V⟩ with
                  | false =>
                    rw [hok] at hva
                    rw [if_neg Bool.false_ne_true]
                    refine aw_reg fun K hK => ?_; refine rn (cj rTI (cj @m1 (cj @m5 @gb))) ?_; refine cont_pure hva ?_; refine rn (cj rTI (cj @m1 (cj @m5 @gb))) ?_; refine hK _ _ ?_; clear hK K
                    refine ifs ?_ ?_ <;> first | exact nope | intro hb
                    refine go (cj rTI (cj @m1 (cj @m2 @gz))) ?_
                    exact ⟨rb_err 50, rb_idf _, fun i hi => by rw [if_neg (by omega)]; exact fr i hi⟩
                  | true =>
                    rw [hok] at hva
                    rw [if_pos rfl]
                    refine aw_reg fun K hK => ?_; refine rn (cj rTI (cj @m1 (cj @m5 @gb))) ?_; refine cont_pure hva ?_; refine rn (cj rTI (cj @m1 (cj @m5 @gb))) ?_; refine hK _ _ ?_; clear hK K
                    refine ifs ?_ ?_ <;> first | exact nope | intro hb
                    refine go (cj rTI (cj @m1 (cj @m2 (cj @m5 (cj @gb @gz))))) ?_
                    exact ⟨Le.refl _, rb_idf _, fun i hi => by rw [if_neg (by omega)]; exact fr i hi⟩
                · rw [if_pos he0]
                  unfold mz nilS at gz
                  refine go (cj rTI (cj @h1 (cj @k6 (cj @gr @he0)))) ?_
                  refine ifs ?_ ?_ <;> first | exact nope | intro hb
                  refine aw_seq ?_
                  refine aw_drw (.take 0 (.take 1 (.take 2 (.take 3 (.take 4 (.one 5 (.take 6 (.done)))))))) [s.nx + 2] (by kernel_rfl) (by kernel_rfl) fun K hK => ?_; refine dr (cj rTI (cj @h1 (cj @k2 (cj @k6 (cj @gr @gz))))) ?_; refine hK _ _ ?_; clear hK K
                  rw [then_normal]
                  refine go (cj rTI (cj @h1 (cj @k2 @gz))) ?_
                  exact ⟨rb_err er, rb_idf _, fun i hi => by rw [if_neg (by omega)]; exact fr i hi⟩
              | [x] => simp at hq1
              | a :: b :: q' =>
                rw [List.length_cons, List.length_cons] at hq1 hq2 hq3 hq4
                have hE3 : numsE (a :: b :: q') er = numsE q' (numE b (numE a er)) := rfl
                have hG3 : G ++ (odds (a :: b :: q')).map numV = (G ++ [numV b]) ++ (odds q').map numV := by
                  show G ++ (numV b :: (odds q').map numV) = _
                  simp
                have hV3 : V ++ (evens (a :: b :: q')).map numV = (V ++ [numV a]) ++ (evens q').map numV := by
                  show V ++ (numV a :: (evens q').map numV) = _
                  simp
                rw [hE3] at hE
                rw [hG3] at hG
                rw [hV3] at hV
                clear hE3 hG3 hV3
                obtain ⟨o1, o2, o3, o4, o5, o6, o7, o8, o9, o10, o11, o12, o13, o14⟩ := hM.o
                have hna := num_ax s6 (s.nx + 2) a (b :: q') er (hbq a (hm a (List.mem_cons_self ..))) hM.r o6 (by rw [List.length_cons]; omega)
                have gb := hM.b
                have gv := hM.v
                have nl := nc_len V
                have hM2 := hM.vv (numV a) (b :: q') (numE a er)
                have z1 : ((a :: b :: q').length : Int) = ((q'.length + 2 : Nat) : Int) := rfl
                generalize numE a er = ea at *
                generalize numV a = na at *
                unfold rdr TV iv at gr
                unfold NM at hna
                unfold SV at gb
                refine go (cj rTI (cj @h1 (cj @k6 (cj @gr @z1)))) ?_
                refine ifs ?_ ?_ <;> first | exact nope | intro hb
                refine aw_skip ?_
                rw [then_normal]
                refine aw_block ?_
                refine aw_seq ?_
                refine aw_only (fun e7 s7 => e7.n = 108 ∧ e7.m 2 = .ptr s.nx 0 ∧ e7.m 5 = .ptr (s.nx + 1) 0 ∧ e7.m 6 = .ptr (s.nx + 2) 0 ∧ ∃ iV, MI s s7 (s.nx + 2) (s.nx + 1) iG iV nm kd G (V ++ [na]) (b :: q') ea) ?_ ?_
                · unfold iv at *
                  refine aw_drwR (.take 0 (.take 1 (.take 2 (.one 3 (.one 4 (.one 5 (.done))))))) 6 [7] [s.nx + 1] (by kernel_rfl) (by kernel_rfl) fun K hK => ?_; refine dt (cj rTI (cj @h1 (cj @k5 (cj @k6 (cj @gb (cj @gv (cj @nl @zr2))))))) ?_; refine cont_go hna ?_; rintro _ s7 ⟨rfl, rfl⟩; refine dt (cj rTI (cj @h1 (cj @k5 (cj @k6 (cj @gb (cj @gv (cj @nl @zr2))))))) ?_; refine hK _ _ ?_; clear hK K
                  refine ⟨rfl, ?_, ?_, ?_, ?_, s6.nx + 1, hM2⟩
                  all_goals (exact rn0 (cj rTI (cj @h1 (cj @k2 (cj @k5 @k6)))))
                  all_goals (first | trivial | rfl)
                · clear h1 k2 k5 k6 hM hM2 hna gb gv nl z1 gr o1 o2 o3 o4 o5 o6 o7 o8 o9 o10 o11 o12 o13 o14
                  rintro e7 s7 ⟨h1, k2, k5, k6, iV, hM⟩
                  rw [then_normal]
                  obtain ⟨o1, o2, o3, o4, o5, o6, o7, o8, o9, o10, o11, o12, o13, o14⟩ := hM.o
                  have hnb := num_ax s7 (s.nx + 2) b q' ea (hbq b (hm b (by simp))) hM.r o6 (by omega)
                  have gb := hM.b
                  have gg := hM.g
                  have nl := nc_len G
                  have hM2 := hM.gg (numV b) q' (numE b ea)
                  generalize numE b ea = eb at *
                  generalize numV b = nb at *
                  unfold NM at hnb
                  unfold SV at gb
                  have hMM := hM2
                  unfold iv at *
                  refine aw_drwR (.take 0 (.take 1 (.take 2 (.one 3 (.one 4 (.one 5 (.done))))))) 6 [7] [s.nx + 1] (by kernel_rfl) (by kernel_rfl) fun K hK => ?_; refine dt (cj rTI (cj @h1 (cj @k5 (cj @k6 (cj @gb (cj @gg (cj @nl @zr2))))))) ?_; refine cont_go hnb ?_; rintro _ s8 ⟨rfl, rfl⟩; refine dt (cj rTI (cj @h1 (cj @k5 (cj @k6 (cj @gb (cj @gg (cj @nl @zr2))))))) ?_; refine hK _ _ ?_; clear hK K
                  try simp only [block_normal, loop_normal]
                  refine ⟨q'.length, by rw [List.length_cons, List.length_cons]; omega, q', eb, G ++ [nb], V ++ [na], s7.nx + 1, iV, rfl, ?_, ?_, ?_, ?_, hMM, hE, hG, hV, by omega, by omega, by rw [List.length_append, List.length_cons, List.length_nil]; omega, by rw [List.length_append, List.length_cons, List.length_nil]; omega, fun w hw => hm w (by simp [hw])⟩
                  all_goals (exact rn0 (cj rTI (cj @h1 (cj @k2 (cj @k5 @k6)))))
                  all_goals (first | trivial | rfl)
    · rw [hno hc]
      by_cases q1 : ws.getD 0 [] = sModel
      · rw [decide_eq_true q1] at e1
        by_cases q2 : ws.getD 2 [] = [100] ∨ ws.getD 2 [] = [115]
        · have hx : (!decide (ws.getD 2 [] = [100]) && !decide (ws.getD 2 [] = [115])) = false := by
            rcases q2 with q2 | q2
            · rw [decide_eq_true q2]; rfl
            · rw [decide_eq_true q2, Bool.and_comm]; rfl
          by_cases q3 : ws.length % 2 = 0
          · have q4 : ((ws.length : Int) % 2) = 0 := by omega
            by_cases q5 : ws.length ≤ 10
            · have q6 : ws.getD 2 [] = [115] ∧ ¬ ws.length = 6 := by
                refine ⟨Classical.byContradiction fun h => hc ⟨by omega, q1, q2, q3, q5, fun x => absurd x h⟩, fun h => hc ⟨by omega, q1, q2, q3, q5, fun _ => h⟩⟩
              have q7 : ¬ (ws.length : Int) = 6 := by omega
              rw [q6.1, decide_eq_false (by decide)] at e2
              rw [q6.1, decide_eq_true rfl] at e3 e4
              rw [q6.1] at i2
              refine acall_of Tryz.func42 rfl rfl (by simp [Tryz.ntmps42]) ?_; rw [Tryz.ntmps42, Tryz.results42]
              refine go rTI ?_
              refine go (cj rTI (cj @i0 (cj @i2 (cj @t2 (cj @e1 (cj @e2 (cj @e3 (cj @e4 (cj @q4 @q7))))))))) ?_
              refine ifs ?_ ?_ <;> first | exact nope | intro hb
              refine go rTI ?_
              exact ⟨rb_err 70, rb_idf _, fun i hi => if_neg (by omega)⟩
            · rcases q2 with q2 | q2
              · rw [q2, decide_eq_true rfl] at e2
                rw [q2] at i2
                refine acall_of Tryz.func42 rfl rfl (by simp [Tryz.ntmps42]) ?_; rw [Tryz.ntmps42, Tryz.results42]
                refine go rTI ?_
                refine go (cj rTI (cj @i0 (cj @i2 (cj @t2 (cj @e1 (cj @e2 (cj @e3 (cj @e4 @q4)))))))) ?_
                refine ifs ?_ ?_ <;> first | exact nope | intro hb
                refine go rTI ?_
                exact ⟨rb_err 70, rb_idf _, fun i hi => if_neg (by omega)⟩
              · rw [q2, decide_eq_false (by decide)] at e2
                rw [q2, decide_eq_true rfl] at e3
                rw [q2] at i2
                refine acall_of Tryz.func42 rfl rfl (by simp [Tryz.ntmps42]) ?_; rw [Tryz.ntmps42, Tryz.results42]
                refine go rTI ?_
                refine go (cj rTI (cj @i0 (cj @i2 (cj @t2 (cj @e1 (cj @e2 (cj @e3 (cj @e4 @q4)))))))) ?_
                refine ifs ?_ ?_ <;> first | exact nope | intro hb
                refine go rTI ?_
                exact ⟨rb_err 70, rb_idf _, fun i hi => if_neg (by omega)⟩
          · have q4 : ((ws.length : Int) % 2) = 1 := by omega
            rcases q2 with q2 | q2
            · rw [q2, decide_eq_true rfl] at e2
              rw [q2] at i2
              refine acall_of Tryz.func42 rfl rfl (by simp [Tryz.ntmps42]) ?_; rw [Tryz.ntmps42, Tryz.results42]
              refine go rTI ?_
              refine go (cj rTI (cj @i0 (cj @i2 (cj @t2 (cj @e1 (cj @e2 (cj @e3 (cj @e4 @q4)))))))) ?_
              refine ifs ?_ ?_ <;> first | exact nope | intro hb
              refine go rTI ?_
              exact ⟨rb_err 70, rb_idf _, fun i hi => if_neg (by omega)⟩
            · rw [q2, decide_eq_false (by decide)] at e2
              rw [q2, decide_eq_true rfl] at e3
              rw [q2] at i2
              refine acall_of Tryz.func42 rfl rfl (by simp [Tryz.ntmps42]) ?_; rw [Tryz.ntmps42, Tryz.results42]
              refine go rTI ?_
              refine go (cj rTI (cj @i0 (cj @i2 (cj @t2 (cj @e1 (cj @e2 (cj @e3 (cj @e4 @q4)))))))) ?_
              refine ifs ?_ ?_ <;> first | exact nope | intro hb
              refine go rTI ?_
              exact ⟨rb_err 70, rb_idf _, fun i hi => if_neg (by omega)⟩
        · rw [decide_eq_false (fun h => q2 (.inl h))] at e2
          rw [decide_eq_false (fun h => q2 (.inr h))] at e3
          refine acall_of Tryz.func42 rfl rfl (by simp [Tryz.ntmps42]) ?_; rw [Tryz.ntmps42, Tryz.results42]
          refine go rTI ?_
          refine go (cj rTI (cj @i0 (cj @i2 (cj @t2 (cj @e1 (cj @e2 @e3)))))) ?_
          refine ifs ?_ ?_ <;> first | exact nope | intro hb
          refine go rTI ?_
          exact ⟨rb_err 70, rb_idf _, fun i hi => if_neg (by omega)⟩
      · rw [decide_eq_false q1] at e1
        refine acall_of Tryz.func42 rfl rfl (by simp [Tryz.ntmps42]) ?_; rw [Tryz.ntmps42, Tryz.results42]
        refine go rTI ?_
        refine go (cj rTI (cj @i0 (cj @i2 (cj @t2 (cj @e1 (cj @e2 (cj @e3 @e4))))))) ?_
        refine ifs ?_ ?_ <;> first | exact nope | intro hb
        refine go rTI ?_
        exact ⟨rb_err 70, rb_idf _, fun i hi => if_neg (by omega)⟩
end Go.Proofs.YtfjelkjlfcafgaaGreatDoor.CardN
end
section
/- The document on models: ReadModel, WriteModel; its texts of numbers. -/
namespace Go.Proofs.YtfjelkjlfcafgaaGreatDoor.CardY
open Go Go.RowKit Go.Proofs.YtfjelkjlfcafgaaGreatDoor.Ax Go.Proofs.YtfjelkjlfcafgaaGreatDoor.Ti Go.Proofs.YtfjelkjlfcafgaaGreatDoor.NumS Go.Proofs.YtfjelkjlfcafgaaGreatDoor.NumT Go.Proofs.YtfjelkjlfcafgaaGreatDoor.CardS Go.Proofs.YtfjelkjlfcafgaaGreatDoor.CardP Go.Proofs.YtfjelkjlfcafgaaGreatDoor.CardA Go.Proofs.YtfjelkjlfcafgaaGreatDoor.CardB Go.Proofs.YtfjelkjlfcafgaaGreatDoor.CardC Go.Proofs.YtfjelkjlfcafgaaGreatDoor.CardD Go.Proofs.YtfjelkjlfcafgaaGreatDoor.CardE Go.Proofs.YtfjelkjlfcafgaaGreatDoor.CardF Go.Proofs.YtfjelkjlfcafgaaGreatDoor.CardG Go.Proofs.YtfjelkjlfcafgaaGreatDoor.CardH Go.Proofs.YtfjelkjlfcafgaaGreatDoor.CardI Go.Proofs.YtfjelkjlfcafgaaGreatDoor.CardJ Go.Proofs.YtfjelkjlfcafgaaGreatDoor.CardK Go.Proofs.YtfjelkjlfcafgaaGreatDoor.CardL Go.Proofs.YtfjelkjlfcafgaaGreatDoor.CardM Go.Proofs.YtfjelkjlfcafgaaGreatDoor.CardN Go.Proofs.YtfjelkjlfcafgaaGreatDoor.CardT
open Go.Proofs.YtfjelkjlfcafgaaGreatDoor.NumA (NM)
set_option linter.unusedSimpArgs false
set_option linter.unusedVariables false
set_option maxRecDepth 4000
set_option maxHeartbeats 2000000
theorem rTI : type_of% (cj @ti3 (cj @ti4 (cj @ti9 (cj @ti5 (cj @ti2 (cj @ti36 (cj @ti63 (cj @ti62 (cj @ti24 (cj @ti82 (cj @Nat.zero_add (cj @tz0 (cj @tz1 (cj @tz3 (cj @Nat.mul_one @Int.toNat_natCast))))))))))))))) := cj @ti3 (cj @ti4 (cj @ti9 (cj @ti5 (cj @ti2 (cj @ti36 (cj @ti63 (cj @ti62 (cj @ti24 (cj @ti82 (cj @Nat.zero_add (cj @tz0 (cj @tz1 (cj @tz3 (cj @Nat.mul_one @Int.toNat_natCast))))))))))))))
theorem rtext_ax (n : Num) (h : valid n = true) : PCall Tryz.prog 86 [NM n.1 n.2] (SV (textN n)) := by
  refine pcall_of fun s => ?_
  have ht := NumG.textD_ax n.1 n.2
  unfold NumX.textV NumA.validN at ht
  have h' : RefM.validN n.1 n.2 = true := h
  rw [if_pos h'] at ht
  unfold textN
  rw [if_pos h]
  unfold NM at ht ⊢
  unfold SV
  refine acall_of Tryz.func86 rfl rfl (by simp [Tryz.ntmps86]) ?_; rw [Tryz.ntmps86, Tryz.results86]
  refine go rTI ?_
  refine aw_reg fun K hK => ?_; refine rn rTI ?_; refine cont_pure ht ?_; refine rn rTI ?_; refine hK _ _ ?_; clear hK K
  refine go rTI ?_
  exact fun i hi => by rw [if_neg (by omega)]
theorem mem_valid {l : List Num} (h : l.all valid = true) (k : Nat) (hk : k < l.length) : valid (l.getD k (0, 0)) = true := by
  rw [List.getD_eq_getElem?_getD, List.getElem?_eq_getElem hk]
  exact List.all_eq_true.1 h _ (List.getElem_mem _)
end Go.Proofs.YtfjelkjlfcafgaaGreatDoor.CardY
end
section
/- The document on waves: Valid. -/
namespace Go.Proofs.YtfjelkjlfcafgaaGreatDoor.CardAB
open Go Go.RowKit Go.Proofs.YtfjelkjlfcafgaaGreatDoor.Ax Go.Proofs.YtfjelkjlfcafgaaGreatDoor.Ti Go.Proofs.YtfjelkjlfcafgaaGreatDoor.NumS Go.Proofs.YtfjelkjlfcafgaaGreatDoor.NumT Go.Proofs.YtfjelkjlfcafgaaGreatDoor.CardS Go.Proofs.YtfjelkjlfcafgaaGreatDoor.CardP Go.Proofs.YtfjelkjlfcafgaaGreatDoor.CardA Go.Proofs.YtfjelkjlfcafgaaGreatDoor.CardB Go.Proofs.YtfjelkjlfcafgaaGreatDoor.CardC Go.Proofs.YtfjelkjlfcafgaaGreatDoor.CardD Go.Proofs.YtfjelkjlfcafgaaGreatDoor.CardE Go.Proofs.YtfjelkjlfcafgaaGreatDoor.CardF Go.Proofs.YtfjelkjlfcafgaaGreatDoor.CardG Go.Proofs.YtfjelkjlfcafgaaGreatDoor.CardH Go.Proofs.YtfjelkjlfcafgaaGreatDoor.CardT Go.Proofs.YtfjelkjlfcafgaaGreatDoor.CardY
open Go.Proofs.YtfjelkjlfcafgaaGreatDoor.NumA (NM)
set_option linter.unusedSimpArgs false
set_option linter.unusedVariables false
set_option maxRecDepth 4000
set_option maxHeartbeats 2000000
theorem rTI : type_of% (cj @ti3 (cj @ti4 (cj @ti9 (cj @ti5 (cj @ti2 (cj @ti36 (cj @ti63 (cj @ti62 (cj @ti24 (cj @ti65 (cj @Nat.zero_add (cj @tz0 (cj @tz1 (cj @tz3 (cj @Nat.mul_one @Int.toNat_natCast))))))))))))))) := cj @ti3 (cj @ti4 (cj @ti9 (cj @ti5 (cj @ti2 (cj @ti36 (cj @ti63 (cj @ti62 (cj @ti24 (cj @ti65 (cj @Nat.zero_add (cj @tz0 (cj @tz1 (cj @tz3 (cj @Nat.mul_one @Int.toNat_natCast))))))))))))))
theorem rrising_ax (S : List Int) (hl : S.length ≤ 9223372036854775806) : PCall Tryz.prog 142 [IV S] (.v (.bool (rising S))) := by
  refine pcall_of fun s => ?_
  unfold IV
  refine acall_of Tryz.func142 rfl rfl (by simp [Tryz.ntmps142]) ?_; rw [Tryz.ntmps142, Tryz.results142]
  refine go rTI ?_
  refine aw_loop (fun m e s' => ∃ j, m = S.length - j ∧ j ≤ S.length ∧ e.n = 20 ∧ e.m 0 = .sl S.length (IL S) ∧ e.m 3 = .v (.int .i64 ((j : Int) + 1)) ∧ (∀ i, i < j → i + 1 < S.length → S.getD i 0 < S.getD (i + 1) 0) ∧ s' = s) S.length ?_ ?_
  · refine ⟨0, by omega, by omega, ?_, ?_, ?_, fun i hi => by omega, rfl⟩
    all_goals ((first | refine rn rTI ?_ | exact rn0 rTI))
    all_goals (first | rfl | trivial)
  · rintro m e s' ⟨j, rfl, hj, h1, k0, k3, hr, rfl⟩
    by_cases hj2 : j + 1 < S.length
    · have f1 := hd_IL S (j + 1) hj2
      have f2 := hd_IL S j (by omega)
      have hnr := rising_not S j hj2
      have hpr : S.getD j 0 < S.getD (j + 1) 0 → ∀ i, i < j + 1 → i + 1 < S.length → S.getD i 0 < S.getD (i + 1) 0 := fun h i hi hi2 => by
        by_cases q : i = j
        · subst q; exact h
        · exact hr i (by omega) hi2
      clear hr
      unfold iv at f1 f2
      generalize S.getD (j + 1) 0 = x1 at *
      generalize S.getD j 0 = x0 at *
      have hj3 : (j : Int) + 1 - 1 = (j : Int) := by omega
      have hj4 : ((j : Int) + 1).toNat = j + 1 := by omega
      refine go (cj rTI (cj @h1 (cj @k0 @k3))) ?_
      refine ifs ?_ ?_ <;> first | exact nope | intro hb
      refine aw_skip ?_
      refine go rTI ?_
      refine aw_drw (.take 0 (.take 1 (.take 2 (.take 3 (.take 4 (.take 5 (.take 6 (.take 7 (.take 8 (.take 9 (.done))))))))))) [] (by kernel_rfl) (by kernel_rfl) fun K hK => ?_; refine dr (cj rTI (cj @h1 (cj @k0 (cj @k3 (cj @f1 (cj @f2 (cj @hj3 @hj4))))))) ?_; refine hK _ _ ?_; clear hK K
      by_cases c : x1 ≤ x0
      · refine ifs ?_ ?_ <;> first | exact nope | intro hb
        rw [hnr (by omega)]
        exact go0 (cj rTI @h1)
      · refine ifs ?_ ?_ <;> first | exact nope | intro hb
        have hp2 := hpr (by omega)
        refine go (cj rTI (cj @h1 @k3)) ?_
        try simp only [block_normal, loop_normal]
        refine ⟨S.length - (j + 1), by omega, j + 1, rfl, by omega, ?_, ?_, ?_, hp2, trivial⟩
        all_goals ((first | refine rn (cj rTI (cj @h1 (cj @k0 @k3))) ?_ | exact rn0 (cj rTI (cj @h1 (cj @k0 @k3)))))
        all_goals (first | rfl | trivial)
    · have hR : rising S = true := rising_of S fun i hi => hr i (by omega) hi
      rw [hR]
      refine go (cj rTI (cj @h1 (cj @k0 @k3))) ?_
      refine ifs ?_ ?_ <;> first | exact nope | intro hb
      exact go0 (cj rTI @h1)
theorem rwvalid_ax (w : Wv) (hv : w.vals.length ≤ 9223372036854775806) (hs : w.steps.length ≤ 9223372036854775806) : PCall Tryz.prog 90 [WA w] (.v (.bool (waveOk w))) := by
  refine pcall_of fun s => ?_
  obtain ⟨kd, V, S⟩ := w
  rw [waveOk_eq]
  simp only at hv hs
  unfold WA NV IV iv
  simp only
  refine acall_of Tryz.func90 rfl rfl (by simp [Tryz.ntmps90]) ?_; rw [Tryz.ntmps90, Tryz.results90]
  refine go rTI ?_
  refine CardT.aw_gen (fun x => x.get s.nx = some [.v (.int .i64 kd), .sl V.length (NC V), .sl S.length (IL S)] ∧ (∀ i, i < s.nx → x.get i = s.get i)) ⟨St.push_same _ _, fun i hi => St.push_ne s _ _ (by omega)⟩ fun s1 hs1 => ?_
  obtain ⟨gb, fr⟩ := hs1
  refine aw_loop (fun m e s' => ∃ k, m = V.length - k ∧ k ≤ V.length ∧ e.n = 124 ∧ e.m 1 = .ptr s.nx 0 ∧ e.m 3 = .v (.int .i64 (k : Nat)) ∧ (V.take k).all valid = true ∧ s' = s1) V.length ?_ ?_
  · refine ⟨0, by omega, by omega, ?_, ?_, ?_, rfl, rfl⟩
    all_goals ((first | refine rn rTI ?_ | exact rn0 rTI))
    all_goals (first | rfl | trivial)
  · rintro m e s' ⟨k, rfl, hk, h1, k1, k3, ha, rfl⟩
    by_cases hk2 : k < V.length
    · have f1 := nc_at V k hk2
      have f2 : 2 ≤ ((NC V).drop (k * 2)).length := by rw [List.length_drop, nc_len]; omega
      have hp : PCall Tryz.prog 16 [NM (V.getD k (0, 0)).1 (V.getD k (0, 0)).2] (.v (.bool (valid (V.getD k (0, 0))))) := RefM.valid_ax _ _
      have ht := take_all valid V (0, 0) k hk2 ha
      have hf := all_not valid V (0, 0) k hk2
      unfold iv at f1
      unfold NM at hp
      generalize V.getD k (0, 0) = n at *
      refine go (cj rTI (cj @h1 (cj @k1 (cj @k3 @gb)))) ?_
      refine ifs ?_ ?_ <;> first | exact nope | intro hb
      refine aw_skip ?_
      refine go rTI ?_
      refine aw_reg fun K hK => ?_; refine rn (cj rTI (cj @h1 (cj @k1 (cj @k3 (cj @gb (cj @f1 @f2)))))) ?_; refine cont_pure hp ?_; refine rn (cj rTI (cj @h1 (cj @k1 (cj @k3 (cj @gb (cj @f1 @f2)))))) ?_; refine hK _ _ ?_; clear hK K
      cases hc : valid n with
      | false =>
        rw [hf hc, Bool.false_and, Bool.false_and]
        refine ifs ?_ ?_ <;> first | exact nope | intro hb
        refine go (cj rTI @h1) ?_
        exact fr
      | true =>
        rw [hc] at ht
        refine ifs ?_ ?_ <;> first | exact nope | intro hb
        refine go (cj rTI (cj @h1 @k3)) ?_
        simp only [block_normal, loop_normal]
        refine ⟨V.length - (k + 1), by omega, k + 1, rfl, by omega, ?_, ?_, ?_, ht, trivial⟩
        all_goals ((first | refine rn (cj rTI (cj @h1 (cj @k1 @k3))) ?_ | exact rn0 (cj rTI (cj @h1 (cj @k1 @k3)))))
        all_goals (first | rfl | trivial)
    · obtain rfl : k = V.length := by omega
      rw [List.take_length] at ha
      rw [ha, Bool.true_and]
      clear ha hk hk2
      refine go (cj rTI (cj @h1 (cj @k1 (cj @k3 @gb)))) ?_
      refine ifs ?_ ?_ <;> first | exact nope | intro hb
      refine go (cj rTI (cj @h1 @k1)) ?_
      refine aw_loop (fun m e2 s2 => ∃ k, m = S.length - k ∧ k ≤ S.length ∧ e2.n = 124 ∧ e2.m 1 = .ptr s.nx 0 ∧ e2.m 4 = .v (.int .i64 (k : Nat)) ∧ (S.take k).all okS = true ∧ s2 = s') S.length ?_ ?_
      · refine ⟨0, by omega, by omega, ?_, ?_, ?_, rfl, rfl⟩
        all_goals ((first | refine rn (cj rTI (cj @h1 @k1)) ?_ | exact rn0 (cj rTI (cj @h1 @k1))))
        all_goals (first | rfl | trivial)
      · clear h1 k1 k3
        rintro m e2 s2 ⟨k, rfl, hk, h1, k1, k4, ha, rfl⟩
        by_cases hk2 : k < S.length
        · have f1 := hd_IL S k hk2
          have ht := take_all okS S 0 k hk2 ha
          have hf := all_not okS S 0 k hk2
          unfold iv at f1
          generalize S.getD k 0 = n at *
          have hn2 : okS n = (decide (0 ≤ n) && decide (n ≤ 1000000000)) := by unfold okS; rw [Bool.decide_and]
          refine go (cj rTI (cj @h1 (cj @k1 (cj @k4 @gb)))) ?_
          refine ifs ?_ ?_ <;> first | exact nope | intro hb
          refine aw_skip ?_
          by_cases c1 : 0 ≤ n
          · by_cases c2 : n ≤ 1000000000
            · refine go (cj rTI (cj @h1 (cj @k1 (cj @k4 (cj @gb @f1))))) ?_
              refine ifs ?_ ?_ <;> first | exact nope | intro hb
              rw [hn2, decide_eq_true c1, decide_eq_true c2] at ht
              refine go (cj rTI (cj @h1 @k4)) ?_
              simp only [block_normal, loop_normal]
              refine ⟨S.length - (k + 1), by omega, k + 1, rfl, by omega, ?_, ?_, ?_, ht, trivial⟩
              all_goals ((first | refine rn (cj rTI (cj @h1 (cj @k1 @k4))) ?_ | exact rn0 (cj rTI (cj @h1 (cj @k1 @k4)))))
              all_goals (first | rfl | trivial)
            · rw [hf (by rw [hn2, decide_eq_false c2, Bool.and_false]), Bool.false_and]
              refine go (cj rTI (cj @h1 (cj @k1 (cj @k4 (cj @gb @f1))))) ?_
              refine ifs ?_ ?_ <;> first | exact nope | intro hb
              refine go (cj rTI @h1) ?_
              exact fr
          · rw [hf (by rw [hn2, decide_eq_false c1, Bool.false_and]), Bool.false_and]
            refine go (cj rTI (cj @h1 (cj @k1 (cj @k4 (cj @gb @f1))))) ?_
            refine ifs ?_ ?_ <;> first | exact nope | intro hb
            refine go (cj rTI @h1) ?_
            exact fr
        · obtain rfl : k = S.length := by omega
          rw [List.take_length] at ha
          have hok := ha
          rw [ha, Bool.true_and]
          refine go (cj rTI (cj @h1 (cj @k1 (cj @k4 @gb)))) ?_
          refine ifs ?_ ?_ <;> first | exact nope | intro hb
          refine go (cj rTI (cj @h1 (cj @k1 @gb))) ?_
          refine aw_drw (.take 0 (.take 1 (.take 2 (.take 3 (.take 4 (.take 5 (.take 6 (.take 7 (.done))))))))) [s.nx] (by kernel_rfl) (by kernel_rfl) fun K hK => ?_; refine dr (cj rTI (cj @h1 (cj @k1 @gb))) ?_; refine hK _ _ ?_; clear hK K
          rw [then_normal]
          clear hk hk2 k4
          unfold CardH.kindOk
          by_cases q1 : kd = 1
          · rw [if_pos q1]
            subst q1
            by_cases c1 : V.length = 1
            · by_cases c2 : S.length = 0
              · rw [decide_eq_true (by exact ⟨c1, c2⟩)]
                refine go (cj rTI (cj @h1 (cj @k1 @gb))) ?_
                refine ifs ?_ ?_ <;> first | exact nope | intro hb
                refine go (cj rTI @h1) ?_
                exact fr
              · rw [decide_eq_false (fun x => c2 x.2)]
                refine go (cj rTI (cj @h1 (cj @k1 @gb))) ?_
                refine ifs ?_ ?_ <;> first | exact nope | intro hb
                refine go (cj rTI @h1) ?_
                exact fr
            · rw [decide_eq_false (fun x => c1 x.1)]
              refine go (cj rTI (cj @h1 (cj @k1 @gb))) ?_
              refine ifs ?_ ?_ <;> first | exact nope | intro hb
              refine go (cj rTI @h1) ?_
              exact fr
          rw [if_neg q1]
          by_cases q2 : kd = 2
          · rw [if_pos q2]
            subst q2
            refine go (cj rTI (cj @h1 (cj @k1 @gb))) ?_
            refine ifs ?_ ?_ <;> first | exact nope | intro hb
            refine go (cj rTI @h1) ?_
            refine ifs ?_ ?_ <;> first | exact nope | intro hb
            by_cases c1 : V.length = 2
            · by_cases c2 : S.length = 5
              · match S, c2 with
                | [a, b, c, d, f], _ =>
                  have hb5 : ∀ x ∈ [a, b, c, d, f], 0 ≤ x ∧ x ≤ 1000000000 := fun x hx => by
                    have := List.all_eq_true.1 hok x hx
                    unfold okS at this
                    exact of_decide_eq_true this
                  have bb := hb5 b (by simp)
                  have bc := hb5 c (by simp)
                  have bd := hb5 d (by simp)
                  have bf := hb5 f (by simp)
                  have e5 : ([a, b, c, d, f].length : Int) = 5 := rfl
                  have n5 : [a, b, c, d, f].length = 5 := rfl
                  have t1 : Int.toNat 4 = 4 := rfl
                  have t2 : Int.toNat 2 = 2 := rfl
                  have i4 : ((IL [a, b, c, d, f]).drop 4).head? = some (.v (.int .i64 f)) := rfl
                  have i1 : ((IL [a, b, c, d, f]).drop 1).head? = some (.v (.int .i64 b)) := rfl
                  have i2 : ((IL [a, b, c, d, f]).drop 2).head? = some (.v (.int .i64 c)) := rfl
                  have i3 : ((IL [a, b, c, d, f]).drop 3).head? = some (.v (.int .i64 d)) := rfl
                  have hd5 : decide (V.length = 2 ∧ [a, b, c, d, f].length = 5 ∧ 1 ≤ [a, b, c, d, f].getD 4 0 ∧ [a, b, c, d, f].getD 1 0 + [a, b, c, d, f].getD 2 0 + [a, b, c, d, f].getD 3 0 ≤ [a, b, c, d, f].getD 4 0) = (decide (1 ≤ f) && decide (b + c + d ≤ f)) := by
                    rw [Bool.eq_iff_iff]
                    simp [c1]
                  rw [hd5]
                  clear hb5 hd5 hok
                  generalize [a, b, c, d, f] = S' at *
                  refine aw_seq ?_
                  by_cases c3 : 1 ≤ f
                  · rw [decide_eq_true c3, Bool.true_and]
                    by_cases c4 : b + c + d ≤ f
                    · rw [decide_eq_true c4]
                      refine aw_drw (.take 0 (.take 1 (.take 2 (.take 3 (.take 4 (.take 5 (.take 6 (.take 7 (.take 8 (.take 9 (.take 10 (.take 11 (.take 12 (.take 13 (.take 14 (.take 15 (.take 16 (.take 17 (.take 18 (.take 19 (.take 20 (.take 21 (.take 22 (.take 23 (.take 24 (.take 25 (.take 26 (.take 27 (.take 28 (.take 29 (.take 30 (.take 31 (.take 32 (.take 33 (.take 34 (.done)))))))))))))))))))))))))))))))))))) [s.nx] (by kernel_rfl) (by kernel_rfl) fun K hK => ?_; refine dr (cj rTI (cj @h1 (cj @k1 (cj @gb (cj @c1 (cj @e5 (cj @n5 (cj @t1 (cj @t2 (cj @i1 (cj @i2 (cj @i3 @i4)))))))))))) ?_; refine hK _ _ ?_; clear hK K
                      refine go (cj rTI @h1) ?_
                      exact fr
                    · rw [decide_eq_false c4]
                      refine aw_drw (.take 0 (.take 1 (.take 2 (.take 3 (.take 4 (.take 5 (.take 6 (.take 7 (.take 8 (.take 9 (.take 10 (.take 11 (.take 12 (.take 13 (.take 14 (.take 15 (.take 16 (.take 17 (.take 18 (.take 19 (.take 20 (.take 21 (.take 22 (.take 23 (.take 24 (.take 25 (.take 26 (.take 27 (.take 28 (.take 29 (.take 30 (.take 31 (.take 32 (.take 33 (.take 34 (.done)))))))))))))))))))))))))))))))))))) [s.nx] (by kernel_rfl) (by kernel_rfl) fun K hK => ?_; refine dr (cj rTI (cj @h1 (cj @k1 (cj @gb (cj @c1 (cj @e5 (cj @n5 (cj @t1 (cj @t2 (cj @i1 (cj @i2 (cj @i3 @i4)))))))))))) ?_; refine hK _ _ ?_; clear hK K
                      refine go (cj rTI @h1) ?_
                      exact fr
                  · rw [decide_eq_false c3, Bool.false_and]
                    refine aw_drw (.take 0 (.take 1 (.take 2 (.take 3 (.take 4 (.take 5 (.take 6 (.take 7 (.take 8 (.take 9 (.take 10 (.take 11 (.take 12 (.take 13 (.take 14 (.take 15 (.take 16 (.take 17 (.take 18 (.take 19 (.take 20 (.take 21 (.take 22 (.take 23 (.take 24 (.take 25 (.take 26 (.take 27 (.take 28 (.take 29 (.take 30 (.take 31 (.take 32 (.take 33 (.take 34 (.done)))))))))))))))))))))))))))))))))))) [s.nx] (by kernel_rfl) (by kernel_rfl) fun K hK => ?_; refine dr (cj rTI (cj @h1 (cj @k1 (cj @gb (cj @c1 (cj @e5 (cj @n5 (cj @t1 (cj @t2 (cj @i1 (cj @i2 (cj @i3 @i4)))))))))))) ?_; refine hK _ _ ?_; clear hK K
                    refine go (cj rTI @h1) ?_
                    exact fr
              · rw [decide_eq_false (fun x => c2 x.2.1)]
                refine aw_seq ?_
                refine aw_drw (.take 0 (.take 1 (.take 2 (.take 3 (.take 4 (.take 5 (.take 6 (.take 7 (.take 8 (.take 9 (.take 10 (.take 11 (.take 12 (.take 13 (.take 14 (.take 15 (.take 16 (.take 17 (.take 18 (.take 19 (.take 20 (.take 21 (.take 22 (.take 23 (.take 24 (.take 25 (.take 26 (.take 27 (.take 28 (.take 29 (.take 30 (.take 31 (.take 32 (.take 33 (.take 34 (.done)))))))))))))))))))))))))))))))))))) [s.nx] (by kernel_rfl) (by kernel_rfl) fun K hK => ?_; refine dr (cj rTI (cj @h1 (cj @k1 (cj @gb @c1)))) ?_; refine hK _ _ ?_; clear hK K
                refine go (cj rTI @h1) ?_
                exact fr
            · rw [decide_eq_false (fun x => c1 x.1)]
              refine aw_seq ?_
              refine aw_drw (.take 0 (.take 1 (.take 2 (.take 3 (.take 4 (.take 5 (.take 6 (.take 7 (.take 8 (.take 9 (.take 10 (.take 11 (.take 12 (.take 13 (.take 14 (.take 15 (.take 16 (.take 17 (.take 18 (.take 19 (.take 20 (.take 21 (.take 22 (.take 23 (.take 24 (.take 25 (.take 26 (.take 27 (.take 28 (.take 29 (.take 30 (.take 31 (.take 32 (.take 33 (.take 34 (.done)))))))))))))))))))))))))))))))))))) [s.nx] (by kernel_rfl) (by kernel_rfl) fun K hK => ?_; refine dr (cj rTI (cj @h1 (cj @k1 @gb))) ?_; refine hK _ _ ?_; clear hK K
              refine go (cj rTI @h1) ?_
              exact fr
          rw [if_neg q2]
          by_cases q3 : kd = 3
          · rw [if_pos q3]
            subst q3
            have hri := rrising_ax S hs
            unfold IV at hri
            refine go (cj rTI (cj @h1 (cj @k1 @gb))) ?_
            refine ifs ?_ ?_ <;> first | exact nope | intro hb
            refine go (cj rTI @h1) ?_
            refine ifs ?_ ?_ <;> first | exact nope | intro hb
            refine go (cj rTI @h1) ?_
            refine ifs ?_ ?_ <;> first | exact nope | intro hb
            have hb4 : decide (V.length = S.length ∧ 1 ≤ V.length ∧ V.length ≤ 16) = (decide (V.length = S.length) && (decide (1 ≤ V.length) && decide (V.length ≤ 16))) := by rw [Bool.decide_and, Bool.decide_and]
            rw [hb4]
            rcases (by omega : ¬ V.length = S.length ∨ (V.length = S.length ∧ V.length < 1) ∨ (V.length = S.length ∧ 16 < V.length) ∨ (V.length = S.length ∧ 1 ≤ V.length ∧ V.length ≤ 16)) with c | ⟨c1, c2⟩ | ⟨c1, c2⟩ | ⟨c1, c2, c3⟩
            · rw [decide_eq_false c, Bool.false_and, Bool.and_false]
              refine go (cj rTI (cj @h1 (cj @k1 @gb))) ?_
              exact fr
            · rw [decide_eq_true c1, decide_eq_false (by omega : ¬ 1 ≤ V.length), Bool.false_and, Bool.and_false, Bool.and_false]
              refine go (cj rTI (cj @h1 (cj @k1 @gb))) ?_
              exact fr
            · rw [decide_eq_true c1, decide_eq_false (by omega : ¬ V.length ≤ 16), Bool.and_false, Bool.and_false, Bool.and_false]
              refine go (cj rTI (cj @h1 (cj @k1 @gb))) ?_
              exact fr
            · rw [decide_eq_true c1, decide_eq_true c2, decide_eq_true c3, Bool.and_true, Bool.and_true, Bool.and_true]
              refine aw_seq ?_
              refine aw_reg fun K hK => ?_; refine rn (cj rTI (cj @h1 (cj @k1 @gb))) ?_; refine cont_pure hri ?_; refine rn (cj rTI (cj @h1 (cj @k1 @gb))) ?_; refine hK _ _ ?_; clear hK K
              refine go (cj rTI @h1) ?_
              exact fr
          rw [if_neg q3]
          by_cases q4 : kd = 4
          · rw [if_pos q4]
            subst q4
            have hb4 : decide (1 ≤ V.length ∧ V.length ≤ 16 ∧ S.length = 0) = (decide (1 ≤ V.length) && (decide (V.length ≤ 16) && decide (S.length = 0))) := by rw [Bool.decide_and, Bool.decide_and]
            rw [hb4]
            rcases (by omega : V.length < 1 ∨ (1 ≤ V.length ∧ 16 < V.length) ∨ (1 ≤ V.length ∧ V.length ≤ 16 ∧ S.length = 0) ∨ (1 ≤ V.length ∧ V.length ≤ 16 ∧ ¬ S.length = 0)) with c | ⟨c0, c⟩ | ⟨c1, c2, c3⟩ | ⟨c1, c2, c3⟩
            · rw [decide_eq_false (by omega : ¬ 1 ≤ V.length), Bool.false_and]
              refine go (cj rTI (cj @h1 (cj @k1 @gb))) ?_
              refine ifs ?_ ?_ <;> first | exact nope | intro hb
              refine go (cj rTI @h1) ?_
              refine ifs ?_ ?_ <;> first | exact nope | intro hb
              refine go (cj rTI @h1) ?_
              refine ifs ?_ ?_ <;> first | exact nope | intro hb
              refine go (cj rTI @h1) ?_
              refine ifs ?_ ?_ <;> first | exact nope | intro hb
              refine go (cj rTI @h1) ?_
              exact fr
            · rw [decide_eq_false (by omega : ¬ V.length ≤ 16), Bool.false_and, Bool.and_false]
              refine go (cj rTI (cj @h1 (cj @k1 @gb))) ?_
              refine ifs ?_ ?_ <;> first | exact nope | intro hb
              refine go (cj rTI @h1) ?_
              refine ifs ?_ ?_ <;> first | exact nope | intro hb
              refine go (cj rTI @h1) ?_
              refine ifs ?_ ?_ <;> first | exact nope | intro hb
              refine go (cj rTI @h1) ?_
              refine ifs ?_ ?_ <;> first | exact nope | intro hb
              refine go (cj rTI @h1) ?_
              exact fr
            · rw [decide_eq_true c1, decide_eq_true c2, decide_eq_true c3]
              refine go (cj rTI (cj @h1 (cj @k1 @gb))) ?_
              refine ifs ?_ ?_ <;> first | exact nope | intro hb
              refine go (cj rTI @h1) ?_
              refine ifs ?_ ?_ <;> first | exact nope | intro hb
              refine go (cj rTI @h1) ?_
              refine ifs ?_ ?_ <;> first | exact nope | intro hb
              refine go (cj rTI @h1) ?_
              refine ifs ?_ ?_ <;> first | exact nope | intro hb
              refine go (cj rTI @h1) ?_
              exact fr
            · rw [decide_eq_true c1, decide_eq_true c2, decide_eq_false c3]
              refine go (cj rTI (cj @h1 (cj @k1 @gb))) ?_
              refine ifs ?_ ?_ <;> first | exact nope | intro hb
              refine go (cj rTI @h1) ?_
              refine ifs ?_ ?_ <;> first | exact nope | intro hb
              refine go (cj rTI @h1) ?_
              refine ifs ?_ ?_ <;> first | exact nope | intro hb
              refine go (cj rTI @h1) ?_
              refine ifs ?_ ?_ <;> first | exact nope | intro hb
              refine go (cj rTI @h1) ?_
              exact fr
          rw [if_neg q4]
          refine go (cj rTI (cj @h1 (cj @k1 @gb))) ?_
          refine ifs ?_ ?_ <;> first | exact nope | intro hb
          refine go (cj rTI @h1) ?_
          refine ifs ?_ ?_ <;> first | exact nope | intro hb
          refine go (cj rTI @h1) ?_
          refine ifs ?_ ?_ <;> first | exact nope | intro hb
          refine go (cj rTI @h1) ?_
          refine ifs ?_ ?_ <;> first | exact nope | intro hb
          refine go (cj rTI @h1) ?_
          exact fr
end Go.Proofs.YtfjelkjlfcafgaaGreatDoor.CardAB
end
section
/- The document on cards: Right. (Made by gen_cardac.py.) -/
namespace Go.Proofs.YtfjelkjlfcafgaaGreatDoor.CardAC
open Go Go.RowKit Go.Proofs.YtfjelkjlfcafgaaGreatDoor.Ax Go.Proofs.YtfjelkjlfcafgaaGreatDoor.Ti Go.Proofs.YtfjelkjlfcafgaaGreatDoor.NumS Go.Proofs.YtfjelkjlfcafgaaGreatDoor.NumT Go.Proofs.YtfjelkjlfcafgaaGreatDoor.CardS Go.Proofs.YtfjelkjlfcafgaaGreatDoor.CardP Go.Proofs.YtfjelkjlfcafgaaGreatDoor.CardA Go.Proofs.YtfjelkjlfcafgaaGreatDoor.CardB Go.Proofs.YtfjelkjlfcafgaaGreatDoor.CardC Go.Proofs.YtfjelkjlfcafgaaGreatDoor.CardD Go.Proofs.YtfjelkjlfcafgaaGreatDoor.CardE Go.Proofs.YtfjelkjlfcafgaaGreatDoor.CardF Go.Proofs.YtfjelkjlfcafgaaGreatDoor.CardG Go.Proofs.YtfjelkjlfcafgaaGreatDoor.CardH Go.Proofs.YtfjelkjlfcafgaaGreatDoor.CardI Go.Proofs.YtfjelkjlfcafgaaGreatDoor.CardK Go.Proofs.YtfjelkjlfcafgaaGreatDoor.CardAB
open Go.Proofs.YtfjelkjlfcafgaaGreatDoor.NumA (NM)
set_option linter.unusedSimpArgs false
set_option linter.unusedVariables false
set_option maxRecDepth 4000
set_option maxHeartbeats 4000000
theorem rTI : type_of% (cj @ti3 (cj @ti4 (cj @ti9 (cj @ti5 (cj @ti2 (cj @ti36 (cj @ti63 (cj @ti62 (cj @ti24 (cj @ti65 (cj @ti67 (cj @Nat.zero_add (cj @tz0 (cj @tz1 (cj @tz3 (cj @Nat.mul_one @Int.toNat_natCast)))))))))))))))) := cj @ti3 (cj @ti4 (cj @ti9 (cj @ti5 (cj @ti2 (cj @ti36 (cj @ti63 (cj @ti62 (cj @ti24 (cj @ti65 (cj @ti67 (cj @Nat.zero_add (cj @tz0 (cj @tz1 (cj @tz3 (cj @Nat.mul_one @Int.toNat_natCast)))))))))))))))
def preR (k : Nat) (c : Crd) : Bool := (!zeroK k || decide (c.value.1 ≠ 0)) && (!decide (k = 102 ∨ k = 104) || decide (c.ref.getD 0 0 = 118)) && (!decide (k = 120) || decide (1 ≤ c.nodes.length ∧ c.nodes.length ≤ 8))
def refR (f : Nat × Bool × Bool) (c : Crd) : Bool := if f.2.1 = true then isName c.ref else decide (c.ref = [])
def valR (f : Nat × Bool × Bool) (c : Crd) : Bool := if f.2.2 = true then valid c.value else decide (c.value = (0, 0))
def wavR (k : Nat) (c : Crd) : Bool := if srcC k = true then waveOk c.wave else decide (c.wave.kind = 0 ∧ c.wave.vals = [] ∧ c.wave.steps = [])
theorem rightF_eq (k : Nat) (f : Nat × Bool × Bool) (c : Crd) : rightF k f c = (preR k c && (decide (c.nodes.length = f.1) && (c.nodes.all isName && (refR f c && (valR f c && wavR k c))))) := by
  unfold rightF preR refR valR wavR
  simp only [Bool.and_assoc]
theorem kinds_of (s : Str) (h : isDev s = true) : isName s = true ∧ s.getD 0 0 ∈ kinds := by
  unfold isDev at h
  rw [Bool.and_eq_true] at h
  exact ⟨h.1, by simpa using h.2⟩
theorem ref_pos (r : Str) (h : r.getD 0 0 = 118) : 0 < r.length := by
  cases r with
  | nil => simp at h
  | cons a r => exact Nat.succ_pos _
theorem right_ax (c : Crd) (hc : CW c) (hv : c.wave.vals.length ≤ 281474976710656) (hs : c.wave.steps.length ≤ 281474976710656) : PCall Tryz.prog 39 [CA c] (.v (.bool (rightC c))) := by
  refine pcall_of fun s => ?_
  have hd := rdev_ax c.name hc.n.1 (by have := hc.n.2; omega)
  have lS := bs_size c.name
  have hg := bs_get c.name hc.n.1 0
  have lR := bs_size c.ref
  have hgR := bs_get c.ref hc.r.1 0
  have hR : isDev c.name = true → rightC c = rightF (c.name.getD 0 0) (if c.name.getD 0 0 = 120 then (c.nodes.length, true, false) else shapeK (c.name.getD 0 0)) c := fun h => by
    unfold rightC
    rw [h, Bool.true_and]
  unfold CA TV NV IV iv
  unfold SV at hd ⊢
  cases hdv : isDev c.name with
  | false =>
    rw [hdv] at hd
    rw [show rightC c = false from by unfold rightC; rw [hdv, Bool.false_and]]
    refine acall_of Tryz.func39 rfl rfl (by simp [Tryz.ntmps39]) ?_; rw [Tryz.ntmps39, Tryz.results39]
    refine go rTI ?_
    refine aw_reg fun K hK => ?_; refine rn rTI ?_; refine cont_pure hd ?_; refine rn rTI ?_; refine hK _ _ ?_; clear hK K
    refine ifs ?_ ?_ <;> first | exact nope | intro hb
    refine go rTI ?_
    exact fun i hi => if_neg (by omega)
  | true =>
    rw [hdv] at hd
    obtain ⟨hnm, hmem⟩ := kinds_of c.name hdv
    have hp := name_pos c.name hnm
    rw [hR hdv, rightF_eq]
    clear hR
    generalize hff : (if c.name.getD 0 0 = 120 then (c.nodes.length, true, false) else shapeK (c.name.getD 0 0)) = f
    generalize c.name.getD 0 0 = k at *
    refine acall_of Tryz.func39 rfl rfl (by simp [Tryz.ntmps39]) ?_; rw [Tryz.ntmps39, Tryz.results39]
    refine go rTI ?_
    refine aw_reg fun K hK => ?_; refine rn rTI ?_; refine cont_pure hd ?_; refine rn rTI ?_; refine hK _ _ ?_; clear hK K
    refine ifs ?_ ?_ <;> first | exact nope | intro hb
    refine aw_skip ?_
    rw [then_normal]
    refine CardT.aw_gen (fun x => x.get s.nx = some [.v (.string (bs c.name)), .sl c.nodes.length (SL c.nodes), .v (.string (bs c.ref)), .v (.int .i64 c.value.1), .v (.int .i64 c.value.2), .v (.int .i64 c.wave.kind), .sl c.wave.vals.length (NC c.wave.vals), .sl c.wave.steps.length (IL c.wave.steps)] ∧ (∀ i, i < s.nx → x.get i = s.get i)) ⟨St.push_same _ _, fun i hi => St.push_ne s _ _ (by omega)⟩ fun s1 hs1 => ?_
    obtain ⟨gb, fr⟩ := hs1
    clear hd
    refine aw_seq ?_
    refine aw_reg fun K hK => ?_; refine rn rTI ?_; refine hK _ _ ?_; clear hK K
    rw [then_normal]
    refine aw_seq ?_
    refine aw_way (fun e' s' => e'.n = 127 ∧ e'.m 1 = .ptr s.nx 0 ∧ e'.m 3 = .v (.int .i64 (f.1 : Nat)) ∧ e'.m 4 = .v (.bool f.2.1) ∧ e'.m 5 = .v (.bool f.2.2) ∧ e'.m 6 = .v (.bool (srcC k)) ∧ preR k c = true ∧ s' = s1) ?_ ?_
    · refine aw_seq ?_
      refine aw_reg fun K hK => ?_; refine rn (cj rTI (cj @gb (cj @lS @hg))) ?_; refine hK _ _ ?_; clear hK K
      rw [then_normal]
      have hcase : k = 114 ∨ k = 99 ∨ k = 108 ∨ k = 118 ∨ k = 105 ∨ k = 101 ∨ k = 103 ∨ k = 102 ∨ k = 104 ∨ k = 116 ∨ k = 100 ∨ k = 115 ∨ k = 120 := by simpa [kinds] using hmem
      rcases hcase with hk | hk | hk | hk | hk | hk | hk | hk | hk | hk | hk | hk | hk
      · have hki : (k : Int) = 114 := by omega
        have hf : f = (2, false, true) := by rw [← hff, hk]; rfl
        have hsr : srcC k = false := by rw [hk]; rfl
        rw [hf, hsr]
        by_cases hz : c.value.1 = 0
        · have hpr : preR k c = false := by unfold preR; rw [hk, hz]; rfl
          refine go (cj rTI @hki) ?_
          refine ifs ?_ ?_ <;> first | exact nope | intro hb
          refine go (cj rTI @hki) ?_
          refine ifs ?_ ?_ <;> first | exact nope | intro hb
          refine go (cj rTI (cj @gb @hz)) ?_
          refine ifs ?_ ?_ <;> first | exact nope | intro hb
          refine go rTI ?_
          exact .inr ⟨by rw [hpr, Bool.false_and], fr⟩
        · have hpr : preR k c = true := by unfold preR; rw [hk, decide_eq_true hz]; rfl
          refine go (cj rTI @hki) ?_
          refine ifs ?_ ?_ <;> first | exact nope | intro hb
          refine go (cj rTI @hki) ?_
          refine ifs ?_ ?_ <;> first | exact nope | intro hb
          refine go (cj rTI (cj @gb @hz)) ?_
          refine ifs ?_ ?_ <;> first | exact nope | intro hb
          refine aw_skip ?_
          refine .inl ⟨rfl, ?_, ?_, ?_, ?_, ?_, ?_, hpr, rfl⟩
          all_goals ((first | refine rn rTI ?_ | exact rn0 rTI))
          all_goals (first | trivial | rfl | skip)
      · have hki : (k : Int) = 99 := by omega
        have hf : f = (2, false, true) := by rw [← hff, hk]; rfl
        have hsr : srcC k = false := by rw [hk]; rfl
        rw [hf, hsr]
        by_cases hz : c.value.1 = 0
        · have hpr : preR k c = false := by unfold preR; rw [hk, hz]; rfl
          refine go (cj rTI @hki) ?_
          refine ifs ?_ ?_ <;> first | exact nope | intro hb
          refine go (cj rTI @hki) ?_
          refine ifs ?_ ?_ <;> first | exact nope | intro hb
          refine go (cj rTI @hki) ?_
          refine ifs ?_ ?_ <;> first | exact nope | intro hb
          refine go (cj rTI (cj @gb @hz)) ?_
          refine ifs ?_ ?_ <;> first | exact nope | intro hb
          refine go rTI ?_
          exact .inr ⟨by rw [hpr, Bool.false_and], fr⟩
        · have hpr : preR k c = true := by unfold preR; rw [hk, decide_eq_true hz]; rfl
          refine go (cj rTI @hki) ?_
          refine ifs ?_ ?_ <;> first | exact nope | intro hb
          refine go (cj rTI @hki) ?_
          refine ifs ?_ ?_ <;> first | exact nope | intro hb
          refine go (cj rTI @hki) ?_
          refine ifs ?_ ?_ <;> first | exact nope | intro hb
          refine go (cj rTI (cj @gb @hz)) ?_
          refine ifs ?_ ?_ <;> first | exact nope | intro hb
          refine aw_skip ?_
          refine .inl ⟨rfl, ?_, ?_, ?_, ?_, ?_, ?_, hpr, rfl⟩
          all_goals ((first | refine rn rTI ?_ | exact rn0 rTI))
          all_goals (first | trivial | rfl | skip)
      · have hki : (k : Int) = 108 := by omega
        have hf : f = (2, false, true) := by rw [← hff, hk]; rfl
        have hsr : srcC k = false := by rw [hk]; rfl
        rw [hf, hsr]
        by_cases hz : c.value.1 = 0
        · have hpr : preR k c = false := by unfold preR; rw [hk, hz]; rfl
          refine go (cj rTI @hki) ?_
          refine ifs ?_ ?_ <;> first | exact nope | intro hb
          refine go (cj rTI @hki) ?_
          refine ifs ?_ ?_ <;> first | exact nope | intro hb
          refine go (cj rTI @hki) ?_
          refine ifs ?_ ?_ <;> first | exact nope | intro hb
          refine go (cj rTI (cj @gb @hz)) ?_
          refine ifs ?_ ?_ <;> first | exact nope | intro hb
          refine go rTI ?_
          exact .inr ⟨by rw [hpr, Bool.false_and], fr⟩
        · have hpr : preR k c = true := by unfold preR; rw [hk, decide_eq_true hz]; rfl
          refine go (cj rTI @hki) ?_
          refine ifs ?_ ?_ <;> first | exact nope | intro hb
          refine go (cj rTI @hki) ?_
          refine ifs ?_ ?_ <;> first | exact nope | intro hb
          refine go (cj rTI @hki) ?_
          refine ifs ?_ ?_ <;> first | exact nope | intro hb
          refine go (cj rTI (cj @gb @hz)) ?_
          refine ifs ?_ ?_ <;> first | exact nope | intro hb
          refine aw_skip ?_
          refine .inl ⟨rfl, ?_, ?_, ?_, ?_, ?_, ?_, hpr, rfl⟩
          all_goals ((first | refine rn rTI ?_ | exact rn0 rTI))
          all_goals (first | trivial | rfl | skip)
      · have hki : (k : Int) = 118 := by omega
        have hf : f = (2, false, false) := by rw [← hff, hk]; rfl
        have hsr : srcC k = true := by rw [hk]; rfl
        rw [hf, hsr]
        have hpr : preR k c = true := by unfold preR; rw [hk]; rfl
        refine go (cj rTI @hki) ?_
        refine ifs ?_ ?_ <;> first | exact nope | intro hb
        refine go (cj rTI @hki) ?_
        refine ifs ?_ ?_ <;> first | exact nope | intro hb
        refine go (cj rTI @hki) ?_
        refine ifs ?_ ?_ <;> first | exact nope | intro hb
        refine go (cj rTI @hki) ?_
        refine ifs ?_ ?_ <;> first | exact nope | intro hb
        refine go (cj rTI @hki) ?_
        refine ifs ?_ ?_ <;> first | exact nope | intro hb
        refine go (cj rTI @hki) ?_
        refine ifs ?_ ?_ <;> first | exact nope | intro hb
        refine go (cj rTI @hki) ?_
        refine ifs ?_ ?_ <;> first | exact nope | intro hb
        refine go (cj rTI @hki) ?_
        refine ifs ?_ ?_ <;> first | exact nope | intro hb
        refine go (cj rTI @hki) ?_
        refine ifs ?_ ?_ <;> first | exact nope | intro hb
        refine go (cj rTI @hki) ?_
        refine ifs ?_ ?_ <;> first | exact nope | intro hb
        refine go (cj rTI @hki) ?_
        refine ifs ?_ ?_ <;> first | exact nope | intro hb
        refine go rTI ?_
        refine .inl ⟨rfl, ?_, ?_, ?_, ?_, ?_, ?_, hpr, rfl⟩
        all_goals ((first | refine rn rTI ?_ | exact rn0 rTI))
        all_goals (first | trivial | rfl | skip)
      · have hki : (k : Int) = 105 := by omega
        have hf : f = (2, false, false) := by rw [← hff, hk]; rfl
        have hsr : srcC k = true := by rw [hk]; rfl
        rw [hf, hsr]
        have hpr : preR k c = true := by unfold preR; rw [hk]; rfl
        refine go (cj rTI @hki) ?_
        refine ifs ?_ ?_ <;> first | exact nope | intro hb
        refine go (cj rTI @hki) ?_
        refine ifs ?_ ?_ <;> first | exact nope | intro hb
        refine go (cj rTI @hki) ?_
        refine ifs ?_ ?_ <;> first | exact nope | intro hb
        refine go (cj rTI @hki) ?_
        refine ifs ?_ ?_ <;> first | exact nope | intro hb
        refine go (cj rTI @hki) ?_
        refine ifs ?_ ?_ <;> first | exact nope | intro hb
        refine go (cj rTI @hki) ?_
        refine ifs ?_ ?_ <;> first | exact nope | intro hb
        refine go (cj rTI @hki) ?_
        refine ifs ?_ ?_ <;> first | exact nope | intro hb
        refine go (cj rTI @hki) ?_
        refine ifs ?_ ?_ <;> first | exact nope | intro hb
        refine go (cj rTI @hki) ?_
        refine ifs ?_ ?_ <;> first | exact nope | intro hb
        refine go (cj rTI @hki) ?_
        refine ifs ?_ ?_ <;> first | exact nope | intro hb
        refine go (cj rTI @hki) ?_
        refine ifs ?_ ?_ <;> first | exact nope | intro hb
        refine go rTI ?_
        refine .inl ⟨rfl, ?_, ?_, ?_, ?_, ?_, ?_, hpr, rfl⟩
        all_goals ((first | refine rn rTI ?_ | exact rn0 rTI))
        all_goals (first | trivial | rfl | skip)
      · have hki : (k : Int) = 101 := by omega
        have hf : f = (4, false, true) := by rw [← hff, hk]; rfl
        have hsr : srcC k = false := by rw [hk]; rfl
        rw [hf, hsr]
        have hpr : preR k c = true := by unfold preR; rw [hk]; rfl
        refine go (cj rTI @hki) ?_
        refine ifs ?_ ?_ <;> first | exact nope | intro hb
        refine go (cj rTI @hki) ?_
        refine ifs ?_ ?_ <;> first | exact nope | intro hb
        refine go (cj rTI @hki) ?_
        refine ifs ?_ ?_ <;> first | exact nope | intro hb
        refine go (cj rTI @hki) ?_
        refine ifs ?_ ?_ <;> first | exact nope | intro hb
        refine go (cj rTI @hki) ?_
        refine ifs ?_ ?_ <;> first | exact nope | intro hb
        refine go rTI ?_
        refine .inl ⟨rfl, ?_, ?_, ?_, ?_, ?_, ?_, hpr, rfl⟩
        all_goals ((first | refine rn rTI ?_ | exact rn0 rTI))
        all_goals (first | trivial | rfl | skip)
      · have hki : (k : Int) = 103 := by omega
        have hf : f = (4, false, true) := by rw [← hff, hk]; rfl
        have hsr : srcC k = false := by rw [hk]; rfl
        rw [hf, hsr]
        have hpr : preR k c = true := by unfold preR; rw [hk]; rfl
        refine go (cj rTI @hki) ?_
        refine ifs ?_ ?_ <;> first | exact nope | intro hb
        refine go (cj rTI @hki) ?_
        refine ifs ?_ ?_ <;> first | exact nope | intro hb
        refine go (cj rTI @hki) ?_
        refine ifs ?_ ?_ <;> first | exact nope | intro hb
        refine go (cj rTI @hki) ?_
        refine ifs ?_ ?_ <;> first | exact nope | intro hb
        refine go (cj rTI @hki) ?_
        refine ifs ?_ ?_ <;> first | exact nope | intro hb
        refine go (cj rTI @hki) ?_
        refine ifs ?_ ?_ <;> first | exact nope | intro hb
        refine go rTI ?_
        refine .inl ⟨rfl, ?_, ?_, ?_, ?_, ?_, ?_, hpr, rfl⟩
        all_goals ((first | refine rn rTI ?_ | exact rn0 rTI))
        all_goals (first | trivial | rfl | skip)
      · have hki : (k : Int) = 102 := by omega
        have hf : f = (2, true, true) := by rw [← hff, hk]; rfl
        have hsr : srcC k = false := by rw [hk]; rfl
        rw [hf, hsr]
        by_cases hz : c.ref.getD 0 0 = 118
        · have hpr : preR k c = true := by unfold preR; rw [hk, decide_eq_true hz]; rfl
          have hl0 : 0 < c.ref.length := ref_pos c.ref hz
          have hz2 : ((c.ref.getD 0 0 : Nat) : Int) = 118 := by omega
          refine go (cj rTI @hki) ?_
          refine ifs ?_ ?_ <;> first | exact nope | intro hb
          refine go (cj rTI @hki) ?_
          refine ifs ?_ ?_ <;> first | exact nope | intro hb
          refine go (cj rTI @hki) ?_
          refine ifs ?_ ?_ <;> first | exact nope | intro hb
          refine go (cj rTI @hki) ?_
          refine ifs ?_ ?_ <;> first | exact nope | intro hb
          refine go (cj rTI @hki) ?_
          refine ifs ?_ ?_ <;> first | exact nope | intro hb
          refine go (cj rTI @hki) ?_
          refine ifs ?_ ?_ <;> first | exact nope | intro hb
          refine go (cj rTI @hki) ?_
          refine ifs ?_ ?_ <;> first | exact nope | intro hb
          refine go (cj rTI @hki) ?_
          refine ifs ?_ ?_ <;> first | exact nope | intro hb
          refine go (cj rTI (cj @gb (cj @lR (cj @hgR @hz2)))) ?_
          refine ifs ?_ ?_ <;> first | exact nope | intro hb
          refine aw_skip ?_
          refine .inl ⟨rfl, ?_, ?_, ?_, ?_, ?_, ?_, hpr, rfl⟩
          all_goals ((first | refine rn rTI ?_ | exact rn0 rTI))
          all_goals (first | trivial | rfl | skip)
        · have hpr : preR k c = false := by unfold preR; rw [hk, decide_eq_false hz]; rfl
          have hz2 : ¬ ((c.ref.getD 0 0 : Nat) : Int) = 118 := by omega
          by_cases hl0 : c.ref.length = 0
          · refine go (cj rTI @hki) ?_
            refine ifs ?_ ?_ <;> first | exact nope | intro hb
            refine go (cj rTI @hki) ?_
            refine ifs ?_ ?_ <;> first | exact nope | intro hb
            refine go (cj rTI @hki) ?_
            refine ifs ?_ ?_ <;> first | exact nope | intro hb
            refine go (cj rTI @hki) ?_
            refine ifs ?_ ?_ <;> first | exact nope | intro hb
            refine go (cj rTI @hki) ?_
            refine ifs ?_ ?_ <;> first | exact nope | intro hb
            refine go (cj rTI @hki) ?_
            refine ifs ?_ ?_ <;> first | exact nope | intro hb
            refine go (cj rTI @hki) ?_
            refine ifs ?_ ?_ <;> first | exact nope | intro hb
            refine go (cj rTI @hki) ?_
            refine ifs ?_ ?_ <;> first | exact nope | intro hb
            refine go (cj rTI (cj @gb (cj @lR (cj @hgR @hz2)))) ?_
            refine ifs ?_ ?_ <;> first | exact nope | intro hb
            refine go rTI ?_
            exact .inr ⟨by rw [hpr, Bool.false_and], fr⟩
          · refine go (cj rTI @hki) ?_
            refine ifs ?_ ?_ <;> first | exact nope | intro hb
            refine go (cj rTI @hki) ?_
            refine ifs ?_ ?_ <;> first | exact nope | intro hb
            refine go (cj rTI @hki) ?_
            refine ifs ?_ ?_ <;> first | exact nope | intro hb
            refine go (cj rTI @hki) ?_
            refine ifs ?_ ?_ <;> first | exact nope | intro hb
            refine go (cj rTI @hki) ?_
            refine ifs ?_ ?_ <;> first | exact nope | intro hb
            refine go (cj rTI @hki) ?_
            refine ifs ?_ ?_ <;> first | exact nope | intro hb
            refine go (cj rTI @hki) ?_
            refine ifs ?_ ?_ <;> first | exact nope | intro hb
            refine go (cj rTI @hki) ?_
            refine ifs ?_ ?_ <;> first | exact nope | intro hb
            refine go (cj rTI (cj @gb (cj @lR (cj @hgR @hz2)))) ?_
            refine ifs ?_ ?_ <;> first | exact nope | intro hb
            refine go rTI ?_
            exact .inr ⟨by rw [hpr, Bool.false_and], fr⟩
      · have hki : (k : Int) = 104 := by omega
        have hf : f = (2, true, true) := by rw [← hff, hk]; rfl
        have hsr : srcC k = false := by rw [hk]; rfl
        rw [hf, hsr]
        by_cases hz : c.ref.getD 0 0 = 118
        · have hpr : preR k c = true := by unfold preR; rw [hk, decide_eq_true hz]; rfl
          have hl0 : 0 < c.ref.length := ref_pos c.ref hz
          have hz2 : ((c.ref.getD 0 0 : Nat) : Int) = 118 := by omega
          refine go (cj rTI @hki) ?_
          refine ifs ?_ ?_ <;> first | exact nope | intro hb
          refine go (cj rTI @hki) ?_
          refine ifs ?_ ?_ <;> first | exact nope | intro hb
          refine go (cj rTI @hki) ?_
          refine ifs ?_ ?_ <;> first | exact nope | intro hb
          refine go (cj rTI @hki) ?_
          refine ifs ?_ ?_ <;> first | exact nope | intro hb
          refine go (cj rTI @hki) ?_
          refine ifs ?_ ?_ <;> first | exact nope | intro hb
          refine go (cj rTI @hki) ?_
          refine ifs ?_ ?_ <;> first | exact nope | intro hb
          refine go (cj rTI @hki) ?_
          refine ifs ?_ ?_ <;> first | exact nope | intro hb
          refine go (cj rTI @hki) ?_
          refine ifs ?_ ?_ <;> first | exact nope | intro hb
          refine go (cj rTI (cj @gb (cj @lR (cj @hgR @hz2)))) ?_
          refine ifs ?_ ?_ <;> first | exact nope | intro hb
          refine aw_skip ?_
          refine .inl ⟨rfl, ?_, ?_, ?_, ?_, ?_, ?_, hpr, rfl⟩
          all_goals ((first | refine rn rTI ?_ | exact rn0 rTI))
          all_goals (first | trivial | rfl | skip)
        · have hpr : preR k c = false := by unfold preR; rw [hk, decide_eq_false hz]; rfl
          have hz2 : ¬ ((c.ref.getD 0 0 : Nat) : Int) = 118 := by omega
          by_cases hl0 : c.ref.length = 0
          · refine go (cj rTI @hki) ?_
            refine ifs ?_ ?_ <;> first | exact nope | intro hb
            refine go (cj rTI @hki) ?_
            refine ifs ?_ ?_ <;> first | exact nope | intro hb
            refine go (cj rTI @hki) ?_
            refine ifs ?_ ?_ <;> first | exact nope | intro hb
            refine go (cj rTI @hki) ?_
            refine ifs ?_ ?_ <;> first | exact nope | intro hb
            refine go (cj rTI @hki) ?_
            refine ifs ?_ ?_ <;> first | exact nope | intro hb
            refine go (cj rTI @hki) ?_
            refine ifs ?_ ?_ <;> first | exact nope | intro hb
            refine go (cj rTI @hki) ?_
            refine ifs ?_ ?_ <;> first | exact nope | intro hb
            refine go (cj rTI @hki) ?_
            refine ifs ?_ ?_ <;> first | exact nope | intro hb
            refine go (cj rTI (cj @gb (cj @lR (cj @hgR @hz2)))) ?_
            refine ifs ?_ ?_ <;> first | exact nope | intro hb
            refine go rTI ?_
            exact .inr ⟨by rw [hpr, Bool.false_and], fr⟩
          · refine go (cj rTI @hki) ?_
            refine ifs ?_ ?_ <;> first | exact nope | intro hb
            refine go (cj rTI @hki) ?_
            refine ifs ?_ ?_ <;> first | exact nope | intro hb
            refine go (cj rTI @hki) ?_
            refine ifs ?_ ?_ <;> first | exact nope | intro hb
            refine go (cj rTI @hki) ?_
            refine ifs ?_ ?_ <;> first | exact nope | intro hb
            refine go (cj rTI @hki) ?_
            refine ifs ?_ ?_ <;> first | exact nope | intro hb
            refine go (cj rTI @hki) ?_
            refine ifs ?_ ?_ <;> first | exact nope | intro hb
            refine go (cj rTI @hki) ?_
            refine ifs ?_ ?_ <;> first | exact nope | intro hb
            refine go (cj rTI @hki) ?_
            refine ifs ?_ ?_ <;> first | exact nope | intro hb
            refine go (cj rTI (cj @gb (cj @lR (cj @hgR @hz2)))) ?_
            refine ifs ?_ ?_ <;> first | exact nope | intro hb
            refine go rTI ?_
            exact .inr ⟨by rw [hpr, Bool.false_and], fr⟩
      · have hki : (k : Int) = 116 := by omega
        have hf : f = (4, false, true) := by rw [← hff, hk]; rfl
        have hsr : srcC k = false := by rw [hk]; rfl
        rw [hf, hsr]
        have hpr : preR k c = true := by unfold preR; rw [hk]; rfl
        refine go (cj rTI @hki) ?_
        refine ifs ?_ ?_ <;> first | exact nope | intro hb
        refine go (cj rTI @hki) ?_
        refine ifs ?_ ?_ <;> first | exact nope | intro hb
        refine go (cj rTI @hki) ?_
        refine ifs ?_ ?_ <;> first | exact nope | intro hb
        refine go (cj rTI @hki) ?_
        refine ifs ?_ ?_ <;> first | exact nope | intro hb
        refine go (cj rTI @hki) ?_
        refine ifs ?_ ?_ <;> first | exact nope | intro hb
        refine go (cj rTI @hki) ?_
        refine ifs ?_ ?_ <;> first | exact nope | intro hb
        refine go rTI ?_
        refine .inl ⟨rfl, ?_, ?_, ?_, ?_, ?_, ?_, hpr, rfl⟩
        all_goals ((first | refine rn rTI ?_ | exact rn0 rTI))
        all_goals (first | trivial | rfl | skip)
      · have hki : (k : Int) = 100 := by omega
        have hf : f = (2, true, false) := by rw [← hff, hk]; rfl
        have hsr : srcC k = false := by rw [hk]; rfl
        rw [hf, hsr]
        have hpr : preR k c = true := by unfold preR; rw [hk]; rfl
        refine go (cj rTI @hki) ?_
        refine ifs ?_ ?_ <;> first | exact nope | intro hb
        refine go (cj rTI @hki) ?_
        refine ifs ?_ ?_ <;> first | exact nope | intro hb
        refine go (cj rTI @hki) ?_
        refine ifs ?_ ?_ <;> first | exact nope | intro hb
        refine go (cj rTI @hki) ?_
        refine ifs ?_ ?_ <;> first | exact nope | intro hb
        refine go (cj rTI @hki) ?_
        refine ifs ?_ ?_ <;> first | exact nope | intro hb
        refine go (cj rTI @hki) ?_
        refine ifs ?_ ?_ <;> first | exact nope | intro hb
        refine go (cj rTI @hki) ?_
        refine ifs ?_ ?_ <;> first | exact nope | intro hb
        refine go (cj rTI @hki) ?_
        refine ifs ?_ ?_ <;> first | exact nope | intro hb
        refine go (cj rTI @hki) ?_
        refine ifs ?_ ?_ <;> first | exact nope | intro hb
        refine go rTI ?_
        refine .inl ⟨rfl, ?_, ?_, ?_, ?_, ?_, ?_, hpr, rfl⟩
        all_goals ((first | refine rn rTI ?_ | exact rn0 rTI))
        all_goals (first | trivial | rfl | skip)
      · have hki : (k : Int) = 115 := by omega
        have hf : f = (4, true, false) := by rw [← hff, hk]; rfl
        have hsr : srcC k = false := by rw [hk]; rfl
        rw [hf, hsr]
        have hpr : preR k c = true := by unfold preR; rw [hk]; rfl
        refine go (cj rTI @hki) ?_
        refine ifs ?_ ?_ <;> first | exact nope | intro hb
        refine go (cj rTI @hki) ?_
        refine ifs ?_ ?_ <;> first | exact nope | intro hb
        refine go (cj rTI @hki) ?_
        refine ifs ?_ ?_ <;> first | exact nope | intro hb
        refine go (cj rTI @hki) ?_
        refine ifs ?_ ?_ <;> first | exact nope | intro hb
        refine go (cj rTI @hki) ?_
        refine ifs ?_ ?_ <;> first | exact nope | intro hb
        refine go (cj rTI @hki) ?_
        refine ifs ?_ ?_ <;> first | exact nope | intro hb
        refine go (cj rTI @hki) ?_
        refine ifs ?_ ?_ <;> first | exact nope | intro hb
        refine go (cj rTI @hki) ?_
        refine ifs ?_ ?_ <;> first | exact nope | intro hb
        refine go (cj rTI @hki) ?_
        refine ifs ?_ ?_ <;> first | exact nope | intro hb
        refine go (cj rTI @hki) ?_
        refine ifs ?_ ?_ <;> first | exact nope | intro hb
        refine go rTI ?_
        refine .inl ⟨rfl, ?_, ?_, ?_, ?_, ?_, ?_, hpr, rfl⟩
        all_goals ((first | refine rn rTI ?_ | exact rn0 rTI))
        all_goals (first | trivial | rfl | skip)
      · have hki : (k : Int) = 120 := by omega
        have hf : f = (c.nodes.length, true, false) := by rw [← hff, hk]; rfl
        have hsr : srcC k = false := by rw [hk]; rfl
        rw [hf, hsr]
        by_cases hz : 1 ≤ c.nodes.length ∧ c.nodes.length ≤ 8
        · have hpr : preR k c = true := by unfold preR; rw [hk, decide_eq_true hz]; rfl
          refine go (cj rTI @hki) ?_
          refine ifs ?_ ?_ <;> first | exact nope | intro hb
          refine go (cj rTI @hki) ?_
          refine ifs ?_ ?_ <;> first | exact nope | intro hb
          refine go (cj rTI @hki) ?_
          refine ifs ?_ ?_ <;> first | exact nope | intro hb
          refine go (cj rTI @hki) ?_
          refine ifs ?_ ?_ <;> first | exact nope | intro hb
          refine go (cj rTI @hki) ?_
          refine ifs ?_ ?_ <;> first | exact nope | intro hb
          refine go (cj rTI @hki) ?_
          refine ifs ?_ ?_ <;> first | exact nope | intro hb
          refine go (cj rTI @hki) ?_
          refine ifs ?_ ?_ <;> first | exact nope | intro hb
          refine go (cj rTI @hki) ?_
          refine ifs ?_ ?_ <;> first | exact nope | intro hb
          refine go (cj rTI @hki) ?_
          refine ifs ?_ ?_ <;> first | exact nope | intro hb
          refine go (cj rTI @hki) ?_
          refine ifs ?_ ?_ <;> first | exact nope | intro hb
          refine go (cj rTI @hki) ?_
          refine ifs ?_ ?_ <;> first | exact nope | intro hb
          refine go (cj rTI @gb) ?_
          refine ifs ?_ ?_ <;> first | exact nope | intro hb
          refine aw_skip ?_
          refine .inl ⟨rfl, ?_, ?_, ?_, ?_, ?_, ?_, hpr, rfl⟩
          all_goals (exact rn0 rTI)
          all_goals (first | trivial | rfl | skip)
        · have hpr : preR k c = false := by unfold preR; rw [hk, decide_eq_false hz]; rfl
          by_cases hl0 : 1 ≤ c.nodes.length
          · refine go (cj rTI @hki) ?_
            refine ifs ?_ ?_ <;> first | exact nope | intro hb
            refine go (cj rTI @hki) ?_
            refine ifs ?_ ?_ <;> first | exact nope | intro hb
            refine go (cj rTI @hki) ?_
            refine ifs ?_ ?_ <;> first | exact nope | intro hb
            refine go (cj rTI @hki) ?_
            refine ifs ?_ ?_ <;> first | exact nope | intro hb
            refine go (cj rTI @hki) ?_
            refine ifs ?_ ?_ <;> first | exact nope | intro hb
            refine go (cj rTI @hki) ?_
            refine ifs ?_ ?_ <;> first | exact nope | intro hb
            refine go (cj rTI @hki) ?_
            refine ifs ?_ ?_ <;> first | exact nope | intro hb
            refine go (cj rTI @hki) ?_
            refine ifs ?_ ?_ <;> first | exact nope | intro hb
            refine go (cj rTI @hki) ?_
            refine ifs ?_ ?_ <;> first | exact nope | intro hb
            refine go (cj rTI @hki) ?_
            refine ifs ?_ ?_ <;> first | exact nope | intro hb
            refine go (cj rTI @hki) ?_
            refine ifs ?_ ?_ <;> first | exact nope | intro hb
            refine go (cj rTI @gb) ?_
            refine ifs ?_ ?_ <;> first | exact nope | intro hb
            refine go rTI ?_
            exact .inr ⟨by rw [hpr, Bool.false_and], fr⟩
          · refine go (cj rTI @hki) ?_
            refine ifs ?_ ?_ <;> first | exact nope | intro hb
            refine go (cj rTI @hki) ?_
            refine ifs ?_ ?_ <;> first | exact nope | intro hb
            refine go (cj rTI @hki) ?_
            refine ifs ?_ ?_ <;> first | exact nope | intro hb
            refine go (cj rTI @hki) ?_
            refine ifs ?_ ?_ <;> first | exact nope | intro hb
            refine go (cj rTI @hki) ?_
            refine ifs ?_ ?_ <;> first | exact nope | intro hb
            refine go (cj rTI @hki) ?_
            refine ifs ?_ ?_ <;> first | exact nope | intro hb
            refine go (cj rTI @hki) ?_
            refine ifs ?_ ?_ <;> first | exact nope | intro hb
            refine go (cj rTI @hki) ?_
            refine ifs ?_ ?_ <;> first | exact nope | intro hb
            refine go (cj rTI @hki) ?_
            refine ifs ?_ ?_ <;> first | exact nope | intro hb
            refine go (cj rTI @hki) ?_
            refine ifs ?_ ?_ <;> first | exact nope | intro hb
            refine go (cj rTI @hki) ?_
            refine ifs ?_ ?_ <;> first | exact nope | intro hb
            refine go (cj rTI @gb) ?_
            refine ifs ?_ ?_ <;> first | exact nope | intro hb
            refine go rTI ?_
            exact .inr ⟨by rw [hpr, Bool.false_and], fr⟩
    · rintro e' s' ⟨h1, k1, k3, k4, k5, k6, hpr, rfl⟩
      rw [then_normal, hpr, Bool.true_and]
      clear hff hmem hpr hg lS hp lR hgR
      obtain ⟨n, fb, fc⟩ := f
      simp only at k3 k4 k5 ⊢
      by_cases hnl : c.nodes.length = n
      · subst hnl
        rw [decide_eq_true rfl, Bool.true_and]
        refine go (cj rTI (cj @h1 (cj @k1 (cj @k3 @gb)))) ?_
        refine ifs ?_ ?_ <;> first | exact nope | intro hb
        refine go (cj rTI @h1) ?_
        refine aw_loop (fun m e2 s2 => ∃ i, m = c.nodes.length - i ∧ i ≤ c.nodes.length ∧ e2.n = 127 ∧ e2.m 1 = .ptr s.nx 0 ∧ e2.m 3 = .v (.int .i64 (c.nodes.length : Nat)) ∧ e2.m 4 = .v (.bool fb) ∧ e2.m 5 = .v (.bool fc) ∧ e2.m 6 = .v (.bool (srcC k)) ∧ e2.m 7 = .v (.int .i64 (i : Nat)) ∧ (c.nodes.take i).all isName = true ∧ s2 = s') c.nodes.length ?_ ?_
        · refine ⟨0, by omega, by omega, ?_, ?_, ?_, ?_, ?_, ?_, ?_, rfl, rfl⟩
          all_goals ((first | refine rn (cj rTI (cj @h1 (cj @k1 (cj @k3 (cj @k4 (cj @k5 @k6)))))) ?_ | exact rn0 (cj rTI (cj @h1 (cj @k1 (cj @k3 (cj @k4 (cj @k5 @k6))))))))
          all_goals (first | rfl | trivial)
        · clear h1 k1 k3 k4 k5 k6
          rintro m e2 s2 ⟨i, rfl, hi, h1, k1, k3, k4, k5, k6, k7, ha, rfl⟩
          have hcl := hc.d.2.2
          by_cases hi2 : i < c.nodes.length
          · have f1 := hd_SL c.nodes i hi2
            have hx := bl_at c.nodes hc.d.1 i
            have hxl : (c.nodes.getD i []).length ≤ 281474976710656 := by
              rw [List.getD_eq_getElem?_getD, List.getElem?_eq_getElem hi2]
              exact hc.d.2.1 _ (List.getElem_mem _)
            have hq := rname_ax (c.nodes.getD i []) hx (by omega)
            have ht := take_all isName c.nodes [] i hi2 ha
            have hf := all_not isName c.nodes [] i hi2
            unfold SV at f1 hq
            generalize c.nodes.getD i [] = x at *
            refine go (cj rTI (cj @h1 (cj @k3 @k7))) ?_
            refine ifs ?_ ?_ <;> first | exact nope | intro hb
            refine aw_skip ?_
            refine go rTI ?_
            refine aw_reg fun K hK => ?_; refine rn (cj rTI (cj @h1 (cj @k1 (cj @k7 (cj @gb @f1))))) ?_; refine cont_pure hq ?_; refine rn (cj rTI (cj @h1 (cj @k1 (cj @k7 (cj @gb @f1))))) ?_; refine hK _ _ ?_; clear hK K
            cases hcx : isName x with
            | false =>
              rw [hf hcx, Bool.false_and]
              refine ifs ?_ ?_ <;> first | exact nope | intro hb
              refine go (cj rTI @h1) ?_
              exact fr
            | true =>
              rw [hcx] at ht
              refine ifs ?_ ?_ <;> first | exact nope | intro hb
              refine go (cj rTI (cj @h1 @k7)) ?_
              simp only [block_normal, loop_normal]
              refine ⟨c.nodes.length - (i + 1), by omega, i + 1, rfl, by omega, ?_, ?_, ?_, ?_, ?_, ?_, ?_, ht, trivial⟩
              all_goals ((first | refine rn (cj rTI (cj @h1 (cj @k1 (cj @k3 (cj @k4 (cj @k5 (cj @k6 @k7))))))) ?_ | exact rn0 (cj rTI (cj @h1 (cj @k1 (cj @k3 (cj @k4 (cj @k5 (cj @k6 @k7)))))))))
              all_goals (first | rfl | trivial)
          · obtain rfl : i = c.nodes.length := by omega
            rw [List.take_length] at ha
            rw [ha, Bool.true_and]
            clear ha hi hi2
            have hrn := rname_ax c.ref hc.r.1 (by have := hc.r.2; omega)
            have hne := str_ne c.ref [] hc.r.1 (by_lit _ rfl)
            rw [show bs [] = ByteArray.mk #[] from rfl] at hne
            have hva : PCall Tryz.prog 16 [NM c.value.1 c.value.2] (.v (.bool (valid c.value))) := RefM.valid_ax _ _
            have hf5 : eqOk Tryz.prog 24 = true := by kernel_rfl
            have hf6 : (c.value.1 == 0 && c.value.2 == 0) = decide (c.value = (0, 0)) := by rw [Bool.eq_iff_iff, decide_eq_true_eq, Prod.ext_iff]; simp
            have hwv := rwvalid_ax c.wave (by omega) (by omega)
            unfold SV at hrn
            unfold NM at hva
            unfold WA NV IV iv at hwv
            cases fb with
            | false =>
              refine go (cj rTI (cj @h1 (cj @k3 @k7))) ?_
              refine ifs ?_ ?_ <;> first | exact nope | intro hb
              rw [show refR (c.nodes.length, false, fc) c = decide (c.ref = []) from rfl]
              by_cases hcr : c.ref = []
              · rw [decide_eq_true hcr] at hne
                rw [decide_eq_true hcr, Bool.true_and]
                refine go (cj rTI @h1) ?_
                refine go (cj rTI (cj @h1 (cj @k1 (cj @k4 (cj @gb @hne))))) ?_
                refine ifs ?_ ?_ <;> first | exact nope | intro hb
                refine aw_skip ?_
                rw [then_normal]
                refine aw_seq ?_
                refine aw_seq ?_
                cases fc with
                | false =>
                  rw [show valR (c.nodes.length, false, false) c = decide (c.value = (0, 0)) from rfl]
                  by_cases hcv : c.value = (0, 0)
                  · rw [decide_eq_true hcv] at hf6
                    rw [decide_eq_true hcv, Bool.true_and]
                    refine go (cj rTI (cj @h1 (cj @k1 (cj @k5 (cj @gb (cj @hf5 @hf6)))))) ?_
                    refine ifs ?_ ?_ <;> first | exact nope | intro hb
                    refine aw_skip ?_
                    rw [then_normal]
                    cases hsv : srcC k with
                    | false =>
                      rw [hsv] at k6
                      rw [show wavR k c = decide (c.wave.kind = 0 ∧ c.wave.vals = [] ∧ c.wave.steps = []) from if_neg (by rw [hsv]; exact Bool.false_ne_true)]
                      by_cases w1 : c.wave.kind = 0
                      · by_cases w2 : c.wave.vals.length + c.wave.steps.length = 0
                        · have w3 : c.wave.vals = [] := List.length_eq_zero_iff.1 (by omega)
                          have w4 : c.wave.steps = [] := List.length_eq_zero_iff.1 (by omega)
                          have w5 : (c.wave.vals.length : Int) + (c.wave.steps.length : Int) = 0 := by omega
                          rw [decide_eq_true ⟨w1, w3, w4⟩]
                          refine go (cj rTI (cj @h1 @k6)) ?_
                          refine ifs ?_ ?_ <;> first | exact nope | intro hb
                          refine go (cj rTI (cj @h1 (cj @k1 (cj @gb (cj @w1 @w5))))) ?_
                          exact fr
                        · have w5 : ¬ (c.wave.vals.length : Int) + (c.wave.steps.length : Int) = 0 := by omega
                          rw [decide_eq_false (fun h => w2 (by rw [h.2.1, h.2.2]; rfl))]
                          refine go (cj rTI (cj @h1 @k6)) ?_
                          refine ifs ?_ ?_ <;> first | exact nope | intro hb
                          refine go (cj rTI (cj @h1 (cj @k1 (cj @gb (cj @w1 @w5))))) ?_
                          exact fr
                      · rw [decide_eq_false (fun h => w1 h.1)]
                        refine go (cj rTI (cj @h1 @k6)) ?_
                        refine ifs ?_ ?_ <;> first | exact nope | intro hb
                        refine go (cj rTI (cj @h1 (cj @k1 (cj @gb @w1)))) ?_
                        exact fr
                    | true =>
                      rw [hsv] at k6
                      rw [show wavR k c = waveOk c.wave from if_pos hsv]
                      refine go (cj rTI (cj @h1 @k6)) ?_
                      refine ifs ?_ ?_ <;> first | exact nope | intro hb
                      refine aw_seq ?_
                      refine aw_reg fun K hK => ?_; refine rn (cj rTI (cj @h1 (cj @k1 @gb))) ?_; refine cont_pure hwv ?_; refine rn (cj rTI (cj @h1 (cj @k1 @gb))) ?_; refine hK _ _ ?_; clear hK K
                      refine go (cj rTI @h1) ?_
                      exact fr
                  · rw [decide_eq_false hcv] at hf6
                    rw [decide_eq_false hcv, Bool.false_and]
                    refine go (cj rTI (cj @h1 (cj @k1 (cj @k5 (cj @gb (cj @hf5 @hf6)))))) ?_
                    refine ifs ?_ ?_ <;> first | exact nope | intro hb
                    refine go (cj rTI @h1) ?_
                    exact fr
                | true =>
                  rw [show valR (c.nodes.length, false, true) c = valid c.value from rfl]
                  cases hcv : valid c.value with
                  | false =>
                    rw [hcv] at hva
                    rw [Bool.false_and]
                    refine aw_reg fun K hK => ?_; refine rn (cj rTI (cj @h1 (cj @k1 (cj @k5 @gb)))) ?_; refine cont_pure hva ?_; refine rn (cj rTI (cj @h1 (cj @k1 (cj @k5 @gb)))) ?_; refine hK _ _ ?_; clear hK K
                    refine ifs ?_ ?_ <;> first | exact nope | intro hb
                    refine go (cj rTI @h1) ?_
                    exact fr
                  | true =>
                    rw [hcv] at hva
                    rw [Bool.true_and]
                    refine aw_reg fun K hK => ?_; refine rn (cj rTI (cj @h1 (cj @k1 (cj @k5 @gb)))) ?_; refine cont_pure hva ?_; refine rn (cj rTI (cj @h1 (cj @k1 (cj @k5 @gb)))) ?_; refine hK _ _ ?_; clear hK K
                    refine ifs ?_ ?_ <;> first | exact nope | intro hb
                    refine aw_skip ?_
                    rw [then_normal]
                    cases hsv : srcC k with
                    | false =>
                      rw [hsv] at k6
                      rw [show wavR k c = decide (c.wave.kind = 0 ∧ c.wave.vals = [] ∧ c.wave.steps = []) from if_neg (by rw [hsv]; exact Bool.false_ne_true)]
                      by_cases w1 : c.wave.kind = 0
                      · by_cases w2 : c.wave.vals.length + c.wave.steps.length = 0
                        · have w3 : c.wave.vals = [] := List.length_eq_zero_iff.1 (by omega)
                          have w4 : c.wave.steps = [] := List.length_eq_zero_iff.1 (by omega)
                          have w5 : (c.wave.vals.length : Int) + (c.wave.steps.length : Int) = 0 := by omega
                          rw [decide_eq_true ⟨w1, w3, w4⟩]
                          refine go (cj rTI (cj @h1 @k6)) ?_
                          refine ifs ?_ ?_ <;> first | exact nope | intro hb
                          refine go (cj rTI (cj @h1 (cj @k1 (cj @gb (cj @w1 @w5))))) ?_
                          exact fr
                        · have w5 : ¬ (c.wave.vals.length : Int) + (c.wave.steps.length : Int) = 0 := by omega
                          rw [decide_eq_false (fun h => w2 (by rw [h.2.1, h.2.2]; rfl))]
                          refine go (cj rTI (cj @h1 @k6)) ?_
                          refine ifs ?_ ?_ <;> first | exact nope | intro hb
                          refine go (cj rTI (cj @h1 (cj @k1 (cj @gb (cj @w1 @w5))))) ?_
                          exact fr
                      · rw [decide_eq_false (fun h => w1 h.1)]
                        refine go (cj rTI (cj @h1 @k6)) ?_
                        refine ifs ?_ ?_ <;> first | exact nope | intro hb
                        refine go (cj rTI (cj @h1 (cj @k1 (cj @gb @w1)))) ?_
                        exact fr
                    | true =>
                      rw [hsv] at k6
                      rw [show wavR k c = waveOk c.wave from if_pos hsv]
                      refine go (cj rTI (cj @h1 @k6)) ?_
                      refine ifs ?_ ?_ <;> first | exact nope | intro hb
                      refine aw_seq ?_
                      refine aw_reg fun K hK => ?_; refine rn (cj rTI (cj @h1 (cj @k1 @gb))) ?_; refine cont_pure hwv ?_; refine rn (cj rTI (cj @h1 (cj @k1 @gb))) ?_; refine hK _ _ ?_; clear hK K
                      refine go (cj rTI @h1) ?_
                      exact fr
              · rw [decide_eq_false hcr] at hne
                rw [decide_eq_false hcr, Bool.false_and]
                refine go (cj rTI @h1) ?_
                refine go (cj rTI (cj @h1 (cj @k1 (cj @k4 (cj @gb @hne))))) ?_
                refine ifs ?_ ?_ <;> first | exact nope | intro hb
                refine go (cj rTI @h1) ?_
                exact fr
            | true =>
              refine go (cj rTI (cj @h1 (cj @k3 @k7))) ?_
              refine ifs ?_ ?_ <;> first | exact nope | intro hb
              rw [show refR (c.nodes.length, true, fc) c = isName c.ref from rfl]
              cases hcr : isName c.ref with
              | false =>
                rw [hcr] at hrn
                rw [Bool.false_and]
                refine go (cj rTI @h1) ?_
                refine aw_reg fun K hK => ?_; refine rn (cj rTI (cj @h1 (cj @k1 (cj @k4 @gb)))) ?_; refine cont_pure hrn ?_; refine rn (cj rTI (cj @h1 (cj @k1 (cj @k4 @gb)))) ?_; refine hK _ _ ?_; clear hK K
                refine ifs ?_ ?_ <;> first | exact nope | intro hb
                refine go (cj rTI @h1) ?_
                exact fr
              | true =>
                rw [hcr] at hrn
                rw [Bool.true_and]
                refine go (cj rTI @h1) ?_
                refine aw_reg fun K hK => ?_; refine rn (cj rTI (cj @h1 (cj @k1 (cj @k4 @gb)))) ?_; refine cont_pure hrn ?_; refine rn (cj rTI (cj @h1 (cj @k1 (cj @k4 @gb)))) ?_; refine hK _ _ ?_; clear hK K
                refine ifs ?_ ?_ <;> first | exact nope | intro hb
                refine aw_skip ?_
                rw [then_normal]
                refine aw_seq ?_
                refine aw_seq ?_
                cases fc with
                | false =>
                  rw [show valR (c.nodes.length, true, false) c = decide (c.value = (0, 0)) from rfl]
                  by_cases hcv : c.value = (0, 0)
                  · rw [decide_eq_true hcv] at hf6
                    rw [decide_eq_true hcv, Bool.true_and]
                    refine go (cj rTI (cj @h1 (cj @k1 (cj @k5 (cj @gb (cj @hf5 @hf6)))))) ?_
                    refine ifs ?_ ?_ <;> first | exact nope | intro hb
                    refine aw_skip ?_
                    rw [then_normal]
                    cases hsv : srcC k with
                    | false =>
                      rw [hsv] at k6
                      rw [show wavR k c = decide (c.wave.kind = 0 ∧ c.wave.vals = [] ∧ c.wave.steps = []) from if_neg (by rw [hsv]; exact Bool.false_ne_true)]
                      by_cases w1 : c.wave.kind = 0
                      · by_cases w2 : c.wave.vals.length + c.wave.steps.length = 0
                        · have w3 : c.wave.vals = [] := List.length_eq_zero_iff.1 (by omega)
                          have w4 : c.wave.steps = [] := List.length_eq_zero_iff.1 (by omega)
                          have w5 : (c.wave.vals.length : Int) + (c.wave.steps.length : Int) = 0 := by omega
                          rw [decide_eq_true ⟨w1, w3, w4⟩]
                          refine go (cj rTI (cj @h1 @k6)) ?_
                          refine ifs ?_ ?_ <;> first | exact nope | intro hb
                          refine go (cj rTI (cj @h1 (cj @k1 (cj @gb (cj @w1 @w5))))) ?_
                          exact fr
                        · have w5 : ¬ (c.wave.vals.length : Int) + (c.wave.steps.length : Int) = 0 := by omega
                          rw [decide_eq_false (fun h => w2 (by rw [h.2.1, h.2.2]; rfl))]
                          refine go (cj rTI (cj @h1 @k6)) ?_
                          refine ifs ?_ ?_ <;> first | exact nope | intro hb
                          refine go (cj rTI (cj @h1 (cj @k1 (cj @gb (cj @w1 @w5))))) ?_
                          exact fr
                      · rw [decide_eq_false (fun h => w1 h.1)]
                        refine go (cj rTI (cj @h1 @k6)) ?_
                        refine ifs ?_ ?_ <;> first | exact nope | intro hb
                        refine go (cj rTI (cj @h1 (cj @k1 (cj @gb @w1)))) ?_
                        exact fr
                    | true =>
                      rw [hsv] at k6
                      rw [show wavR k c = waveOk c.wave from if_pos hsv]
                      refine go (cj rTI (cj @h1 @k6)) ?_
                      refine ifs ?_ ?_ <;> first | exact nope | intro hb
                      refine aw_seq ?_
                      refine aw_reg fun K hK => ?_; refine rn (cj rTI (cj @h1 (cj @k1 @gb))) ?_; refine cont_pure hwv ?_; refine rn (cj rTI (cj @h1 (cj @k1 @gb))) ?_; refine hK _ _ ?_; clear hK K
                      refine go (cj rTI @h1) ?_
                      exact fr
                  · rw [decide_eq_false hcv] at hf6
                    rw [decide_eq_false hcv, Bool.false_and]
                    refine go (cj rTI (cj @h1 (cj @k1 (cj @k5 (cj @gb (cj @hf5 @hf6)))))) ?_
                    refine ifs ?_ ?_ <;> first | exact nope | intro hb
                    refine go (cj rTI @h1) ?_
                    exact fr
                | true =>
                  rw [show valR (c.nodes.length, true, true) c = valid c.value from rfl]
                  cases hcv : valid c.value with
                  | false =>
                    rw [hcv] at hva
                    rw [Bool.false_and]
                    refine aw_reg fun K hK => ?_; refine rn (cj rTI (cj @h1 (cj @k1 (cj @k5 @gb)))) ?_; refine cont_pure hva ?_; refine rn (cj rTI (cj @h1 (cj @k1 (cj @k5 @gb)))) ?_; refine hK _ _ ?_; clear hK K
                    refine ifs ?_ ?_ <;> first | exact nope | intro hb
                    refine go (cj rTI @h1) ?_
                    exact fr
                  | true =>
                    rw [hcv] at hva
                    rw [Bool.true_and]
                    refine aw_reg fun K hK => ?_; refine rn (cj rTI (cj @h1 (cj @k1 (cj @k5 @gb)))) ?_; refine cont_pure hva ?_; refine rn (cj rTI (cj @h1 (cj @k1 (cj @k5 @gb)))) ?_; refine hK _ _ ?_; clear hK K
                    refine ifs ?_ ?_ <;> first | exact nope | intro hb
                    refine aw_skip ?_
                    rw [then_normal]
                    cases hsv : srcC k with
                    | false =>
                      rw [hsv] at k6
                      rw [show wavR k c = decide (c.wave.kind = 0 ∧ c.wave.vals = [] ∧ c.wave.steps = []) from if_neg (by rw [hsv]; exact Bool.false_ne_true)]
                      by_cases w1 : c.wave.kind = 0
                      · by_cases w2 : c.wave.vals.length + c.wave.steps.length = 0
                        · have w3 : c.wave.vals = [] := List.length_eq_zero_iff.1 (by omega)
                          have w4 : c.wave.steps = [] := List.length_eq_zero_iff.1 (by omega)
                          have w5 : (c.wave.vals.length : Int) + (c.wave.steps.length : Int) = 0 := by omega
                          rw [decide_eq_true ⟨w1, w3, w4⟩]
                          refine go (cj rTI (cj @h1 @k6)) ?_
                          refine ifs ?_ ?_ <;> first | exact nope | intro hb
                          refine go (cj rTI (cj @h1 (cj @k1 (cj @gb (cj @w1 @w5))))) ?_
                          exact fr
                        · have w5 : ¬ (c.wave.vals.length : Int) + (c.wave.steps.length : Int) = 0 := by omega
                          rw [decide_eq_false (fun h => w2 (by rw [h.2.1, h.2.2]; rfl))]
                          refine go (cj rTI (cj @h1 @k6)) ?_
                          refine ifs ?_ ?_ <;> first | exact nope | intro hb
                          refine go (cj rTI (cj @h1 (cj @k1 (cj @gb (cj @w1 @w5))))) ?_
                          exact fr
                      · rw [decide_eq_false (fun h => w1 h.1)]
                        refine go (cj rTI (cj @h1 @k6)) ?_
                        refine ifs ?_ ?_ <;> first | exact nope | intro hb
                        refine go (cj rTI (cj @h1 (cj @k1 (cj @gb @w1)))) ?_
                        exact fr
                    | true =>
                      rw [hsv] at k6
                      rw [show wavR k c = waveOk c.wave from if_pos hsv]
                      refine go (cj rTI (cj @h1 @k6)) ?_
                      refine ifs ?_ ?_ <;> first | exact nope | intro hb
                      refine aw_seq ?_
                      refine aw_reg fun K hK => ?_; refine rn (cj rTI (cj @h1 (cj @k1 @gb))) ?_; refine cont_pure hwv ?_; refine rn (cj rTI (cj @h1 (cj @k1 @gb))) ?_; refine hK _ _ ?_; clear hK K
                      refine go (cj rTI @h1) ?_
                      exact fr
      · rw [decide_eq_false hnl, Bool.false_and]
        have hne : ¬ (c.nodes.length : Int) = (n : Int) := by omega
        refine go (cj rTI (cj @h1 (cj @k1 (cj @k3 (cj @gb @hne))))) ?_
        refine ifs ?_ ?_ <;> first | exact nope | intro hb
        refine go (cj rTI @h1) ?_
        exact fr
end Go.Proofs.YtfjelkjlfcafgaaGreatDoor.CardAC
end
section
/- The laws' lent rows: a row in new memory with a mark behind it, and that it stayed whole; the document's decimals. -/
namespace Go.Proofs.YtfjelkjlfcafgaaGreatDoor.CardAE
open Go Go.RowKit Go.Proofs.YtfjelkjlfcafgaaGreatDoor.Ax Go.Proofs.YtfjelkjlfcafgaaGreatDoor.Ti Go.Proofs.YtfjelkjlfcafgaaGreatDoor.NumS Go.Proofs.YtfjelkjlfcafgaaGreatDoor.NumT Go.Proofs.YtfjelkjlfcafgaaGreatDoor.CardS Go.Proofs.YtfjelkjlfcafgaaGreatDoor.CardP Go.Proofs.YtfjelkjlfcafgaaGreatDoor.CardA Go.Proofs.YtfjelkjlfcafgaaGreatDoor.CardB Go.Proofs.YtfjelkjlfcafgaaGreatDoor.CardC Go.Proofs.YtfjelkjlfcafgaaGreatDoor.CardD Go.Proofs.YtfjelkjlfcafgaaGreatDoor.CardE Go.Proofs.YtfjelkjlfcafgaaGreatDoor.CardF Go.Proofs.YtfjelkjlfcafgaaGreatDoor.CardG Go.Proofs.YtfjelkjlfcafgaaGreatDoor.CardH Go.Proofs.YtfjelkjlfcafgaaGreatDoor.CardR
set_option linter.unusedSimpArgs false
set_option linter.unusedVariables false
set_option maxRecDepth 4000
set_option maxHeartbeats 2000000
theorem rTI : type_of% (cj @ti3 (cj @ti4 (cj @ti9 (cj @ti5 (cj @ti2 (cj @ti36 (cj @Nat.zero_add (cj @tz0 (cj @tz1 (cj @tz3 (cj @Nat.mul_one @Int.toNat_natCast))))))))))) := cj @ti3 (cj @ti4 (cj @ti9 (cj @ti5 (cj @ti2 (cj @ti36 (cj @Nat.zero_add (cj @tz0 (cj @tz1 (cj @tz3 (cj @Nat.mul_one @Int.toNat_natCast))))))))))
theorem slc_le (n m sz : Nat) (c : List AV) : Le (.slc n m sz c) (.sl n (c.take (n * sz))) := fun k u h => by
  cases h with
  | slc _ _ _ cap _ a us hn hm hl h1 h2 =>
    refine .sl n cap _ a us (Nat.le_trans hn hm) (fun j hj => h1 j ?_) (fun j z hz => h2 j z ?_)
    · rw [List.length_take] at hj
      omega
    · rw [List.getElem?_take] at hz
      split at hz
      · exact hz
      · cases hz
def LT (l : List Str) : AV := .slc l.length (l.length + 1) 1 (SL (l ++ [[33]]))
theorem lt_le (l : List Str) : Le (LT l) (TV l) := by
  have h := slc_le l.length (l.length + 1) 1 (SL (l ++ [[33]]))
  have e : (SL (l ++ [[33]])).take (l.length * 1) = SL l := by
    rw [Nat.mul_one, show SL (l ++ [[33]]) = SL l ++ SL [[33]] from List.map_append, List.take_append_of_le_length (by rw [sl_len]; exact Nat.le_refl _), ← sl_len, List.take_length]
  rw [e] at h
  exact h
theorem lent_ax (l : List Str) (hl : (l.length + 1) * 16 ≤ 140737488355328) : PCall Tryz.prog 30 [TV l] (LT l) := by
  refine pcall_of fun s => ?_
  refine acall_layc ?_
  have e1 := sl_len l
  have e2 := sl_take l
  have e3 := sl_one l
  unfold TV
  refine acall_of Tryz.func30 rfl rfl (by simp [Tryz.ntmps30]) ?_; rw [Tryz.ntmps30, Tryz.results30]
  have e0 : ([] : List AV) ++ SL l = SL l := rfl
  refine go (cj rTI (cj @e0 (cj @e1 (cj @e2 @e3)))) ?_
  refine ⟨s.nx + 1 + 1 + 1, _, fun _ => false, l.length, l.length + 1, 1, if_pos rfl, by rw [Nat.sub_zero], ?_, ?_, by omega, ?_, tv_idf (l ++ [[33]]), fun i hi => ?_⟩
  · rw [List.length_append, e1, Nat.mul_one]
    rfl
  · rw [List.length_append]
    exact Nat.succ_pos _
  · unfold LT
    rw [show SL (l ++ [[33]]) = SL l ++ SL [[33]] from List.map_append]
    rfl
  · rw [if_neg (by omega), if_neg Bool.false_ne_true, if_neg (by omega), if_neg (by omega), if_neg (by omega), if_neg (by omega)]
theorem lt_args (l : List Str) (j : Nat) (x y : AV) (hx : [LT l, TV l][j]? = some x) (hy : [TV l, TV l][j]? = some y) : Le x y := by
  match j with
  | 0 => simp at hx hy; subst hx hy; exact lt_le l
  | 1 => simp at hx hy; subst hx hy; exact Le.refl _
  | j + 2 => simp at hx
theorem acall_args {P : Program} {f : FuncId} {zs zs' : List AV} {s : St} {R : AV → St → Prop} (hl : zs'.length = zs.length) (hz : ∀ (j : Nat) (x y : AV), zs[j]? = some x → zs'[j]? = some y → Le x y) (h : ACall P f zs' s R) : ACall P f zs s R :=
  ⟨h.1, fun w0 k w vs hs hv => h.2 w0 k w vs hs ⟨hv.1.trans hl.symm, fun j z u hz' hu => by
    have hj : j < zs.length := by rw [← hl]; exact (List.getElem?_eq_some_iff.1 hz').1
    exact hz j _ z (List.getElem?_eq_getElem hj) hz' k u (hv.2 j _ u (List.getElem?_eq_getElem hj) hu)⟩⟩
theorem whole_ax (l : List Str) (hb' : BL l) (hl : l.length ≤ 281474976710656) : PCall Tryz.prog 34 [LT l, TV l] (.v (.bool true)) := by
  refine pcall_of fun s => ?_
  have p1 := texts_ax l l hb' hb' (by omega) (by omega)
  rw [decide_eq_true rfl] at p1
  have h1 := lt_args l
  have f1 : ((SL (l ++ [[33]])).drop l.length).head? = some (.v (.string (ByteArray.mk #[33]))) := by
    rw [show SL (l ++ [[33]]) = SL l ++ SL [[33]] from List.map_append, List.drop_append_of_le_length (by rw [sl_len]; exact Nat.le_refl _), ← sl_len, List.drop_length]
    rfl
  have f2 : (SL (l ++ [[33]])).length = l.length + 1 := by rw [sl_len, List.length_append]; rfl
  have f3 : (SL (l ++ [[33]])).take (l.length + 1) = SL (l ++ [[33]]) := by rw [← f2, List.take_length]
  have f4 : (SL (l ++ [[33]])).take (l.length + 1 - 0) = SL (l ++ [[33]]) := f3
  unfold LT TV at *
  refine acall_of Tryz.func34 rfl rfl (by simp [Tryz.ntmps34]) ?_; rw [Tryz.ntmps34, Tryz.results34]
  refine go rTI ?_
  refine aw_reg fun K hK => ?_
  refine rn (cj rTI (cj @f1 (cj @f2 @f3))) ?_
  refine acall_args (zs' := [.sl l.length (SL l), .sl l.length (SL l)]) rfl h1 ?_
  refine cont_pure p1 ?_
  refine rn (cj rTI (cj @f1 (cj @f2 (cj @f3 @f4)))) ?_
  refine hK _ _ ?_
  clear hK K
  exact go0 rTI
end Go.Proofs.YtfjelkjlfcafgaaGreatDoor.CardAE
end
section
/- The document on cards: Write. (Made by gen_cardaf.py.) -/
namespace Go.Proofs.YtfjelkjlfcafgaaGreatDoor.CardAF
open Go Go.RowKit Go.Proofs.YtfjelkjlfcafgaaGreatDoor.Ax Go.Proofs.YtfjelkjlfcafgaaGreatDoor.Ti Go.Proofs.YtfjelkjlfcafgaaGreatDoor.NumS Go.Proofs.YtfjelkjlfcafgaaGreatDoor.NumT Go.Proofs.YtfjelkjlfcafgaaGreatDoor.CardS Go.Proofs.YtfjelkjlfcafgaaGreatDoor.CardP Go.Proofs.YtfjelkjlfcafgaaGreatDoor.CardA Go.Proofs.YtfjelkjlfcafgaaGreatDoor.CardB Go.Proofs.YtfjelkjlfcafgaaGreatDoor.CardC Go.Proofs.YtfjelkjlfcafgaaGreatDoor.CardD Go.Proofs.YtfjelkjlfcafgaaGreatDoor.CardE Go.Proofs.YtfjelkjlfcafgaaGreatDoor.CardF Go.Proofs.YtfjelkjlfcafgaaGreatDoor.CardG Go.Proofs.YtfjelkjlfcafgaaGreatDoor.CardH Go.Proofs.YtfjelkjlfcafgaaGreatDoor.CardI Go.Proofs.YtfjelkjlfcafgaaGreatDoor.CardJ Go.Proofs.YtfjelkjlfcafgaaGreatDoor.CardK Go.Proofs.YtfjelkjlfcafgaaGreatDoor.CardY Go.Proofs.YtfjelkjlfcafgaaGreatDoor.CardAB Go.Proofs.YtfjelkjlfcafgaaGreatDoor.CardAC Go.Proofs.YtfjelkjlfcafgaaGreatDoor.CardAE
open Go.Proofs.YtfjelkjlfcafgaaGreatDoor.NumA (NM)
set_option linter.unusedSimpArgs false
set_option linter.unusedVariables false
set_option maxRecDepth 4000
set_option maxHeartbeats 4000000
theorem rTI : type_of% (cj @ti3 (cj @ti4 (cj @ti9 (cj @ti5 (cj @ti2 (cj @ti36 (cj @ti63 (cj @ti62 (cj @ti24 (cj @ti65 (cj @ti67 (cj @Nat.zero_add (cj @tz0 (cj @tz1 (cj @tz3 (cj @Nat.mul_one @Int.toNat_natCast)))))))))))))))) := cj @ti3 (cj @ti4 (cj @ti9 (cj @ti5 (cj @ti2 (cj @ti36 (cj @ti63 (cj @ti62 (cj @ti24 (cj @ti65 (cj @ti67 (cj @Nat.zero_add (cj @tz0 (cj @tz1 (cj @tz3 (cj @Nat.mul_one @Int.toNat_natCast)))))))))))))))
structure L2 (s s' : St) (c d : List AV) (b id : Nat) (L : List Str) : Prop where
  gb : s'.get s.nx = some c
  gw : s'.get b = some d
  l : s'.get id = some (SL L)
  o : s.nx < b ∧ s.nx < id ∧ b < s'.nx ∧ id < s'.nx ∧ b ≠ id
  fr : ∀ k, k < s.nx → s'.get k = s.get k
theorem L2.app {s s' : St} {c d : List AV} {b id : Nat} {L : List Str} (h : L2 s s' c d b id L) (s1 : St) (hn : s'.nx ≤ s1.nx) (hg : ∀ k, k < s'.nx → s1.get k = s'.get k) (ws : List Str) :
    L2 s ((s1.kill id).push (SL L ++ SL ws)) c d b s1.nx (L ++ ws) := by
  obtain ⟨o1, o2, o3, o4, o5⟩ := h.o
  have e : ∀ k, k < s'.nx → k ≠ id → ((s1.kill id).push (SL L ++ SL ws)).get k = s'.get k := fun k q1 q2 => by
    rw [St.push_ne (s1.kill id) _ _ (show k ≠ s1.nx by omega), St.kill_ne _ _ _ q2, hg _ q1]
  refine ⟨(e _ (by omega) (by omega)).trans h.gb, (e _ (by omega) (by omega)).trans h.gw, ?_, ⟨o1, by omega, by show b < s1.nx + 1; omega, Nat.lt_succ_self _, by omega⟩, fun k hk => (e _ (by omega) (by omega)).trans (h.fr k hk)⟩
  rw [show SL (L ++ ws) = SL L ++ SL ws from List.map_append]
  exact St.push_same (s1.kill id) _
theorem decimal_ax (z : Int) (h0 : 0 ≤ z) (h1 : z ≤ 1000000000) : PCall Tryz.prog 87 [iv z] (SV (decS z)) := by
  refine pcall_of fun s => ?_
  have p1 := RefD.small_ax z (by omega) (by omega)
  have p2 := NumG.digits_dec z (by have := RefK.lz_small z (by omega) (by omega); omega)
  unfold iv SV
  refine acall_of Tryz.func87 rfl rfl (by simp [Tryz.ntmps87]) ?_; rw [Tryz.ntmps87, Tryz.results87]
  refine go rTI ?_
  refine aw_reg fun K hK => ?_; refine rn rTI ?_; refine cont_pure p1 ?_; refine rn rTI ?_; refine cont_pure p2 ?_; refine rn rTI ?_; refine hK _ _ ?_; clear hK K
  exact go0 rTI
theorem tp_SL (id : Nat) (L : List Str) : frz id (SL L) (.tp [.own id 0 L.length 1, .v (.int .i64 0)]) = PA (L, 0) := by
  show AV.tp [frz id _ (AV.own id 0 _ 1), AV.v (.int .i64 0)] = _
  rw [frz_SL]
  rfl
theorem writeR_ax (c : Crd) (hc : CW c) (hv : c.wave.vals.length ≤ 281474976710656) (hs : c.wave.steps.length ≤ 281474976710656) : PCall Tryz.prog 32 [CA c] (PA (writeC c)) := by
  have hr := right_ax c hc hv hs
  rw [write_right]
  cases hok : rightC c with
  | false =>
    rw [hok] at hr
    rw [if_neg Bool.false_ne_true]
    refine pcall_le fun s => ?_
    unfold CA SV TV NV IV iv at *
    refine acall_of Tryz.func32 rfl rfl (by simp [Tryz.ntmps32]) ?_; rw [Tryz.ntmps32, Tryz.results32]
    refine go rTI ?_
    refine aw_reg fun K hK => ?_; refine rn rTI ?_; refine cont_pure hr ?_; refine rn rTI ?_; refine hK _ _ ?_; clear hK K
    refine ifs ?_ ?_ <;> first | exact nope | intro hb
    refine go rTI ?_
    exact ⟨pa_err 70, pa_idf _, fun i hi => if_neg (by omega)⟩
  | true =>
    rw [hok] at hr
    rw [if_pos rfl]
    obtain ⟨hdv, hn8, hv16, hs16⟩ := nodes_le c hok
    obtain ⟨hnm, hmem⟩ := kinds_of c.name hdv
    have hp := name_pos c.name hnm
    have lS := bs_size c.name
    have hg := bs_get c.name hc.n.1 0
    have hrf : rightF (c.name.getD 0 0) (if c.name.getD 0 0 = 120 then (c.nodes.length, true, false) else shapeK (c.name.getD 0 0)) c = true := by
      have := hok
      unfold rightC at this
      rw [hdv, Bool.true_and] at this
      exact this
    rw [rightF_eq] at hrf
    simp only [Bool.and_eq_true] at hrf
    obtain ⟨_, _, _, _, hval, hwav⟩ := hrf
    have hww := wordsC_eq c
    refine pcall_own (pa_idf _) fun s => ?_
    unfold CA SV TV NV IV iv at *
    refine acall_of Tryz.func32 rfl rfl (by simp [Tryz.ntmps32]) ?_; rw [Tryz.ntmps32, Tryz.results32]
    refine go rTI ?_
    refine aw_reg fun K hK => ?_; refine rn rTI ?_; refine cont_pure hr ?_; refine rn rTI ?_; refine hK _ _ ?_; clear hK K
    refine ifs ?_ ?_ <;> first | exact nope | intro hb
    have e1 := sl_len c.nodes
    have e2 := sl_take c.nodes
    have e3 := sl_one c.nodes
    refine aw_skip ?_
    rw [then_normal]
    refine aw_seq ?_
    refine aw_reg fun K hK => ?_; refine rn (cj rTI (cj @e1 (cj @e2 @e3))) ?_; refine hK _ _ ?_; clear hK K
    rw [then_normal]
    refine aw_seq ?_
    refine aw_reg fun K hK => ?_; refine rn rTI ?_; refine hK _ _ ?_; clear hK K
    rw [then_normal]
    have hL : L2 s (((((((s.push [.v (.string (bs c.name)), .sl c.nodes.length (SL c.nodes), .v (.string (bs c.ref)), .v (.int .i64 c.value.1), .v (.int .i64 c.value.2), .v (.int .i64 c.wave.kind), .sl c.wave.vals.length (NC c.wave.vals), .sl c.wave.steps.length (IL c.wave.steps)]).push [.v (.string (bs c.name))]).kill (s.nx + 1)).push ([.v (.string (bs c.name))] ++ SL c.nodes)).push [.v (.int .i64 0), .v (.slice none 0 0), .v (.slice none 0 0)])).set (s.nx + 3) [.v (.int .i64 c.wave.kind), .sl c.wave.vals.length (NC c.wave.vals), .sl c.wave.steps.length (IL c.wave.steps)]) [.v (.string (bs c.name)), .sl c.nodes.length (SL c.nodes), .v (.string (bs c.ref)), .v (.int .i64 c.value.1), .v (.int .i64 c.value.2), .v (.int .i64 c.wave.kind), .sl c.wave.vals.length (NC c.wave.vals), .sl c.wave.steps.length (IL c.wave.steps)] [.v (.int .i64 c.wave.kind), .sl c.wave.vals.length (NC c.wave.vals), .sl c.wave.steps.length (IL c.wave.steps)] (s.nx + 3) (s.nx + 2) (c.name :: c.nodes) := by
      have q : ∀ k, k ≠ s.nx + 3 → (((((((s.push [.v (.string (bs c.name)), .sl c.nodes.length (SL c.nodes), .v (.string (bs c.ref)), .v (.int .i64 c.value.1), .v (.int .i64 c.value.2), .v (.int .i64 c.wave.kind), .sl c.wave.vals.length (NC c.wave.vals), .sl c.wave.steps.length (IL c.wave.steps)]).push [.v (.string (bs c.name))]).kill (s.nx + 1)).push ([.v (.string (bs c.name))] ++ SL c.nodes)).push [.v (.int .i64 0), .v (.slice none 0 0), .v (.slice none 0 0)])).set (s.nx + 3) [.v (.int .i64 c.wave.kind), .sl c.wave.vals.length (NC c.wave.vals), .sl c.wave.steps.length (IL c.wave.steps)]).get k = ((((s.push [.v (.string (bs c.name)), .sl c.nodes.length (SL c.nodes), .v (.string (bs c.ref)), .v (.int .i64 c.value.1), .v (.int .i64 c.value.2), .v (.int .i64 c.wave.kind), .sl c.wave.vals.length (NC c.wave.vals), .sl c.wave.steps.length (IL c.wave.steps)]).push [.v (.string (bs c.name))]).kill (s.nx + 1)).push ([.v (.string (bs c.name))] ++ SL c.nodes)).get k := fun k hk => by
        rw [St.set_ne _ _ _ _ hk, St.push_ne ((((s.push _).push _).kill _).push _) _ _ (show k ≠ s.nx + 3 from hk)]
      refine ⟨?_, St.set_same _ _ _, ?_, ⟨by omega, by omega, by show s.nx + 3 < s.nx + 4; omega, by show s.nx + 2 < s.nx + 4; omega, by omega⟩, fun k hk => ?_⟩
      · rw [q _ (by omega), St.push_ne (((s.push _).push _).kill _) _ _ (show s.nx ≠ s.nx + 2 by omega), St.kill_ne _ _ _ (by omega), St.push_ne (s.push _) _ _ (show s.nx ≠ s.nx + 1 by omega)]
        exact St.push_same _ _
      · rw [q _ (by omega)]
        exact St.push_same (((s.push _).push _).kill _) _
      · rw [q _ (by omega), St.push_ne (((s.push _).push _).kill _) _ _ (show k ≠ s.nx + 2 by omega), St.kill_ne _ _ _ (by omega), St.push_ne (s.push _) _ _ (show k ≠ s.nx + 1 by omega), St.push_ne s _ _ (by omega)]
    refine CardT.aw_gen (fun x => L2 s x [.v (.string (bs c.name)), .sl c.nodes.length (SL c.nodes), .v (.string (bs c.ref)), .v (.int .i64 c.value.1), .v (.int .i64 c.value.2), .v (.int .i64 c.wave.kind), .sl c.wave.vals.length (NC c.wave.vals), .sl c.wave.steps.length (IL c.wave.steps)] [.v (.int .i64 c.wave.kind), .sl c.wave.vals.length (NC c.wave.vals), .sl c.wave.steps.length (IL c.wave.steps)] (s.nx + 3) (s.nx + 2) (c.name :: c.nodes)) hL fun s1 hL => ?_
    have hln : (c.name :: c.nodes).length = 1 + c.nodes.length := by rw [List.length_cons]; omega
    have hl0 : (c.name :: c.nodes).length ≤ 9 := by omega
    have gb := hL.gb
    have gw := hL.gw
    have gl := hL.l
    have ll := sl_len (c.name :: c.nodes)
    obtain ⟨o1, o2, o3, o4, o5⟩ := hL.o
    generalize hk0 : c.name.getD 0 0 = k at *
    generalize hL0 : c.name :: c.nodes = L0 at *
    have hcase : k = 114 ∨ k = 99 ∨ k = 108 ∨ k = 101 ∨ k = 103 ∨ k = 116 ∨ k = 102 ∨ k = 104 ∨ k = 100 ∨ k = 115 ∨ k = 120 ∨ k = 118 ∨ k = 105 := by
      have : k ∈ kinds := hmem
      simp [kinds] at this
      omega
    refine aw_seq ?_
    refine aw_way (fun e' s' => e'.n = 145 ∧ e'.m 4 = .own (s.nx + 2) 0 L0.length 1 ∧ e'.m 5 = .ptr (s.nx + 3) 0 ∧ srcC k = true ∧ s' = s1) ?_ ?_
    · refine aw_seq ?_
      refine aw_reg fun K hK => ?_; refine rn (cj rTI (cj @gb (cj @lS @hg))) ?_; refine hK _ _ ?_; clear hK K
      rw [then_normal]
      rcases hcase with hk | hk | hk | hk | hk | hk | hk | hk | hk | hk | hk | hk | hk
      · have hki : (k : Int) = 114 := by omega
        have hsh : shapeK k = (2, false, true) := by rw [hk]; rfl
        have hva : valid c.value = true := by
          have h := hval
          rw [hk] at h
          exact h
        have hp2 := rtext_ax c.value hva
        have hW : wordsC c = L0 ++ [textN c.value] := by
          rw [hww, hk]
          show (L0 ++ []) ++ [textN c.value] ++ [] = _
          rw [List.append_nil, List.append_nil]
        have hA := hL.app (s1.push [SV (textN c.value)]) (Nat.le_succ _) (fun k hk => St.push_ne s1 _ _ (by omega)) [textN c.value]
        have hA2 : (L0 ++ [textN c.value]).length = L0.length + 1 := by rw [List.length_append]; rfl
        rw [hW]
        unfold NM SV at hp2
        unfold SV at hA
        refine go (cj rTI @hki) ?_
        refine ifs ?_ ?_ <;> first | exact nope | intro hb
        refine go (cj rTI @hki) ?_
        refine ifs ?_ ?_ <;> first | exact nope | intro hb
        refine aw_seq ?_
        refine aw_reg fun K hK => ?_; refine rn (cj rTI (cj @gb (cj @gl (cj @ll @hln)))) ?_; refine cont_pure hp2 ?_; refine rn (cj rTI (cj @gb (cj @gl (cj @ll @hln)))) ?_; refine hK _ _ ?_; clear hK K
        refine go rTI ?_
        refine .inr ⟨s1.nx + 1, _, by omega, hA.l, ?_, hA.fr⟩
        rw [← tp_SL (s1.nx + 1), hA2, hln]
      · have hki : (k : Int) = 99 := by omega
        have hsh : shapeK k = (2, false, true) := by rw [hk]; rfl
        have hva : valid c.value = true := by
          have h := hval
          rw [hk] at h
          exact h
        have hp2 := rtext_ax c.value hva
        have hW : wordsC c = L0 ++ [textN c.value] := by
          rw [hww, hk]
          show (L0 ++ []) ++ [textN c.value] ++ [] = _
          rw [List.append_nil, List.append_nil]
        have hA := hL.app (s1.push [SV (textN c.value)]) (Nat.le_succ _) (fun k hk => St.push_ne s1 _ _ (by omega)) [textN c.value]
        have hA2 : (L0 ++ [textN c.value]).length = L0.length + 1 := by rw [List.length_append]; rfl
        rw [hW]
        unfold NM SV at hp2
        unfold SV at hA
        refine go (cj rTI @hki) ?_
        refine ifs ?_ ?_ <;> first | exact nope | intro hb
        refine go (cj rTI @hki) ?_
        refine ifs ?_ ?_ <;> first | exact nope | intro hb
        refine go (cj rTI @hki) ?_
        refine ifs ?_ ?_ <;> first | exact nope | intro hb
        refine aw_seq ?_
        refine aw_reg fun K hK => ?_; refine rn (cj rTI (cj @gb (cj @gl (cj @ll @hln)))) ?_; refine cont_pure hp2 ?_; refine rn (cj rTI (cj @gb (cj @gl (cj @ll @hln)))) ?_; refine hK _ _ ?_; clear hK K
        refine go rTI ?_
        refine .inr ⟨s1.nx + 1, _, by omega, hA.l, ?_, hA.fr⟩
        rw [← tp_SL (s1.nx + 1), hA2, hln]
      · have hki : (k : Int) = 108 := by omega
        have hsh : shapeK k = (2, false, true) := by rw [hk]; rfl
        have hva : valid c.value = true := by
          have h := hval
          rw [hk] at h
          exact h
        have hp2 := rtext_ax c.value hva
        have hW : wordsC c = L0 ++ [textN c.value] := by
          rw [hww, hk]
          show (L0 ++ []) ++ [textN c.value] ++ [] = _
          rw [List.append_nil, List.append_nil]
        have hA := hL.app (s1.push [SV (textN c.value)]) (Nat.le_succ _) (fun k hk => St.push_ne s1 _ _ (by omega)) [textN c.value]
        have hA2 : (L0 ++ [textN c.value]).length = L0.length + 1 := by rw [List.length_append]; rfl
        rw [hW]
        unfold NM SV at hp2
        unfold SV at hA
        refine go (cj rTI @hki) ?_
        refine ifs ?_ ?_ <;> first | exact nope | intro hb
        refine go (cj rTI @hki) ?_
        refine ifs ?_ ?_ <;> first | exact nope | intro hb
        refine go (cj rTI @hki) ?_
        refine ifs ?_ ?_ <;> first | exact nope | intro hb
        refine go (cj rTI @hki) ?_
        refine ifs ?_ ?_ <;> first | exact nope | intro hb
        refine aw_seq ?_
        refine aw_reg fun K hK => ?_; refine rn (cj rTI (cj @gb (cj @gl (cj @ll @hln)))) ?_; refine cont_pure hp2 ?_; refine rn (cj rTI (cj @gb (cj @gl (cj @ll @hln)))) ?_; refine hK _ _ ?_; clear hK K
        refine go rTI ?_
        refine .inr ⟨s1.nx + 1, _, by omega, hA.l, ?_, hA.fr⟩
        rw [← tp_SL (s1.nx + 1), hA2, hln]
      · have hki : (k : Int) = 101 := by omega
        have hsh : shapeK k = (4, false, true) := by rw [hk]; rfl
        have hva : valid c.value = true := by
          have h := hval
          rw [hk] at h
          exact h
        have hp2 := rtext_ax c.value hva
        have hW : wordsC c = L0 ++ [textN c.value] := by
          rw [hww, hk]
          show (L0 ++ []) ++ [textN c.value] ++ [] = _
          rw [List.append_nil, List.append_nil]
        have hA := hL.app (s1.push [SV (textN c.value)]) (Nat.le_succ _) (fun k hk => St.push_ne s1 _ _ (by omega)) [textN c.value]
        have hA2 : (L0 ++ [textN c.value]).length = L0.length + 1 := by rw [List.length_append]; rfl
        rw [hW]
        unfold NM SV at hp2
        unfold SV at hA
        refine go (cj rTI @hki) ?_
        refine ifs ?_ ?_ <;> first | exact nope | intro hb
        refine go (cj rTI @hki) ?_
        refine ifs ?_ ?_ <;> first | exact nope | intro hb
        refine go (cj rTI @hki) ?_
        refine ifs ?_ ?_ <;> first | exact nope | intro hb
        refine go (cj rTI @hki) ?_
        refine ifs ?_ ?_ <;> first | exact nope | intro hb
        refine go (cj rTI @hki) ?_
        refine ifs ?_ ?_ <;> first | exact nope | intro hb
        refine aw_seq ?_
        refine aw_reg fun K hK => ?_; refine rn (cj rTI (cj @gb (cj @gl (cj @ll @hln)))) ?_; refine cont_pure hp2 ?_; refine rn (cj rTI (cj @gb (cj @gl (cj @ll @hln)))) ?_; refine hK _ _ ?_; clear hK K
        refine go rTI ?_
        refine .inr ⟨s1.nx + 1, _, by omega, hA.l, ?_, hA.fr⟩
        rw [← tp_SL (s1.nx + 1), hA2, hln]
      · have hki : (k : Int) = 103 := by omega
        have hsh : shapeK k = (4, false, true) := by rw [hk]; rfl
        have hva : valid c.value = true := by
          have h := hval
          rw [hk] at h
          exact h
        have hp2 := rtext_ax c.value hva
        have hW : wordsC c = L0 ++ [textN c.value] := by
          rw [hww, hk]
          show (L0 ++ []) ++ [textN c.value] ++ [] = _
          rw [List.append_nil, List.append_nil]
        have hA := hL.app (s1.push [SV (textN c.value)]) (Nat.le_succ _) (fun k hk => St.push_ne s1 _ _ (by omega)) [textN c.value]
        have hA2 : (L0 ++ [textN c.value]).length = L0.length + 1 := by rw [List.length_append]; rfl
        rw [hW]
        unfold NM SV at hp2
        unfold SV at hA
        refine go (cj rTI @hki) ?_
        refine ifs ?_ ?_ <;> first | exact nope | intro hb
        refine go (cj rTI @hki) ?_
        refine ifs ?_ ?_ <;> first | exact nope | intro hb
        refine go (cj rTI @hki) ?_
        refine ifs ?_ ?_ <;> first | exact nope | intro hb
        refine go (cj rTI @hki) ?_
        refine ifs ?_ ?_ <;> first | exact nope | intro hb
        refine go (cj rTI @hki) ?_
        refine ifs ?_ ?_ <;> first | exact nope | intro hb
        refine go (cj rTI @hki) ?_
        refine ifs ?_ ?_ <;> first | exact nope | intro hb
        refine aw_seq ?_
        refine aw_reg fun K hK => ?_; refine rn (cj rTI (cj @gb (cj @gl (cj @ll @hln)))) ?_; refine cont_pure hp2 ?_; refine rn (cj rTI (cj @gb (cj @gl (cj @ll @hln)))) ?_; refine hK _ _ ?_; clear hK K
        refine go rTI ?_
        refine .inr ⟨s1.nx + 1, _, by omega, hA.l, ?_, hA.fr⟩
        rw [← tp_SL (s1.nx + 1), hA2, hln]
      · have hki : (k : Int) = 116 := by omega
        have hsh : shapeK k = (4, false, true) := by rw [hk]; rfl
        have hva : valid c.value = true := by
          have h := hval
          rw [hk] at h
          exact h
        have hp2 := rtext_ax c.value hva
        have hW : wordsC c = L0 ++ [textN c.value] := by
          rw [hww, hk]
          show (L0 ++ []) ++ [textN c.value] ++ [] = _
          rw [List.append_nil, List.append_nil]
        have hA := hL.app (s1.push [SV (textN c.value)]) (Nat.le_succ _) (fun k hk => St.push_ne s1 _ _ (by omega)) [textN c.value]
        have hA2 : (L0 ++ [textN c.value]).length = L0.length + 1 := by rw [List.length_append]; rfl
        rw [hW]
        unfold NM SV at hp2
        unfold SV at hA
        refine go (cj rTI @hki) ?_
        refine ifs ?_ ?_ <;> first | exact nope | intro hb
        refine go (cj rTI @hki) ?_
        refine ifs ?_ ?_ <;> first | exact nope | intro hb
        refine go (cj rTI @hki) ?_
        refine ifs ?_ ?_ <;> first | exact nope | intro hb
        refine go (cj rTI @hki) ?_
        refine ifs ?_ ?_ <;> first | exact nope | intro hb
        refine go (cj rTI @hki) ?_
        refine ifs ?_ ?_ <;> first | exact nope | intro hb
        refine go (cj rTI @hki) ?_
        refine ifs ?_ ?_ <;> first | exact nope | intro hb
        refine aw_seq ?_
        refine aw_reg fun K hK => ?_; refine rn (cj rTI (cj @gb (cj @gl (cj @ll @hln)))) ?_; refine cont_pure hp2 ?_; refine rn (cj rTI (cj @gb (cj @gl (cj @ll @hln)))) ?_; refine hK _ _ ?_; clear hK K
        refine go rTI ?_
        refine .inr ⟨s1.nx + 1, _, by omega, hA.l, ?_, hA.fr⟩
        rw [← tp_SL (s1.nx + 1), hA2, hln]
      · have hki : (k : Int) = 102 := by omega
        have hsh : shapeK k = (2, true, true) := by rw [hk]; rfl
        have hva : valid c.value = true := by
          have h := hval
          rw [hk] at h
          exact h
        have hp2 := rtext_ax c.value hva
        have hW : wordsC c = L0 ++ [c.ref, textN c.value] := by
          rw [hww, hk]
          show (L0 ++ [c.ref]) ++ [textN c.value] ++ [] = _
          simp
        have hA := hL.app (s1.push [SV c.ref, SV (textN c.value)]) (Nat.le_succ _) (fun k hk => St.push_ne s1 _ _ (by omega)) [c.ref, textN c.value]
        have hA2 : (L0 ++ [c.ref, textN c.value]).length = L0.length + 2 := by rw [List.length_append]; rfl
        rw [hW]
        unfold NM SV at hp2
        unfold SV at hA
        refine go (cj rTI @hki) ?_
        refine ifs ?_ ?_ <;> first | exact nope | intro hb
        refine go (cj rTI @hki) ?_
        refine ifs ?_ ?_ <;> first | exact nope | intro hb
        refine go (cj rTI @hki) ?_
        refine ifs ?_ ?_ <;> first | exact nope | intro hb
        refine go (cj rTI @hki) ?_
        refine ifs ?_ ?_ <;> first | exact nope | intro hb
        refine go (cj rTI @hki) ?_
        refine ifs ?_ ?_ <;> first | exact nope | intro hb
        refine go (cj rTI @hki) ?_
        refine ifs ?_ ?_ <;> first | exact nope | intro hb
        refine go (cj rTI @hki) ?_
        refine ifs ?_ ?_ <;> first | exact nope | intro hb
        refine go (cj rTI @hki) ?_
        refine ifs ?_ ?_ <;> first | exact nope | intro hb
        refine aw_seq ?_
        refine aw_drw (.take 0 (.take 1 (.take 2 (.take 3 (.take 4 (.one 5 (.one 6 (.one 7 (.take 8 (.take 9 (.done))))))))))) [s.nx] (by kernel_rfl) (by kernel_rfl) fun K hK => ?_; refine dr (cj rTI (cj @gb (cj @gl (cj @ll @hln)))) ?_; refine cont_pure hp2 ?_; refine dr (cj rTI (cj @gb (cj @gl (cj @ll @hln)))) ?_; refine hK _ _ ?_; clear hK K
        refine go rTI ?_
        refine .inr ⟨s1.nx + 1, _, by omega, hA.l, ?_, hA.fr⟩
        rw [← tp_SL (s1.nx + 1), hA2, hln]
      · have hki : (k : Int) = 104 := by omega
        have hsh : shapeK k = (2, true, true) := by rw [hk]; rfl
        have hva : valid c.value = true := by
          have h := hval
          rw [hk] at h
          exact h
        have hp2 := rtext_ax c.value hva
        have hW : wordsC c = L0 ++ [c.ref, textN c.value] := by
          rw [hww, hk]
          show (L0 ++ [c.ref]) ++ [textN c.value] ++ [] = _
          simp
        have hA := hL.app (s1.push [SV c.ref, SV (textN c.value)]) (Nat.le_succ _) (fun k hk => St.push_ne s1 _ _ (by omega)) [c.ref, textN c.value]
        have hA2 : (L0 ++ [c.ref, textN c.value]).length = L0.length + 2 := by rw [List.length_append]; rfl
        rw [hW]
        unfold NM SV at hp2
        unfold SV at hA
        refine go (cj rTI @hki) ?_
        refine ifs ?_ ?_ <;> first | exact nope | intro hb
        refine go (cj rTI @hki) ?_
        refine ifs ?_ ?_ <;> first | exact nope | intro hb
        refine go (cj rTI @hki) ?_
        refine ifs ?_ ?_ <;> first | exact nope | intro hb
        refine go (cj rTI @hki) ?_
        refine ifs ?_ ?_ <;> first | exact nope | intro hb
        refine go (cj rTI @hki) ?_
        refine ifs ?_ ?_ <;> first | exact nope | intro hb
        refine go (cj rTI @hki) ?_
        refine ifs ?_ ?_ <;> first | exact nope | intro hb
        refine go (cj rTI @hki) ?_
        refine ifs ?_ ?_ <;> first | exact nope | intro hb
        refine go (cj rTI @hki) ?_
        refine ifs ?_ ?_ <;> first | exact nope | intro hb
        refine aw_seq ?_
        refine aw_drw (.take 0 (.take 1 (.take 2 (.take 3 (.take 4 (.one 5 (.one 6 (.one 7 (.take 8 (.take 9 (.done))))))))))) [s.nx] (by kernel_rfl) (by kernel_rfl) fun K hK => ?_; refine dr (cj rTI (cj @gb (cj @gl (cj @ll @hln)))) ?_; refine cont_pure hp2 ?_; refine dr (cj rTI (cj @gb (cj @gl (cj @ll @hln)))) ?_; refine hK _ _ ?_; clear hK K
        refine go rTI ?_
        refine .inr ⟨s1.nx + 1, _, by omega, hA.l, ?_, hA.fr⟩
        rw [← tp_SL (s1.nx + 1), hA2, hln]
      · have hki : (k : Int) = 100 := by omega
        have hsh : shapeK k = (2, true, false) := by rw [hk]; rfl
        have hW : wordsC c = L0 ++ [c.ref] := by
          rw [hww, hk]
          show (L0 ++ [c.ref]) ++ [] ++ [] = _
          simp
        have hA := hL.app (s1.push [SV c.ref]) (Nat.le_succ _) (fun k hk => St.push_ne s1 _ _ (by omega)) [c.ref]
        have hA2 : (L0 ++ [c.ref]).length = L0.length + 1 := by rw [List.length_append]; rfl
        rw [hW]
        unfold SV at hA
        refine go (cj rTI @hki) ?_
        refine ifs ?_ ?_ <;> first | exact nope | intro hb
        refine go (cj rTI @hki) ?_
        refine ifs ?_ ?_ <;> first | exact nope | intro hb
        refine go (cj rTI @hki) ?_
        refine ifs ?_ ?_ <;> first | exact nope | intro hb
        refine go (cj rTI @hki) ?_
        refine ifs ?_ ?_ <;> first | exact nope | intro hb
        refine go (cj rTI @hki) ?_
        refine ifs ?_ ?_ <;> first | exact nope | intro hb
        refine go (cj rTI @hki) ?_
        refine ifs ?_ ?_ <;> first | exact nope | intro hb
        refine go (cj rTI @hki) ?_
        refine ifs ?_ ?_ <;> first | exact nope | intro hb
        refine go (cj rTI @hki) ?_
        refine ifs ?_ ?_ <;> first | exact nope | intro hb
        refine go (cj rTI @hki) ?_
        refine ifs ?_ ?_ <;> first | exact nope | intro hb
        refine go (cj rTI @hki) ?_
        refine ifs ?_ ?_ <;> first | exact nope | intro hb
        refine go (cj rTI (cj @gb (cj @gl (cj @ll @hln)))) ?_
        refine .inr ⟨s1.nx + 1, _, by omega, hA.l, ?_, hA.fr⟩
        rw [← tp_SL (s1.nx + 1), hA2, hln]
      · have hki : (k : Int) = 115 := by omega
        have hsh : shapeK k = (4, true, false) := by rw [hk]; rfl
        have hW : wordsC c = L0 ++ [c.ref] := by
          rw [hww, hk]
          show (L0 ++ [c.ref]) ++ [] ++ [] = _
          simp
        have hA := hL.app (s1.push [SV c.ref]) (Nat.le_succ _) (fun k hk => St.push_ne s1 _ _ (by omega)) [c.ref]
        have hA2 : (L0 ++ [c.ref]).length = L0.length + 1 := by rw [List.length_append]; rfl
        rw [hW]
        unfold SV at hA
        refine go (cj rTI @hki) ?_
        refine ifs ?_ ?_ <;> first | exact nope | intro hb
        refine go (cj rTI @hki) ?_
        refine ifs ?_ ?_ <;> first | exact nope | intro hb
        refine go (cj rTI @hki) ?_
        refine ifs ?_ ?_ <;> first | exact nope | intro hb
        refine go (cj rTI @hki) ?_
        refine ifs ?_ ?_ <;> first | exact nope | intro hb
        refine go (cj rTI @hki) ?_
        refine ifs ?_ ?_ <;> first | exact nope | intro hb
        refine go (cj rTI @hki) ?_
        refine ifs ?_ ?_ <;> first | exact nope | intro hb
        refine go (cj rTI @hki) ?_
        refine ifs ?_ ?_ <;> first | exact nope | intro hb
        refine go (cj rTI @hki) ?_
        refine ifs ?_ ?_ <;> first | exact nope | intro hb
        refine go (cj rTI @hki) ?_
        refine ifs ?_ ?_ <;> first | exact nope | intro hb
        refine go (cj rTI @hki) ?_
        refine ifs ?_ ?_ <;> first | exact nope | intro hb
        refine go (cj rTI @hki) ?_
        refine ifs ?_ ?_ <;> first | exact nope | intro hb
        refine go (cj rTI (cj @gb (cj @gl (cj @ll @hln)))) ?_
        refine .inr ⟨s1.nx + 1, _, by omega, hA.l, ?_, hA.fr⟩
        rw [← tp_SL (s1.nx + 1), hA2, hln]
      · have hki : (k : Int) = 120 := by omega
        have hsh : shapeK k = (4, false, true) := by rw [hk]; rfl
        have hW : wordsC c = L0 ++ [c.ref] := by
          rw [hww, hk]
          show (L0 ++ [c.ref]) ++ [] ++ [] = _
          simp
        have hA := hL.app (s1.push [SV c.ref]) (Nat.le_succ _) (fun k hk => St.push_ne s1 _ _ (by omega)) [c.ref]
        have hA2 : (L0 ++ [c.ref]).length = L0.length + 1 := by rw [List.length_append]; rfl
        rw [hW]
        unfold SV at hA
        refine go (cj rTI @hki) ?_
        refine ifs ?_ ?_ <;> first | exact nope | intro hb
        refine go (cj rTI @hki) ?_
        refine ifs ?_ ?_ <;> first | exact nope | intro hb
        refine go (cj rTI @hki) ?_
        refine ifs ?_ ?_ <;> first | exact nope | intro hb
        refine go (cj rTI @hki) ?_
        refine ifs ?_ ?_ <;> first | exact nope | intro hb
        refine go (cj rTI @hki) ?_
        refine ifs ?_ ?_ <;> first | exact nope | intro hb
        refine go (cj rTI @hki) ?_
        refine ifs ?_ ?_ <;> first | exact nope | intro hb
        refine go (cj rTI @hki) ?_
        refine ifs ?_ ?_ <;> first | exact nope | intro hb
        refine go (cj rTI @hki) ?_
        refine ifs ?_ ?_ <;> first | exact nope | intro hb
        refine go (cj rTI @hki) ?_
        refine ifs ?_ ?_ <;> first | exact nope | intro hb
        refine go (cj rTI @hki) ?_
        refine ifs ?_ ?_ <;> first | exact nope | intro hb
        refine go (cj rTI @hki) ?_
        refine ifs ?_ ?_ <;> first | exact nope | intro hb
        refine go (cj rTI (cj @gb (cj @gl (cj @ll @hln)))) ?_
        refine .inr ⟨s1.nx + 1, _, by omega, hA.l, ?_, hA.fr⟩
        rw [← tp_SL (s1.nx + 1), hA2, hln]
      · have hki : (k : Int) = 118 := by omega
        have hsh : shapeK k = (2, false, false) := by rw [hk]; rfl
        refine go (cj rTI @hki) ?_
        refine ifs ?_ ?_ <;> first | exact nope | intro hb
        refine go (cj rTI @hki) ?_
        refine ifs ?_ ?_ <;> first | exact nope | intro hb
        refine go (cj rTI @hki) ?_
        refine ifs ?_ ?_ <;> first | exact nope | intro hb
        refine go (cj rTI @hki) ?_
        refine ifs ?_ ?_ <;> first | exact nope | intro hb
        refine go (cj rTI @hki) ?_
        refine ifs ?_ ?_ <;> first | exact nope | intro hb
        refine go (cj rTI @hki) ?_
        refine ifs ?_ ?_ <;> first | exact nope | intro hb
        refine go (cj rTI @hki) ?_
        refine ifs ?_ ?_ <;> first | exact nope | intro hb
        refine go (cj rTI @hki) ?_
        refine ifs ?_ ?_ <;> first | exact nope | intro hb
        refine go (cj rTI @hki) ?_
        refine ifs ?_ ?_ <;> first | exact nope | intro hb
        refine go (cj rTI @hki) ?_
        refine ifs ?_ ?_ <;> first | exact nope | intro hb
        refine go (cj rTI @hki) ?_
        refine ifs ?_ ?_ <;> first | exact nope | intro hb
        refine aw_skip ?_
        refine .inl ⟨rfl, ?_, ?_, ?_, by rw [hk]; rfl, rfl⟩
        all_goals ((first | refine rn rTI ?_ | exact rn0 rTI))
        all_goals (first | trivial | rfl | rw [hln])
      · have hki : (k : Int) = 105 := by omega
        have hsh : shapeK k = (2, false, false) := by rw [hk]; rfl
        refine go (cj rTI @hki) ?_
        refine ifs ?_ ?_ <;> first | exact nope | intro hb
        refine go (cj rTI @hki) ?_
        refine ifs ?_ ?_ <;> first | exact nope | intro hb
        refine go (cj rTI @hki) ?_
        refine ifs ?_ ?_ <;> first | exact nope | intro hb
        refine go (cj rTI @hki) ?_
        refine ifs ?_ ?_ <;> first | exact nope | intro hb
        refine go (cj rTI @hki) ?_
        refine ifs ?_ ?_ <;> first | exact nope | intro hb
        refine go (cj rTI @hki) ?_
        refine ifs ?_ ?_ <;> first | exact nope | intro hb
        refine go (cj rTI @hki) ?_
        refine ifs ?_ ?_ <;> first | exact nope | intro hb
        refine go (cj rTI @hki) ?_
        refine ifs ?_ ?_ <;> first | exact nope | intro hb
        refine go (cj rTI @hki) ?_
        refine ifs ?_ ?_ <;> first | exact nope | intro hb
        refine go (cj rTI @hki) ?_
        refine ifs ?_ ?_ <;> first | exact nope | intro hb
        refine go (cj rTI @hki) ?_
        refine ifs ?_ ?_ <;> first | exact nope | intro hb
        refine aw_skip ?_
        refine .inl ⟨rfl, ?_, ?_, ?_, by rw [hk]; rfl, rfl⟩
        all_goals ((first | refine rn rTI ?_ | exact rn0 rTI))
        all_goals (first | trivial | rfl | rw [hln])
    · rintro e2 s2 ⟨h1, q4, q5, hsrc, rfl⟩
      rw [then_normal]
      have hwo : waveOk c.wave = true := by
        have h := hwav
        unfold wavR at h
        rw [if_pos hsrc] at h
        exact h
      have hW : wordsC c = L0 ++ waveT c.wave := by
        rw [hww]
        rcases of_decide_eq_true (show decide (k = 118 ∨ k = 105) = true from hsrc) with rfl | rfl
        · show (L0 ++ []) ++ [] ++ waveT c.wave = _
          rw [List.append_nil, List.append_nil]
        · show (L0 ++ []) ++ [] ++ waveT c.wave = _
          rw [List.append_nil, List.append_nil]
      rw [hW]
      have hwo2 := hwo
      rw [show waveOk c.wave = (c.wave.vals.all valid && c.wave.steps.all okS && CardH.kindOk c.wave.kind c.wave.vals c.wave.steps) from rfl, Bool.and_eq_true, Bool.and_eq_true] at hwo2
      obtain ⟨⟨hva, hst⟩, hki⟩ := hwo2
      have hva1 : ∀ i, i < c.wave.vals.length → valid (c.wave.vals.getD i (0, 0)) = true := fun i hi => mem_valid hva i hi
      have hst1 : ∀ i, i < c.wave.steps.length → 0 ≤ c.wave.steps.getD i 0 ∧ c.wave.steps.getD i 0 ≤ 1000000000 := fun i hi => by
        rw [List.getD_eq_getElem?_getD, List.getElem?_eq_getElem hi]
        have := List.all_eq_true.1 hst _ (List.getElem_mem hi)
        unfold okS at this
        exact of_decide_eq_true this
      clear hcase hmem hval hwav hwo hww
      by_cases k1 : c.wave.kind = 1
      · have hkk := hki
        unfold CardH.kindOk at hkk
        rw [if_pos k1, decide_eq_true_eq] at hkk
        obtain ⟨v1, s1⟩ := hkk
        have f1 := nc_at c.wave.vals 0 (by omega)
        have f2 : 2 ≤ (NC c.wave.vals).length := by rw [nc_len]; omega
        rw [Nat.zero_mul, List.drop_zero] at f1
        have hp2 := rtext_ax (c.wave.vals.getD 0 (0, 0)) (hva1 0 (by omega))
        have hT : waveT c.wave = [sDc, textN (c.wave.vals.getD 0 (0, 0))] := by
          unfold waveT
          rw [if_neg (by omega), if_pos k1, List.length_eq_zero_iff.1 s1]
          match c.wave.vals, v1 with
          | [v], _ => rfl
        generalize c.wave.vals.getD 0 (0, 0) = v at *
        have hA := hL.app (s2.push [SV sDc, SV (textN v)]) (Nat.le_succ _) (fun k hk => St.push_ne s2 _ _ (by omega)) [sDc, textN v]
        have hA2 : (L0 ++ [sDc, textN v]).length = L0.length + 2 := by rw [List.length_append]; rfl
        rw [hT]
        unfold NM SV at hp2
        unfold SV at hA
        unfold iv at f1
        refine go (cj rTI (cj @h1 (cj @q5 (cj @gw @k1)))) ?_
        refine ifs ?_ ?_ <;> first | exact nope | intro hb
        refine aw_seq ?_
        refine aw_reg fun K hK => ?_; refine rn (cj rTI (cj @h1 (cj @q4 (cj @q5 (cj @gw (cj @gl (cj @ll (cj @f1 @f2)))))))) ?_; refine cont_pure hp2 ?_; refine rn (cj rTI (cj @h1 (cj @q4 (cj @q5 (cj @gw (cj @gl (cj @ll (cj @f1 @f2)))))))) ?_; refine hK _ _ ?_; clear hK K
        refine go (cj rTI @h1) ?_
        refine ⟨s2.nx + 1, _, by omega, hA.l, ?_, hA.fr⟩
        rw [← tp_SL (s2.nx + 1), hA2]
      by_cases k2 : c.wave.kind = 2
      · have hkk := hki
        unfold CardH.kindOk at hkk
        rw [if_neg k1, if_pos k2, decide_eq_true_eq] at hkk
        obtain ⟨v1, s5, _⟩ := hkk
        have f1 := nc_at c.wave.vals 0 (by omega)
        have f2 : 2 ≤ (NC c.wave.vals).length := by rw [nc_len]; omega
        rw [Nat.zero_mul, List.drop_zero] at f1
        have f3 := nc_at c.wave.vals 1 (by omega)
        have f4 : 2 ≤ ((NC c.wave.vals).drop 2).length := by rw [List.length_drop, nc_len]; omega
        rw [Nat.one_mul] at f3
        have t1 : Int.toNat 1 = 1 := rfl
        have hp2 := rtext_ax (c.wave.vals.getD 0 (0, 0)) (hva1 0 (by omega))
        have hp3 := rtext_ax (c.wave.vals.getD 1 (0, 0)) (hva1 1 (by omega))
        have hT : waveT c.wave = [sPulse, textN (c.wave.vals.getD 0 (0, 0)), textN (c.wave.vals.getD 1 (0, 0))] ++ c.wave.steps.map decS := by
          unfold waveT
          rw [if_neg (by omega), if_neg k1, if_pos k2]
          match c.wave.vals, v1 with
          | [v, w], _ => rfl
        generalize c.wave.vals.getD 0 (0, 0) = v at *
        generalize c.wave.vals.getD 1 (0, 0) = w at *
        have hA := hL.app (s2.push [SV sPulse, SV (textN v), SV (textN w)]) (Nat.le_succ _) (fun k hk => St.push_ne s2 _ _ (by omega)) [sPulse, textN v, textN w]
        have hA2 : (L0 ++ [sPulse, textN v, textN w]).length = L0.length + 3 := by rw [List.length_append]; rfl
        rw [hT, ← List.append_assoc]
        unfold NM SV at hp2 hp3
        unfold SV at hA
        unfold iv at f1 f3
        refine go (cj rTI (cj @h1 (cj @q5 (cj @gw @k2)))) ?_
        refine ifs ?_ ?_ <;> first | exact nope | intro hb
        refine go rTI ?_
        refine ifs ?_ ?_ <;> first | exact nope | intro hb
        refine aw_seq ?_
        refine aw_drw (.take 0 (.take 1 (.take 2 (.take 3 (.take 4 (.take 6 (.take 7 (.take 8 (.take 9 (.one 5 (.one 10 (.one 11 (.one 12 (.take 13 (.done))))))))))))))) [s.nx + 3] (by kernel_rfl) (by kernel_rfl) fun K hK => ?_; refine dr (cj rTI (cj @h1 (cj @q4 (cj @q5 (cj @gw (cj @gl (cj @ll (cj @f1 (cj @f2 (cj @f3 (cj @f4 @t1))))))))))) ?_; refine cont_pure hp2 ?_; refine dr (cj rTI (cj @h1 (cj @q4 (cj @q5 (cj @gw (cj @gl (cj @ll (cj @f1 (cj @f2 (cj @f3 (cj @f4 @t1))))))))))) ?_; refine cont_pure hp3 ?_; refine dr (cj rTI (cj @h1 (cj @q4 (cj @q5 (cj @gw (cj @gl (cj @ll (cj @f1 (cj @f2 (cj @f3 (cj @f4 @t1))))))))))) ?_; refine hK _ _ ?_; clear hK K
        rw [then_normal]
        refine CardT.aw_gen (fun x => L2 s x [.v (.string (bs c.name)), .sl c.nodes.length (SL c.nodes), .v (.string (bs c.ref)), .v (.int .i64 c.value.1), .v (.int .i64 c.value.2), .v (.int .i64 c.wave.kind), .sl c.wave.vals.length (NC c.wave.vals), .sl c.wave.steps.length (IL c.wave.steps)] [.v (.int .i64 c.wave.kind), .sl c.wave.vals.length (NC c.wave.vals), .sl c.wave.steps.length (IL c.wave.steps)] (s.nx + 3) (s2.nx + 1) (L0 ++ [sPulse, textN v, textN w])) hA fun s3 hL => ?_
        refine go (cj rTI @h1) ?_
        have hl1 : (L0 ++ [sPulse, textN v, textN w]).length ≤ 12 := by omega
        clear hA hp2 hp3 f1 f2 f3 f4 gl ll
        generalize L0 ++ [sPulse, textN v, textN w] = L1 at *
        refine aw_loop (fun m e3 s3 => ∃ i id, m = 5 - i ∧ i ≤ 5 ∧ e3.n = 145 ∧ e3.m 4 = .own id 0 (L1 ++ (c.wave.steps.take i).map decS).length 1 ∧ e3.m 5 = .ptr (s.nx + 3) 0 ∧ e3.m 6 = .v (.int .i64 (i : Nat)) ∧ L2 s s3 [.v (.string (bs c.name)), .sl c.nodes.length (SL c.nodes), .v (.string (bs c.ref)), .v (.int .i64 c.value.1), .v (.int .i64 c.value.2), .v (.int .i64 c.wave.kind), .sl c.wave.vals.length (NC c.wave.vals), .sl c.wave.steps.length (IL c.wave.steps)] [.v (.int .i64 c.wave.kind), .sl c.wave.vals.length (NC c.wave.vals), .sl c.wave.steps.length (IL c.wave.steps)] (s.nx + 3) id (L1 ++ (c.wave.steps.take i).map decS)) 5 ?_ ?_
        · refine ⟨0, s2.nx + 1, by omega, by omega, ?_, ?_, ?_, ?_, by rw [List.take_zero, List.map_nil, List.append_nil]; exact hL⟩
          all_goals ((first | refine rn (cj rTI (cj @h1 @q5)) ?_ | exact rn0 (cj rTI (cj @h1 @q5))))
          all_goals (first | trivial | rfl | (simp; omega) | simp)
        · clear h1 q4 q5 hL
          rintro m e3 s3 ⟨i, id, rfl, hi, h1, q4, q5, q6, hL⟩
          have gw := hL.gw
          have gl := hL.l
          obtain ⟨o1, o2, o3, o4, o5⟩ := hL.o
          by_cases hi2 : i < 5
          · have f5 := hd_IL c.wave.steps i (by omega)
            have hz := hst1 i (by omega)
            have hp := decimal_ax (c.wave.steps.getD i 0) hz.1 hz.2
            have ht := map_take decS c.wave.steps 0 i (by omega)
            have ll := sl_len (L1 ++ (c.wave.steps.take i).map decS)
            have hb0 : (L1 ++ (c.wave.steps.take i).map decS).length ≤ 100 := by rw [List.length_append, List.length_map, List.length_take]; omega
            generalize c.wave.steps.getD i 0 = z at *
            have hA := hL.app (s3.push [SV (decS z)]) (Nat.le_succ _) (fun k hk => St.push_ne s3 _ _ (by omega)) [decS z]
            rw [List.append_assoc, ← ht] at hA
            have hln2 : (L1 ++ (c.wave.steps.take (i + 1)).map decS).length = (L1 ++ (c.wave.steps.take i).map decS).length + 1 := by rw [ht, ← List.append_assoc, List.length_append]; rfl
            generalize hLL : L1 ++ (c.wave.steps.take i).map decS = LL at *
            unfold iv at f5 hp
            unfold SV at hp hA
            refine go (cj rTI (cj @h1 @q6)) ?_
            refine ifs ?_ ?_ <;> first | exact nope | intro hb
            refine aw_skip ?_
            refine go rTI ?_
            refine aw_reg fun K hK => ?_; refine rn (cj rTI (cj @h1 (cj @q4 (cj @q5 (cj @q6 (cj @gw (cj @gl (cj @ll @f5)))))))) ?_; refine cont_pure hp ?_; refine rn (cj rTI (cj @h1 (cj @q4 (cj @q5 (cj @q6 (cj @gw (cj @gl (cj @ll @f5)))))))) ?_; refine hK _ _ ?_; clear hK K
            refine go (cj rTI (cj @h1 @q6)) ?_
            try simp only [block_normal, loop_normal]
            refine ⟨5 - (i + 1), by omega, i + 1, s3.nx + 1, rfl, by omega, ?_, ?_, ?_, ?_, hA⟩
            all_goals ((first | refine rn (cj rTI (cj @h1 (cj @q4 (cj @q5 @q6)))) ?_ | exact rn0 (cj rTI (cj @h1 (cj @q4 (cj @q5 @q6))))))
            all_goals (first | rfl | trivial | rw [hln2])
          · obtain rfl : i = 5 := by omega
            rw [List.take_of_length_le (by omega)] at hL q4
            refine go (cj rTI (cj @h1 @q6)) ?_
            refine ifs ?_ ?_ <;> first | exact nope | intro hb
            refine go (cj rTI (cj @h1 @q4)) ?_
            exact ⟨id, _, by omega, hL.l, tp_SL _ _, hL.fr⟩
      by_cases k3 : c.wave.kind = 3
      · have hkk := hki
        unfold CardH.kindOk at hkk
        rw [if_neg k1, if_neg k2, if_pos k3, Bool.and_eq_true, decide_eq_true_eq] at hkk
        obtain ⟨_, v1, v2, v3⟩ := hkk
        have hT : L0 ++ waveT c.wave = (L0 ++ [sPwl]) ++ zipW c.wave.steps c.wave.vals := by
          unfold waveT
          rw [if_pos k3, List.append_assoc]
          rfl
        have hA := hL.app (s2.push [SV sPwl]) (Nat.le_succ _) (fun k hk => St.push_ne s2 _ _ (by omega)) [sPwl]
        have hA2 : (L0 ++ [sPwl]).length = L0.length + 1 := by rw [List.length_append]; rfl
        rw [hT]
        unfold SV at hA
        refine go (cj rTI (cj @h1 (cj @q5 (cj @gw @k3)))) ?_
        refine ifs ?_ ?_ <;> first | exact nope | intro hb
        refine go rTI ?_
        refine ifs ?_ ?_ <;> first | exact nope | intro hb
        refine go rTI ?_
        refine ifs ?_ ?_ <;> first | exact nope | intro hb
        refine go (cj rTI (cj @h1 (cj @q4 (cj @gl @ll)))) ?_
        have hl1 : (L0 ++ [sPwl]).length ≤ 12 := by omega
        refine CardT.aw_gen (fun x => L2 s x [.v (.string (bs c.name)), .sl c.nodes.length (SL c.nodes), .v (.string (bs c.ref)), .v (.int .i64 c.value.1), .v (.int .i64 c.value.2), .v (.int .i64 c.wave.kind), .sl c.wave.vals.length (NC c.wave.vals), .sl c.wave.steps.length (IL c.wave.steps)] [.v (.int .i64 c.wave.kind), .sl c.wave.vals.length (NC c.wave.vals), .sl c.wave.steps.length (IL c.wave.steps)] (s.nx + 3) (s2.nx + 1) (L0 ++ [sPwl])) hA fun s3 hL => ?_
        clear hA gl ll
        generalize hL1 : L0 ++ [sPwl] = L1 at *
        refine aw_loop (fun m e3 s3 => ∃ i id, m = c.wave.vals.length - i ∧ i ≤ c.wave.vals.length ∧ e3.n = 145 ∧ e3.m 4 = .own id 0 (L1 ++ zipW (c.wave.steps.take i) (c.wave.vals.take i)).length 1 ∧ e3.m 5 = .ptr (s.nx + 3) 0 ∧ e3.m 7 = .v (.int .i64 (i : Nat)) ∧ L2 s s3 [.v (.string (bs c.name)), .sl c.nodes.length (SL c.nodes), .v (.string (bs c.ref)), .v (.int .i64 c.value.1), .v (.int .i64 c.value.2), .v (.int .i64 c.wave.kind), .sl c.wave.vals.length (NC c.wave.vals), .sl c.wave.steps.length (IL c.wave.steps)] [.v (.int .i64 c.wave.kind), .sl c.wave.vals.length (NC c.wave.vals), .sl c.wave.steps.length (IL c.wave.steps)] (s.nx + 3) id (L1 ++ zipW (c.wave.steps.take i) (c.wave.vals.take i))) c.wave.vals.length ?_ ?_
        · refine ⟨0, s2.nx + 1, by omega, by omega, ?_, ?_, ?_, ?_, by rw [List.take_zero, List.take_zero, show zipW [] [] = [] from rfl, List.append_nil]; exact hL⟩
          all_goals ((first | refine rn (cj rTI (cj @h1 @q5)) ?_ | exact rn0 (cj rTI (cj @h1 @q5))))
          all_goals (first | trivial | rfl | (simp [zipW]; omega) | simp)
        · clear h1 q4 q5 hL
          rintro m e3 s3 ⟨i, id, rfl, hi, h1, q4, q5, q7, hL⟩
          have gw := hL.gw
          have gl := hL.l
          obtain ⟨o1, o2, o3, o4, o5⟩ := hL.o
          by_cases hi2 : i < c.wave.vals.length
          · have f1 := nc_at c.wave.vals i hi2
            have f2 : 2 ≤ ((NC c.wave.vals).drop (i * 2)).length := by rw [List.length_drop, nc_len]; omega
            have f5 := hd_IL c.wave.steps i (by omega)
            have hz := hst1 i (by omega)
            have hp := decimal_ax (c.wave.steps.getD i 0) hz.1 hz.2
            have hp2 := rtext_ax (c.wave.vals.getD i (0, 0)) (hva1 i hi2)
            have ht := zip_take c.wave.steps c.wave.vals i (by omega) hi2
            have ll := sl_len (L1 ++ zipW (c.wave.steps.take i) (c.wave.vals.take i))
            have hb0 : (L1 ++ zipW (c.wave.steps.take i) (c.wave.vals.take i)).length ≤ 100 := by
              have := zip_le (c.wave.steps.take i) (c.wave.vals.take i)
              rw [List.length_take] at this
              rw [List.length_append]
              omega
            generalize c.wave.steps.getD i 0 = z at *
            generalize c.wave.vals.getD i (0, 0) = v at *
            have hA := hL.app (s3.push [SV (decS z), SV (textN v)]) (Nat.le_succ _) (fun k hk => St.push_ne s3 _ _ (by omega)) [decS z, textN v]
            rw [List.append_assoc, ← ht] at hA
            have hln2 : (L1 ++ zipW (c.wave.steps.take (i + 1)) (c.wave.vals.take (i + 1))).length = (L1 ++ zipW (c.wave.steps.take i) (c.wave.vals.take i)).length + 2 := by rw [ht, ← List.append_assoc, List.length_append]; rfl
            generalize hLL : L1 ++ zipW (c.wave.steps.take i) (c.wave.vals.take i) = LL at *
            unfold iv at f1 f5 hp
            unfold NM SV at hp2
            unfold SV at hp hA
            refine go (cj rTI (cj @h1 (cj @q5 (cj @q7 @gw)))) ?_
            refine ifs ?_ ?_ <;> first | exact nope | intro hb
            refine aw_skip ?_
            refine go rTI ?_
            refine aw_drw (.take 0 (.take 1 (.take 2 (.take 3 (.take 4 (.take 5 (.take 7 (.take 8 (.take 9 (.take 10 (.take 11 (.one 6 (.one 12 (.one 13 (.one 14 (.take 15 (.done))))))))))))))))) [s.nx + 3] (by kernel_rfl) (by kernel_rfl) fun K hK => ?_; refine dr (cj rTI (cj @h1 (cj @q4 (cj @q5 (cj @q7 (cj @gw (cj @gl (cj @ll (cj @f1 (cj @f2 @f5)))))))))) ?_; refine cont_pure hp ?_; refine dr (cj rTI (cj @h1 (cj @q4 (cj @q5 (cj @q7 (cj @gw (cj @gl (cj @ll (cj @f1 (cj @f2 @f5)))))))))) ?_; refine cont_pure hp2 ?_; refine dr (cj rTI (cj @h1 (cj @q4 (cj @q5 (cj @q7 (cj @gw (cj @gl (cj @ll (cj @f1 (cj @f2 @f5)))))))))) ?_; refine hK _ _ ?_; clear hK K
            refine go (cj rTI (cj @h1 @q7)) ?_
            try simp only [block_normal, loop_normal]
            refine ⟨c.wave.vals.length - (i + 1), by omega, i + 1, s3.nx + 1, rfl, by omega, ?_, ?_, ?_, ?_, hA⟩
            all_goals ((first | refine rn (cj rTI (cj @h1 (cj @q4 (cj @q5 @q7)))) ?_ | exact rn0 (cj rTI (cj @h1 (cj @q4 (cj @q5 @q7))))))
            all_goals (first | rfl | trivial | rw [hln2])
          · obtain rfl : i = c.wave.vals.length := by omega
            rw [zip_all c.wave.steps c.wave.vals c.wave.vals.length (.inr rfl)] at hL q4
            refine go (cj rTI (cj @h1 (cj @q5 (cj @q7 @gw)))) ?_
            refine ifs ?_ ?_ <;> first | exact nope | intro hb
            refine go (cj rTI (cj @h1 @q4)) ?_
            exact ⟨id, _, by omega, hL.l, tp_SL _ _, hL.fr⟩
      · have k4 : c.wave.kind = 4 := by
          unfold CardH.kindOk at hki
          rw [if_neg k1, if_neg k2, if_neg k3] at hki
          by_cases h : c.wave.kind = 4
          · exact h
          · rw [if_neg h] at hki
            cases hki
        have hkk := hki
        unfold CardH.kindOk at hkk
        rw [if_neg k1, if_neg k2, if_neg k3, if_pos k4, decide_eq_true_eq] at hkk
        obtain ⟨v1, v2, v3⟩ := hkk
        have hT : L0 ++ waveT c.wave = (L0 ++ [sTable]) ++ c.wave.vals.map textN := by
          unfold waveT
          rw [if_neg k3, if_neg k1, if_neg k2, if_pos k4, List.length_eq_zero_iff.1 v3, List.map_nil, List.append_nil, List.append_assoc]
        have hA := hL.app (s2.push [SV sTable]) (Nat.le_succ _) (fun k hk => St.push_ne s2 _ _ (by omega)) [sTable]
        have hA2 : (L0 ++ [sTable]).length = L0.length + 1 := by rw [List.length_append]; rfl
        rw [hT]
        unfold SV at hA
        refine go (cj rTI (cj @h1 (cj @q5 (cj @gw @k4)))) ?_
        refine ifs ?_ ?_ <;> first | exact nope | intro hb
        refine go rTI ?_
        refine ifs ?_ ?_ <;> first | exact nope | intro hb
        refine go rTI ?_
        refine ifs ?_ ?_ <;> first | exact nope | intro hb
        refine go (cj rTI (cj @h1 (cj @q4 (cj @gl @ll)))) ?_
        have hl1 : (L0 ++ [sTable]).length ≤ 12 := by omega
        refine CardT.aw_gen (fun x => L2 s x [.v (.string (bs c.name)), .sl c.nodes.length (SL c.nodes), .v (.string (bs c.ref)), .v (.int .i64 c.value.1), .v (.int .i64 c.value.2), .v (.int .i64 c.wave.kind), .sl c.wave.vals.length (NC c.wave.vals), .sl c.wave.steps.length (IL c.wave.steps)] [.v (.int .i64 c.wave.kind), .sl c.wave.vals.length (NC c.wave.vals), .sl c.wave.steps.length (IL c.wave.steps)] (s.nx + 3) (s2.nx + 1) (L0 ++ [sTable])) hA fun s3 hL => ?_
        clear hA gl ll
        generalize hL1 : L0 ++ [sTable] = L1 at *
        refine aw_loop (fun m e3 s3 => ∃ i id, m = c.wave.vals.length - i ∧ i ≤ c.wave.vals.length ∧ e3.n = 145 ∧ e3.m 4 = .own id 0 (L1 ++ (c.wave.vals.take i).map textN).length 1 ∧ e3.m 5 = .ptr (s.nx + 3) 0 ∧ e3.m 8 = .v (.int .i64 (i : Nat)) ∧ L2 s s3 [.v (.string (bs c.name)), .sl c.nodes.length (SL c.nodes), .v (.string (bs c.ref)), .v (.int .i64 c.value.1), .v (.int .i64 c.value.2), .v (.int .i64 c.wave.kind), .sl c.wave.vals.length (NC c.wave.vals), .sl c.wave.steps.length (IL c.wave.steps)] [.v (.int .i64 c.wave.kind), .sl c.wave.vals.length (NC c.wave.vals), .sl c.wave.steps.length (IL c.wave.steps)] (s.nx + 3) id (L1 ++ (c.wave.vals.take i).map textN)) c.wave.vals.length ?_ ?_
        · refine ⟨0, s2.nx + 1, by omega, by omega, ?_, ?_, ?_, ?_, by rw [List.take_zero, List.map_nil, List.append_nil]; exact hL⟩
          all_goals ((first | refine rn (cj rTI (cj @h1 @q5)) ?_ | exact rn0 (cj rTI (cj @h1 @q5))))
          all_goals (first | trivial | rfl | (simp; omega) | simp)
        · clear h1 q4 q5 hL
          rintro m e3 s3 ⟨i, id, rfl, hi, h1, q4, q5, q8, hL⟩
          have gw := hL.gw
          have gl := hL.l
          obtain ⟨o1, o2, o3, o4, o5⟩ := hL.o
          by_cases hi2 : i < c.wave.vals.length
          · have f1 := nc_at c.wave.vals i hi2
            have f2 : 2 ≤ ((NC c.wave.vals).drop (i * 2)).length := by rw [List.length_drop, nc_len]; omega
            have hp2 := rtext_ax (c.wave.vals.getD i (0, 0)) (hva1 i hi2)
            have ht := map_take textN c.wave.vals (0, 0) i hi2
            have ll := sl_len (L1 ++ (c.wave.vals.take i).map textN)
            have hb0 : (L1 ++ (c.wave.vals.take i).map textN).length ≤ 100 := by rw [List.length_append, List.length_map, List.length_take]; omega
            generalize c.wave.vals.getD i (0, 0) = v at *
            have hA := hL.app (s3.push [SV (textN v)]) (Nat.le_succ _) (fun k hk => St.push_ne s3 _ _ (by omega)) [textN v]
            rw [List.append_assoc, ← ht] at hA
            have hln2 : (L1 ++ (c.wave.vals.take (i + 1)).map textN).length = (L1 ++ (c.wave.vals.take i).map textN).length + 1 := by rw [ht, ← List.append_assoc, List.length_append]; rfl
            generalize hLL : L1 ++ (c.wave.vals.take i).map textN = LL at *
            unfold iv at f1
            unfold NM SV at hp2
            unfold SV at hA
            refine go (cj rTI (cj @h1 (cj @q5 (cj @q8 @gw)))) ?_
            refine ifs ?_ ?_ <;> first | exact nope | intro hb
            refine aw_skip ?_
            refine go rTI ?_
            refine aw_reg fun K hK => ?_; refine rn (cj rTI (cj @h1 (cj @q4 (cj @q5 (cj @q8 (cj @gw (cj @gl (cj @ll (cj @f1 @f2))))))))) ?_; refine cont_pure hp2 ?_; refine rn (cj rTI (cj @h1 (cj @q4 (cj @q5 (cj @q8 (cj @gw (cj @gl (cj @ll (cj @f1 @f2))))))))) ?_; refine hK _ _ ?_; clear hK K
            refine go (cj rTI (cj @h1 @q8)) ?_
            try simp only [block_normal, loop_normal]
            refine ⟨c.wave.vals.length - (i + 1), by omega, i + 1, s3.nx + 1, rfl, by omega, ?_, ?_, ?_, ?_, hA⟩
            all_goals ((first | refine rn (cj rTI (cj @h1 (cj @q4 (cj @q5 @q8)))) ?_ | exact rn0 (cj rTI (cj @h1 (cj @q4 (cj @q5 @q8))))))
            all_goals (first | rfl | trivial | rw [hln2])
          · obtain rfl : i = c.wave.vals.length := by omega
            rw [List.take_length] at hL q4
            refine go (cj rTI (cj @h1 (cj @q5 (cj @q8 @gw)))) ?_
            refine ifs ?_ ?_ <;> first | exact nope | intro hb
            refine go (cj rTI (cj @h1 @q4)) ?_
            exact ⟨id, _, by omega, hL.l, tp_SL _ _, hL.fr⟩
end Go.Proofs.YtfjelkjlfcafgaaGreatDoor.CardAF
end
section
/- The laws' first fact: a resistor is read and written, a model is read. -/
namespace Go.Proofs.YtfjelkjlfcafgaaGreatDoor.CardU
open Go Go.RowKit Go.Proofs.YtfjelkjlfcafgaaGreatDoor.Ax Go.Proofs.YtfjelkjlfcafgaaGreatDoor.Ti Go.Proofs.YtfjelkjlfcafgaaGreatDoor.NumS Go.Proofs.YtfjelkjlfcafgaaGreatDoor.NumT Go.Proofs.YtfjelkjlfcafgaaGreatDoor.CardS Go.Proofs.YtfjelkjlfcafgaaGreatDoor.CardP Go.Proofs.YtfjelkjlfcafgaaGreatDoor.CardA Go.Proofs.YtfjelkjlfcafgaaGreatDoor.CardB Go.Proofs.YtfjelkjlfcafgaaGreatDoor.CardC Go.Proofs.YtfjelkjlfcafgaaGreatDoor.CardD Go.Proofs.YtfjelkjlfcafgaaGreatDoor.CardE Go.Proofs.YtfjelkjlfcafgaaGreatDoor.CardF Go.Proofs.YtfjelkjlfcafgaaGreatDoor.CardG Go.Proofs.YtfjelkjlfcafgaaGreatDoor.CardH Go.Proofs.YtfjelkjlfcafgaaGreatDoor.CardI Go.Proofs.YtfjelkjlfcafgaaGreatDoor.CardK Go.Proofs.YtfjelkjlfcafgaaGreatDoor.CardL Go.Proofs.YtfjelkjlfcafgaaGreatDoor.CardN Go.Proofs.YtfjelkjlfcafgaaGreatDoor.CardR
open Go.Proofs.YtfjelkjlfcafgaaGreatDoor.NumA (NM)
set_option linter.unusedSimpArgs false
set_option linter.unusedVariables false
set_option maxRecDepth 4000
set_option maxHeartbeats 2000000
theorem rTI : type_of% (cj @ti3 (cj @ti4 (cj @ti9 (cj @ti5 (cj @ti2 (cj @ti36 (cj @ti63 (cj @ti62 (cj @ti24 (cj @ti65 (cj @ti67 (cj @ti82 (cj @ti25 (cj @Nat.zero_add (cj @tz0 (cj @tz1 (cj @tz3 (cj @Nat.mul_one @Int.toNat_natCast)))))))))))))))))) := cj @ti3 (cj @ti4 (cj @ti9 (cj @ti5 (cj @ti2 (cj @ti36 (cj @ti63 (cj @ti62 (cj @ti24 (cj @ti65 (cj @ti67 (cj @ti82 (cj @ti25 (cj @Nat.zero_add (cj @tz0 (cj @tz1 (cj @tz3 (cj @Nat.mul_one @Int.toNat_natCast)))))))))))))))))
theorem cont_box {P : Program} {f : FuncId} {n : Nat} {r : AV} {s : St} {K : Env → St → Prop} {e : Env} {d : Option Nat} (id : Nat) (c : List AV) (sz : Nat) (hi : s.get id = some c) (hc : PCall P f [.sl n ((c.drop 0).take (n * sz))] r)
    (h : ∀ s', s'.nx = s.nx → (∀ j, j ≠ id → s'.get j = s.get j) → K (e.put d r) s') : ACall P f [.own id 0 n sz] s (ContS K e d) := by
  refine acall_frz id c hi (fun _ => false) ?_
  rw [List.map_cons, List.map_nil, frz_own]
  exact cont_pure hc (h _ rfl fun j hj => frz_false _ _ _ _ hj)
theorem cont_box2 {P : Program} {f : FuncId} {n : Nat} {x r : AV} {s : St} {K : Env → St → Prop} {e : Env} {d : Option Nat} (id : Nat) (c : List AV) (sz : Nat) (hi : s.get id = some c) (hx : idf x = true) (hc : PCall P f [x, .sl n ((c.drop 0).take (n * sz))] r)
    (h : ∀ s', s'.nx = s.nx → (∀ j, j ≠ id → s'.get j = s.get j) → K (e.put d r) s') : ACall P f [x, .own id 0 n sz] s (ContS K e d) := by
  refine acall_frz id c hi (fun _ => false) ?_
  rw [List.map_cons, List.map_cons, List.map_nil, frz_own, frz_idf _ _ x hx]
  exact cont_pure hc (h _ rfl fun j hj => frz_false _ _ _ _ hj)
def aw1 : List Str := [[114, 49], [97], [48], [52, 46, 55, 107]]
def aw2 : List Str := [[46, 109, 111, 100, 101, 108], [100, 49], [100], [49, 117], [48, 46, 55], [49, 48, 48, 109]]
def awC : Crd := ⟨[114, 49], [[97], [48]], [], (47, 2), wv0⟩
def awM : Mdl := ⟨[100, 49], 100, [(1, -6), (1, -1)], [(7, -1)]⟩
theorem aw_r : readC aw1 = (awC, 0) := by kernel_rfl
theorem aw_w : writeC awC = ([[114, 49], [97], [48], [52, 55, 48, 48]], 0) := by kernel_rfl
theorem aw_m : readM aw2 = (awM, 0) := by kernel_rfl
theorem aw_by1 : BL aw1 ∧ ∀ w ∈ aw1, w.length ≤ 281474976710656 := by
  constructor <;> intro w hw <;> simp only [aw1, List.mem_cons, List.not_mem_nil, or_false] at hw <;> rcases hw with rfl | rfl | rfl | rfl <;> first | exact by_lit _ rfl | decide
theorem aw_by2 : BL aw2 ∧ ∀ w ∈ aw2, w.length ≤ 281474976710656 := by
  constructor <;> intro w hw <;> simp only [aw2, List.mem_cons, List.not_mem_nil, or_false] at hw <;> rcases hw with rfl | rfl | rfl | rfl | rfl | rfl <;> first | exact by_lit _ rfl | decide
theorem aw_by3 : BL [[114, 49], [97], [48], [52, 55, 48, 48]] := by
  intro w hw; simp only [List.mem_cons, List.not_mem_nil, or_false] at hw; rcases hw with rfl | rfl | rfl | rfl <;> exact by_lit _ rfl
theorem aw_cw : CW awC := by
  refine ⟨⟨by_lit _ rfl, by decide⟩, ⟨?_, ?_, by decide⟩, ⟨by_lit _ rfl, by decide⟩, by decide, by decide, fun z hz => by cases hz⟩
  · intro w hw; simp only [awC, List.mem_cons, List.not_mem_nil, or_false] at hw; rcases hw with rfl | rfl <;> exact by_lit _ rfl
  · intro w hw; simp only [awC, List.mem_cons, List.not_mem_nil, or_false] at hw; rcases hw with rfl | rfl <;> decide
theorem awake_ax : PCall Tryz.prog 29 [] (.v (.bool true)) := by
  refine pcall_of fun s => ?_
  have p1 := read_ax aw1 aw_by1.1 aw_by1.2 (by decide)
  rw [aw_r] at p1
  have p2 := write_ax awC aw_cw
  rw [aw_w] at p2
  have p3 := readM_ax aw2 aw_by2.1 aw_by2.2 (by decide)
  rw [aw_m] at p3
  have p4 := texts_ax [[114, 49], [97], [48], [52, 55, 48, 48]] [[114, 49], [97], [48], [52, 55, 48, 48]] aw_by3 aw_by3 (by decide) (by decide)
  rw [decide_eq_true rfl] at p4
  have f5 : eqOk Tryz.prog 24 = true := by kernel_rfl
  unfold RA CA SV TV NV IV iv at p1
  unfold PA CA SV TV NV IV iv at p2
  unfold RB MA SV TV NV iv at p3
  unfold TV at p4
  refine acall_of Tryz.func29 rfl rfl (by simp [Tryz.ntmps29]) ?_; rw [Tryz.ntmps29, Tryz.results29]
  refine go rTI ?_
  refine aw_reg fun K hK => ?_; refine rn rTI ?_; refine cont_box s.nx _ 1 (St.push_same _ _) p1 fun s1 n1 g1 => ?_; refine rn rTI ?_; refine hK _ _ ?_; clear hK K
  have m1 : s1.nx = s.nx + 1 := n1
  have r1 : ∀ j, j < s.nx → s1.get j = s.get j := fun j hj => (g1 j (by omega)).trans (St.push_ne s _ _ (by omega))
  clear n1 g1
  refine go rTI ?_
  refine aw_reg fun K hK => ?_; refine rn rTI ?_; refine cont_pure p2 ?_; refine rn rTI ?_; refine hK _ _ ?_; clear hK K
  refine go rTI ?_
  refine aw_reg fun K hK => ?_; refine rn rTI ?_; refine cont_box (s1.nx + 1) _ 1 (St.push_same _ _) p3 fun s2 n2 g2 => ?_; refine rn rTI ?_; refine hK _ _ ?_; clear hK K
  have m2 : s2.nx = s1.nx + 2 := n2
  have r2 : ∀ j, j < s.nx → s2.get j = s.get j := fun j hj => by
    rw [g2 j (by omega), St.push_ne _ _ _ (show j ≠ s1.nx + 1 by omega), St.set_ne _ _ _ _ (by omega), St.push_ne s1 _ _ (by omega)]
    exact r1 j hj
  have c2 : s2.get s1.nx = some [.v (.string (bs awC.name)), .sl awC.nodes.length (SL awC.nodes), .v (.string (bs awC.ref)), .v (.int .i64 awC.value.1), .v (.int .i64 awC.value.2), .v (.int .i64 awC.wave.kind), .sl awC.wave.vals.length (NC awC.wave.vals), .sl awC.wave.steps.length (IL awC.wave.steps)] := by
    rw [g2 s1.nx (by omega), St.push_ne _ _ _ (show s1.nx ≠ s1.nx + 1 by omega)]
    exact St.set_same _ _ _
  clear n2 g2
  refine go rTI ?_
  have v1 : awC.value.1 = 47 := rfl
  have v2 : awC.value.2 = 2 := rfl
  have v3 : (awM.g.length : Int) = 2 := rfl
  have v4 : awM.kind = 100 := rfl
  refine aw_reg fun K hK => ?_
  refine rn (cj rTI (cj @c2 (cj @f5 (cj @v1 (cj @v2 (cj @v3 @v4)))))) ?_
  refine cont_box2 (s2.nx + 1) _ 1 (St.push_same _ _) (tv_idf [[114, 49], [97], [48], [52, 55, 48, 48]]) p4 fun s3 n3 g3 => ?_
  have c3 : s3.get s2.nx = some [.v (.string (bs awM.name)), .v (.int .u8 awM.kind), .sl awM.g.length (NC awM.g), .sl awM.v.length (NC awM.v)] := (g3 _ (by omega)).trans ((St.push_ne _ _ _ (show s2.nx ≠ s2.nx + 1 by omega)).trans (St.set_same _ _ _))
  refine rn (cj rTI (cj @c3 (cj @v3 @v4))) ?_
  refine hK _ _ ?_
  clear hK K
  refine go rTI ?_
  intro i hi
  rw [g3 i (by omega), St.push_ne _ _ _ (show i ≠ s2.nx + 1 by omega), St.set_ne _ _ _ _ (by omega), St.push_ne s2 _ _ (by omega)]
  exact r2 i hi
end Go.Proofs.YtfjelkjlfcafgaaGreatDoor.CardU
end
section
/- The abstract machine, part Q: boxes lent to a call that only reads. -/
set_option linter.unusedVariables false
set_option linter.unusedSimpArgs false
namespace Go.Proofs.YtfjelkjlfcafgaaGreatDoor.Ax
open Go Go.RowKit
variable {P : Program}

inductive Lies (s : St) : AV → AV → Prop
  | same (z : AV) (h : idf z = true) : Lies s z z
  | nil (cap : Nat) : Lies s (.v (.slice none 0 cap)) (.sl 0 [])
  | own (id off n sz : Nat) (c c' : List AV) (hi : s.get id = some c) (hl : c'.length = n * sz) (hc : off + n * sz ≤ c.length) (h : ∀ (j : Nat) (z z' : AV), (c.drop off)[j]? = some z → c'[j]? = some z' → Lies s z z') : Lies s (.own id off n sz) (.sl n c')
  | ptr (id off : Nat) (c c' : List AV) (hi : s.get id = some c) (hl : c'.length = (c.drop off).length) (h : ∀ (j : Nat) (z z' : AV), (c.drop off)[j]? = some z → c'[j]? = some z' → Lies s z z') : Lies s (.ptr id off) (.rf c')
  | sl (n : Nat) (c c' : List AV) (hl : c'.length = c.length) (h : ∀ (j : Nat) (z z' : AV), c[j]? = some z → c'[j]? = some z' → Lies s z z') : Lies s (.sl n c) (.sl n c')
  | rf (c c' : List AV) (hl : c'.length = c.length) (h : ∀ (j : Nat) (z z' : AV), c[j]? = some z → c'[j]? = some z' → Lies s z z') : Lies s (.rf c) (.rf c')
  | ag (c c' : List AV) (hl : c'.length = c.length) (h : ∀ (j : Nat) (z z' : AV), c[j]? = some z → c'[j]? = some z' → Lies s z z') : Lies s (.ag c) (.ag c')
def LiesL (s : St) (c c' : List AV) : Prop := c'.length = c.length ∧ ∀ (j : Nat) (z z' : AV), c[j]? = some z → c'[j]? = some z' → Lies s z z'
theorem LiesL.nil (s : St) : LiesL s [] [] := ⟨rfl, fun j z z' h => by cases h⟩
theorem LiesL.cons {s : St} {z z' : AV} {c c' : List AV} (h : Lies s z z') (g : LiesL s c c') : LiesL s (z :: c) (z' :: c') := ⟨by rw [List.length_cons, List.length_cons, g.1], fun j x y hx hy => by
  cases j with
  | zero => simp at hx hy; subst hx hy; exact h
  | succ j => exact g.2 j x y (by simpa using hx) (by simpa using hy)⟩
theorem LiesL.app {s : St} {a b a' b' : List AV} (h : LiesL s a a') (g : LiesL s b b') : LiesL s (a ++ b) (a' ++ b') := ⟨by rw [List.length_append, List.length_append, h.1, g.1], fun j x y hx hy => by
  by_cases hj : j < a.length
  · rw [List.getElem?_append_left hj] at hx
    rw [List.getElem?_append_left (by rw [h.1]; exact hj)] at hy
    exact h.2 j x y hx hy
  · rw [List.getElem?_append_right (by omega)] at hx
    rw [List.getElem?_append_right (by rw [h.1]; omega), h.1] at hy
    exact g.2 _ x y hx hy⟩
theorem Lies.whole {s : St} {id n sz : Nat} {c c' : List AV} (hi : s.get id = some c) (hl : c.length = n * sz) (h : LiesL s c c') : Lies s (.own id 0 n sz) (.sl n c') :=
  .own id 0 n sz c c' hi (h.1.trans hl) (by omega) fun j z z' hz hz' => h.2 j z z' (by simpa using hz) hz'
theorem Lies.box {s : St} {id : Nat} {c c' : List AV} (hi : s.get id = some c) (h : LiesL s c c') : Lies s (.ptr id 0) (.rf c') :=
  .ptr id 0 c c' hi h.1 fun j z z' hz hz' => h.2 j z z' (by simpa using hz) hz'
theorem Lies.agg {s : St} {c c' : List AV} (h : LiesL s c c') : Lies s (.ag c) (.ag c') := .ag c c' h.1 h.2
def still (w : World) (h : Tabs w.cell?) : KW := ⟨fun _ => ⟨0, 0, 0⟩, 0, w.cell?, h⟩
end Go.Proofs.YtfjelkjlfcafgaaGreatDoor.Ax
end
section
/- Data at a call's beginning, read as the abstract machine reads it. -/
namespace Go.Proofs.YtfjelkjlfcafgaaGreatDoor.Open
open Go Go.RowKit Go.Proofs.YtfjelkjlfcafgaaGreatDoor.Ax
set_option linter.unusedVariables false
variable {H : Type} {enc : TypeId × Value → H} {P : Program} {w : World} {base : Nat} {spare : Nat → Bool} {held : Bool}
def Op (enc : TypeId × Value → H) (P : Program) (w : World) (base : Nat) (spare : Nat → Bool) (held : Bool) (t : TypeId) (D : Type) (cell : D → List AV) : Prop :=
  ∀ (ht : Tabs w.cell?) fuel cs x, DataW.trod enc P w base spare held fuel t cs = some x → (∀ n ∈ x.1.weights P t, n ≤ reachBytes) → ∃ d, RelL (still w ht) (cell d) cs
def OpF (enc : TypeId × Value → H) (P : Program) (w : World) (base : Nat) (spare : Nat → Bool) (held : Bool) (N : Nat) (fs : List Field) (o : Nat) (D : Type) (cell : D → List AV) : Prop :=
  ∀ (ht : Tabs w.cell?) fuel (cs : List Value) xs, cs.length = N → (fs.mapM fun f => DataW.trod enc P w base spare held fuel f.type ((cs.drop f.offset).take (P.cellsOf f.type))) = some xs → (∀ n ∈ DataW.weightsEach P (fs.map (·.type)) (xs.map (·.1)), n ≤ reachBytes) → ∃ d, RelL (still w ht) (cell d) (cs.drop o)
theorem relL_one {k : KW} {z : AV} {u : Value} (h : Rel k z u) : RelL k [z] [u] := ⟨rfl, fun j y x hy hx => by
  cases j with
  | zero => simp at hy hx; subst hy hx; exact h
  | succ j => simp at hy⟩
theorem op_int {t : TypeId} {k : IntKind} (ht : P.underlying t = some (.int k)) : Op enc P w base spare held t { n : Int // (Lit.int k n).wf = true } (fun n => [.v (.int k n.1)]) := by
  intro hT fuel cs x h _
  obtain ⟨n, rfl, h1, h2⟩ := DataW.trod_int ht h
  exact ⟨⟨n, h2⟩, relL_one (.v _)⟩
theorem op_str {t : TypeId} (ht : P.underlying t = some .string) : Op enc P w base spare held t { b : ByteArray // b.size ≤ reachBytes } (fun b => [.v (.string b.1)]) := by
  intro hT fuel cs x h hw
  cases fuel with
  | zero => simp [DataW.trod] at h
  | succ fuel =>
    match cs with
    | [] => simp [DataW.trod, ht] at h
    | _ :: _ :: _ => simp [DataW.trod, ht] at h
    | [y] =>
      cases y
      case string b =>
        simp only [DataW.trod, ht] at h
        split at h
        · rename_i hb
          injection h with h
          subst h
          exact ⟨⟨b, hw _ (by simp [DataW.weights])⟩, relL_one (.v _)⟩
        · cases h
      all_goals simp [DataW.trod, ht] at h
theorem mapM_each {α β : Type} {f : α → Option β} : ∀ {l : List α} {ys : List β}, l.mapM f = some ys → ∀ a ∈ l, ∃ b ∈ ys, f a = some b
  | [], ys, h, a, ha => by cases ha
  | x :: l, ys, h, a, ha => by
    rw [List.mapM_cons] at h
    cases hx : f x with
    | none => rw [hx] at h; cases h
    | some b =>
      rw [hx] at h
      cases hl : l.mapM f with
      | none => rw [hl] at h; cases h
      | some bs =>
        rw [hl] at h
        injection h with h
        subst h
        rcases List.mem_cons.1 ha with rfl | ha
        · exact ⟨b, List.mem_cons_self .., hx⟩
        · obtain ⟨c, hc, e⟩ := mapM_each hl a ha
          exact ⟨c, List.mem_cons_of_mem _ hc, e⟩
theorem mapM_len {α β : Type} {f : α → Option β} : ∀ {l : List α} {ys : List β}, l.mapM f = some ys → ys.length = l.length
  | [], ys, h => by simp at h; subst h; rfl
  | x :: l, ys, h => by
    rw [List.mapM_cons] at h
    cases hx : f x with
    | none => rw [hx] at h; cases h
    | some b =>
      rw [hx] at h
      cases hl : l.mapM f with
      | none => rw [hl] at h; cases h
      | some bs =>
        rw [hl] at h
        injection h with h
        subst h
        show bs.length + 1 = l.length + 1
        rw [mapM_len hl]
theorem weights_all {H : Type} {P : Program} {e : TypeId} : ∀ {l : List (DataW H)} {d : DataW H} {n : Nat}, d ∈ l → n ∈ d.weights P e → n ∈ DataW.weightsAll P e l
  | [], d, n, h, _ => by cases h
  | x :: l, d, n, h, hn => by
    rw [DataW.weightsAll, List.mem_append]
    rcases List.mem_cons.1 h with rfl | h
    · exact .inl hn
    · exact .inr (weights_all h hn)
theorem cells_reads {a : Addr} {n : Nat} {cs : List Value} (h : w.cells? base a n = some cs) : cs.length = n ∧ ∀ j, j < n → w.cell? (a.add j) = cs[j]? := by
  unfold World.cells? at h
  split at h
  · have key : ∀ (l : List Nat) (cs : List Value), l.mapM (fun i => w.cell? (a.add i)) = some cs → cs.length = l.length ∧ ∀ j, j < l.length → w.cell? (a.add (l.getD j 0)) = cs[j]? := by
      intro l
      induction l with
      | nil => intro cs h; simp at h; subst h; exact ⟨rfl, fun j hj => absurd hj (Nat.not_lt_zero _)⟩
      | cons x l ih =>
        intro cs h
        rw [List.mapM_cons] at h
        cases hx : w.cell? (a.add x) with
        | none => rw [hx] at h; cases h
        | some b =>
          rw [hx] at h
          cases hl : l.mapM (fun i => w.cell? (a.add i)) with
          | none => rw [hl] at h; cases h
          | some bs =>
            rw [hl] at h
            injection h with h
            subst h
            obtain ⟨h1, h2⟩ := ih bs hl
            refine ⟨by simp [h1], fun j hj => ?_⟩
            cases j with
            | zero => simpa using hx
            | succ j => simpa using h2 j (by simpa using hj)
    obtain ⟨h1, h2⟩ := key _ _ h
    rw [List.length_range] at h1 h2
    refine ⟨h1, fun j hj => ?_⟩
    have := h2 j hj
    rwa [List.getD_eq_getElem?_getD, List.getElem?_range hj, Option.getD_some] at this
  · cases h
theorem add_add (a : Addr) (i j : Nat) : (a.add i).add j = a.add (i + j) := by
  unfold Addr.add
  by_cases hi : i = 0
  · subst hi; simp
  · by_cases hj : j = 0
    · subst hj; simp
    · rw [if_neg hi, if_neg hj, if_neg (by omega)]
      simp only
      congr 1
      omega
theorem op_slice {t e : TypeId} {D : Type} {cell : D → List AV} (ht : P.underlying t = some (.slice e)) (he : Op enc P w base spare held e D cell) : Op enc P w base spare held t { l : List D // l.length * P.bytesOf e ≤ reachBytes } (fun l => [.sl l.1.length (l.1.flatMap cell)]) := by
  intro hT fuel cs x h hw
  cases fuel with
  | zero => simp [DataW.trod] at h
  | succ fuel =>
    match cs with
    | [] => simp [DataW.trod, ht] at h
    | _ :: _ :: _ => simp [DataW.trod, ht] at h
    | [y] =>
      cases y
      case slice a len cap =>
        cases a with
        | none =>
          match len, cap with
          | 0, 0 => exact ⟨⟨[], by rw [List.length_nil, Nat.zero_mul]; exact Nat.zero_le _⟩, relL_one (.sl0 none 0)⟩
          | 0, _ + 1 => simp [DataW.trod, ht] at h
          | _ + 1, _ => simp [DataW.trod, ht] at h
        | some a =>
          simp only [DataW.trod, ht] at h
          split at h
          · rename_i hb
            cases hm : (List.range len).mapM (fun i => (w.cells? base (a.add (i * P.cellsOf e)) (P.cellsOf e)).bind (DataW.trod enc P w base spare held fuel e)) with
            | none => rw [hm] at h; cases h
            | some elems =>
              have each := mapM_each hm
              have hlen := mapM_len hm
              rw [List.length_range] at hlen
              rw [hm] at h
              simp only [Option.bind_some] at h
              have hws : (∀ y ∈ elems, ∀ n ∈ y.1.weights P e, n ≤ reachBytes) ∧ elems.length * P.bytesOf e ≤ reachBytes := by
                cases hr : (if spare a.block = true then (List.range (cap - len)).mapM fun j => (w.cells? base (a.add ((len + j) * P.cellsOf e)) (P.cellsOf e)).bind (DataW.trod enc P w base spare held fuel e) else some []) with
                | none => rw [hr] at h; cases h
                | some rest =>
                  rw [hr, Option.map_some] at h
                  injection h with h
                  subst h
                  simp only [DataW.weights, ht] at hw
                  refine ⟨fun y hy n hn => hw n (List.mem_cons_of_mem _ (List.mem_append_left _ (weights_all (List.mem_map_of_mem hy) hn))), ?_⟩
                  have h0 := hw _ (List.mem_cons_self ..)
                  rw [List.length_map] at h0
                  refine Nat.le_trans ?_ h0
                  exact Nat.mul_le_mul_right _ (Nat.le_add_right _ _)
              have hstep : ∀ i, i < len → ∃ (d : D) (ci : List Value), RelL (still w hT) (cell d) ci ∧ ci.length = P.cellsOf e ∧ ∀ j, j < P.cellsOf e → w.cell? ((a.add (i * P.cellsOf e)).add j) = ci[j]? := by
                intro i hi
                obtain ⟨b, hbm, hb⟩ := each i (List.mem_range.2 hi)
                cases hc : w.cells? base (a.add (i * P.cellsOf e)) (P.cellsOf e) with
                | none => rw [hc] at hb; cases hb
                | some ci =>
                  rw [hc] at hb
                  obtain ⟨d, hd⟩ := he hT fuel ci b hb (hws.1 b hbm)
                  obtain ⟨q1, q2⟩ := cells_reads hc
                  exact ⟨d, ci, hd, q1, q2⟩
              have hall : ∀ n, n ≤ len → ∃ (l : List D) (us : List Value), l.length = n ∧ RelL (still w hT) (l.flatMap cell) us ∧ us.length = n * P.cellsOf e ∧ ∀ j, j < n * P.cellsOf e → w.cell? (a.add j) = us[j]? := by
                intro n
                induction n with
                | zero => intro _; exact ⟨[], [], rfl, ⟨rfl, fun j z u hz => by cases hz⟩, by simp, fun j hj => by omega⟩
                | succ n ih =>
                  intro hn
                  obtain ⟨l, us, h1, h2, h3, h4⟩ := ih (by omega)
                  obtain ⟨d, ci, g1, g2, g3⟩ := hstep n (by omega)
                  refine ⟨l ++ [d], us ++ ci, by simp [h1], by rw [List.flatMap_append]; simpa using h2.append g1, by rw [List.length_append, h3, g2, Nat.succ_mul], fun j hj => ?_⟩
                  by_cases hj2 : j < n * P.cellsOf e
                  · rw [List.getElem?_append_left (by omega)]
                    exact h4 j hj2
                  · rw [List.getElem?_append_right (by omega), h3]
                    rw [Nat.succ_mul] at hj
                    have := g3 (j - n * P.cellsOf e) (by omega)
                    rw [← this]
                    rw [add_add]
                    congr 2
                    omega
              obtain ⟨l, us, h1, h2, h3, h4⟩ := hall len (Nat.le_refl _)
              refine ⟨⟨l, by rw [h1, ← hlen]; exact hws.2⟩, relL_one ?_⟩
              show Rel _ (.sl l.length (l.flatMap cell)) _
              rw [h1]
              refine .sl len cap _ a (fun j => us.getD j undef) hb.2.1 (fun j hj => ?_) (fun j z hz => ?_)
              · show w.cell? _ = _
                have hj' : j < us.length := by rw [h2.1]; exact hj
                rw [h4 j (by omega), List.getD_eq_getElem?_getD, List.getElem?_eq_getElem hj']
                rfl
              · have hj' : j < us.length := by rw [h2.1]; exact (List.getElem?_eq_some_iff.1 hz).1
                refine h2.2 j z _ hz ?_
                rw [List.getD_eq_getElem?_getD, List.getElem?_eq_getElem hj']
                rfl
          · cases h
      all_goals simp [DataW.trod, ht] at h
theorem opf_nil {N : Nat} : OpF enc P w base spare held N [] N Unit (fun _ => []) := by
  intro hT fuel cs xs hl h _
  rw [List.drop_of_length_le (by omega)]
  exact ⟨(), rfl, fun j z u hz => by cases hz⟩
theorem opf_cons {N o n : Nat} {f : Field} {fs : List Field} {D D' : Type} {cell : D → List AV} {cell' : D' → List AV} (ho : f.offset = o) (hn : P.cellsOf f.type = n) (h1 : Op enc P w base spare held f.type D cell) (h2 : OpF enc P w base spare held N fs (o + n) D' cell') :
    OpF enc P w base spare held N (f :: fs) o (D × D') (fun d => cell d.1 ++ cell' d.2) := by
  intro hT fuel cs xs hl h hw
  rw [List.mapM_cons] at h
  rw [ho, hn] at h
  cases hx : DataW.trod enc P w base spare held fuel f.type ((cs.drop o).take n) with
  | none => rw [hx] at h; cases h
  | some b =>
    rw [hx] at h
    cases hm : fs.mapM (fun f => DataW.trod enc P w base spare held fuel f.type ((cs.drop f.offset).take (P.cellsOf f.type))) with
    | none => rw [hm] at h; cases h
    | some bs =>
      rw [hm] at h
      injection h with h
      subst h
      simp only [List.map_cons, DataW.weightsEach, List.mem_append] at hw
      obtain ⟨d, hd⟩ := h1 hT fuel _ _ hx fun n hn => hw n (.inl hn)
      obtain ⟨d', hd'⟩ := h2 hT fuel cs bs hl hm fun n hn => hw n (.inr hn)
      refine ⟨(d, d'), ?_⟩
      have e : cs.drop o = (cs.drop o).take n ++ cs.drop (o + n) := by rw [← List.drop_drop, List.take_append_drop]
      rw [e]
      exact hd.append hd'
theorem op_struct {t : TypeId} {fs : Array Field} {D : Type} {cell : D → List AV} (ht : P.underlying t = some (.struct fs)) (hf : OpF enc P w base spare held (P.cellsOf t) fs.toList 0 D cell) : Op enc P w base spare held t D cell := by
  intro hT fuel cs x h hw
  cases fuel with
  | zero => simp [DataW.trod] at h
  | succ fuel =>
    simp only [DataW.trod, ht] at h
    split at h
    · rename_i hl
      cases hm : fs.toList.mapM (fun f => DataW.trod enc P w base spare held fuel f.type ((cs.drop f.offset).take (P.cellsOf f.type))) with
      | none => rw [hm] at h; cases h
      | some bs =>
        rw [hm, Option.map_some] at h
        injection h with h
        subst h
        simp only [DataW.weights, ht] at hw
        obtain ⟨d, hd⟩ := hf hT fuel cs bs hl hm hw
        exact ⟨d, by simpa using hd⟩
    · cases h
theorem Op.map {t : TypeId} {D E : Type} {cell : D → List AV} {cell' : E → List AV} (h : Op enc P w base spare held t D cell) (f : D → E) (hf : ∀ d, cell' (f d) = cell d) : Op enc P w base spare held t E cell' := by
  intro hT fuel cs x hx hw
  obtain ⟨d, hd⟩ := h hT fuel cs x hx hw
  exact ⟨f d, by rw [hf]; exact hd⟩
end Go.Proofs.YtfjelkjlfcafgaaGreatDoor.Open
end
section
/- Cards, models and words at a call's beginning, read as the abstract machine reads them. -/
namespace Go.Proofs.YtfjelkjlfcafgaaGreatDoor.CardX
open Go Go.RowKit Go.Proofs.YtfjelkjlfcafgaaGreatDoor.Ax Go.Proofs.YtfjelkjlfcafgaaGreatDoor.Open Go.Proofs.YtfjelkjlfcafgaaGreatDoor.NumT Go.Proofs.YtfjelkjlfcafgaaGreatDoor.CardS Go.Proofs.YtfjelkjlfcafgaaGreatDoor.CardA Go.Proofs.YtfjelkjlfcafgaaGreatDoor.CardB Go.Proofs.YtfjelkjlfcafgaaGreatDoor.CardE Go.Proofs.YtfjelkjlfcafgaaGreatDoor.CardG Go.Proofs.YtfjelkjlfcafgaaGreatDoor.CardI Go.Proofs.YtfjelkjlfcafgaaGreatDoor.CardK Go.Proofs.YtfjelkjlfcafgaaGreatDoor.CardL
set_option linter.unusedVariables false
set_option maxRecDepth 100000
variable {H : Type} {enc : TypeId × Value → H} {w : World} {base : Nat} {spare : Nat → Bool} {held : Bool}
def lsB (b : ByteArray) : Str := b.data.toList.map UInt8.toNat
theorem lsB_len (b : ByteArray) : (lsB b).length = b.size := by unfold lsB; rw [List.length_map]; rfl
theorem lsB_bs (b : ByteArray) : bs (lsB b) = b := (bs_all b).symm
abbrev StrD := { s : Str // By s ∧ s.length ≤ reachBytes }
abbrev WordsD := { l : List Str // (∀ w ∈ l, By w ∧ w.length ≤ reachBytes) ∧ l.length * 16 ≤ reachBytes }
abbrev IntD := { z : Int // -9223372036854775808 ≤ z ∧ z ≤ 9223372036854775807 }
abbrev NumsD := { l : List Num // l.length * 16 ≤ reachBytes }
abbrev IntsD := { l : List Int // (∀ z ∈ l, -9223372036854775808 ≤ z ∧ z ≤ 9223372036854775807) ∧ l.length * 8 ≤ reachBytes }
theorem flat1 {α β : Type} (f : α → β) (l : List α) : l.flatMap (fun z => [f z]) = l.map f := by
  induction l with
  | nil => rfl
  | cons a l ih => rw [List.flatMap_cons, ih]; rfl
theorem op_s : Open.Op enc Tryz.prog w base spare held 9 StrD (fun s => [SV s.1]) :=
  (op_str Tryz.underlying9).map (fun b => ⟨lsB b.1, by_all b.1, by rw [lsB_len]; exact b.2⟩) fun b => by
    show [AV.v (.string (bs (lsB b.1)))] = _
    rw [lsB_bs]
theorem op_i {t : TypeId} (ht : Tryz.prog.underlying t = some (.int .i64)) : Open.Op enc Tryz.prog w base spare held t IntD (fun z => [iv z.1]) :=
  (op_int ht).map (fun n => ⟨n.1, by simpa [IntKind.min, IntKind.max, IntKind.signed, IntKind.bits] using Go.Extern.FmtText.int_bounds n.2⟩) fun n => rfl
theorem op_n : Open.Op enc Tryz.prog w base spare held 24 Num (fun n => [iv n.1, iv n.2]) :=
  (op_struct Tryz.underlying24 (opf_cons rfl (n := 1) (by kernel_rfl) (op_i Tryz.underlying2) (opf_cons rfl (n := 1) (by kernel_rfl) (op_i Tryz.underlying3) (by
    have := opf_nil (enc := enc) (P := Tryz.prog) (w := w) (base := base) (spare := spare) (held := held) (N := Tryz.prog.cellsOf 24)
    rw [show Tryz.prog.cellsOf 24 = 0 + 1 + 1 from by kernel_rfl] at this ⊢
    exact this)))).map (fun d => (d.1.1, d.2.1.1)) fun d => rfl
theorem op_ns : Open.Op enc Tryz.prog w base spare held 62 NumsD (fun l => [NV l.1]) :=
  (op_slice Tryz.underlying62 op_n).map (fun l => ⟨l.1, Nat.le_trans (Nat.le_of_eq (congrArg (l.1.length * ·) (show 16 = Tryz.prog.bytesOf 24 from by kernel_rfl))) l.2⟩) fun l => rfl
theorem op_is : Open.Op enc Tryz.prog w base spare held 63 IntsD (fun l => [IV l.1]) :=
  (op_slice Tryz.underlying63 (op_i Tryz.underlying3)).map (fun l => ⟨l.1.map (·.1), fun z hz => by
    obtain ⟨x, _, rfl⟩ := List.mem_map.1 hz
    exact x.2, by rw [List.length_map]; exact Nat.le_trans (Nat.le_of_eq (congrArg (l.1.length * ·) (show 8 = Tryz.prog.bytesOf 3 from by kernel_rfl))) l.2⟩) fun l => by
    show [AV.sl (l.1.map (·.1)).length ((l.1.map (·.1)).map iv)] = [AV.sl l.1.length (l.1.flatMap fun z => [iv z.1])]
    rw [List.length_map, List.map_map, flat1]
    rfl
theorem op_ws : Open.Op enc Tryz.prog w base spare held 36 WordsD (fun l => [TV l.1]) :=
  (op_slice Tryz.underlying36 op_s).map (fun l => ⟨l.1.map (·.1), fun z hz => by
    obtain ⟨x, _, rfl⟩ := List.mem_map.1 hz
    exact x.2, by rw [List.length_map]; exact Nat.le_trans (Nat.le_of_eq (congrArg (l.1.length * ·) (show 16 = Tryz.prog.bytesOf 9 from by kernel_rfl))) l.2⟩) fun l => by
    show [AV.sl (l.1.map (·.1)).length ((l.1.map (·.1)).map SV)] = [AV.sl l.1.length (l.1.flatMap fun z => [SV z.1])]
    rw [List.length_map, List.map_map, flat1]
    rfl
abbrev CrdD := { c : Crd // (By c.name ∧ c.name.length ≤ reachBytes) ∧ ((∀ w ∈ c.nodes, By w ∧ w.length ≤ reachBytes) ∧ c.nodes.length * 16 ≤ reachBytes) ∧ (By c.ref ∧ c.ref.length ≤ reachBytes) ∧ c.wave.vals.length * 16 ≤ reachBytes ∧ ((∀ z ∈ c.wave.steps, -9223372036854775808 ≤ z ∧ z ≤ 9223372036854775807) ∧ c.wave.steps.length * 8 ≤ reachBytes) }
def crdL (c : Crd) : List AV := [SV c.name, TV c.nodes, SV c.ref, iv c.value.1, iv c.value.2, iv c.wave.kind, NV c.wave.vals, IV c.wave.steps]
abbrev WvD := { v : Wv // v.vals.length * 16 ≤ reachBytes ∧ ((∀ z ∈ v.steps, -9223372036854775808 ≤ z ∧ z ≤ 9223372036854775807) ∧ v.steps.length * 8 ≤ reachBytes) }
theorem op_v : Open.Op enc Tryz.prog w base spare held 65 WvD (fun v => [iv v.1.kind, NV v.1.vals, IV v.1.steps]) :=
  (op_struct Tryz.underlying65 (opf_cons rfl (n := 1) (by kernel_rfl) (op_i Tryz.underlying3) (opf_cons rfl (n := 1) (by kernel_rfl) op_ns (opf_cons rfl (n := 1) (by kernel_rfl) op_is (by
    have := opf_nil (enc := enc) (P := Tryz.prog) (w := w) (base := base) (spare := spare) (held := held) (N := Tryz.prog.cellsOf 65)
    rw [show Tryz.prog.cellsOf 65 = 0 + 1 + 1 + 1 from by kernel_rfl] at this ⊢
    exact this))))).map (fun d => ⟨⟨d.1.1, d.2.1.1, d.2.2.1.1⟩, d.2.1.2, d.2.2.1.2⟩) fun d => rfl
theorem op_c : Open.Op enc Tryz.prog w base spare held 67 CrdD (fun c => crdL c.1) :=
  (op_struct Tryz.underlying67 (opf_cons rfl (n := 1) (by kernel_rfl) op_s (opf_cons rfl (n := 1) (by kernel_rfl) op_ws (opf_cons rfl (n := 1) (by kernel_rfl) op_s (opf_cons rfl (n := 2) (by kernel_rfl) op_n (opf_cons rfl (n := 3) (by kernel_rfl) op_v (by
    have := opf_nil (enc := enc) (P := Tryz.prog) (w := w) (base := base) (spare := spare) (held := held) (N := Tryz.prog.cellsOf 67)
    rw [show Tryz.prog.cellsOf 67 = 0 + 1 + 1 + 1 + 2 + 3 from by kernel_rfl] at this ⊢
    exact this))))))).map (fun d => ⟨⟨d.1.1, d.2.1.1, d.2.2.1.1, d.2.2.2.1, d.2.2.2.2.1.1⟩, d.1.2, d.2.1.2, d.2.2.1.2, d.2.2.2.2.1.2⟩) fun d => rfl
theorem arg_cells {k : KW} {zs : List AV} {cs : Array Value} (h : RelL k zs (Value.agg cs).cells.toList) : Rel k (.ag zs) (.agg cs) := by
  have e : (Value.agg cs).cells = cs := rfl
  rw [e] at h
  have := Rel.ag zs cs.toList h.1 fun j z u hz hu => h.2 j z u hz hu
  simpa using this
theorem sized_arg {P : Program} {ts : List TypeId} {ds : List (DataW H)} (h : (DataW.weightsEach P ts ds).all (· ≤ reachBytes) = true) {j : Nat} {t : TypeId} {d : DataW H} (ht : ts[j]? = some t) (hd : ds[j]? = some d) : ∀ n ∈ d.weights P t, n ≤ reachBytes := fun n hn => by
  have := List.all_eq_true.1 h _ (DataW.weights_mem_each ht hd n hn)
  simpa using this
theorem struct_shape {P : Program} {W : World} {r : Reach} {b0 : Nat} {t : TypeId} {fs : Array Field} {v : Value} (ht : P.underlying t = some (.struct fs)) (h : Value.okWide P W r b0 t v) : ∃ cs, v = .agg cs := by
  simp only [Value.okWide, ht] at h
  obtain ⟨cs, h1, _⟩ := h
  exact ⟨cs, h1⟩
end Go.Proofs.YtfjelkjlfcafgaaGreatDoor.CardX
end
section
/- The law CardBack, walked: what is written is read as the same card, and what is read is written, and read as the same. -/
namespace Go.Proofs.YtfjelkjlfcafgaaGreatDoor.CardAD
open Go Go.RowKit Go.Proofs.YtfjelkjlfcafgaaGreatDoor.Ax Go.Proofs.YtfjelkjlfcafgaaGreatDoor.Ti Go.Proofs.YtfjelkjlfcafgaaGreatDoor.NumS Go.Proofs.YtfjelkjlfcafgaaGreatDoor.NumT Go.Proofs.YtfjelkjlfcafgaaGreatDoor.CardS Go.Proofs.YtfjelkjlfcafgaaGreatDoor.CardP Go.Proofs.YtfjelkjlfcafgaaGreatDoor.CardA Go.Proofs.YtfjelkjlfcafgaaGreatDoor.CardB Go.Proofs.YtfjelkjlfcafgaaGreatDoor.CardC Go.Proofs.YtfjelkjlfcafgaaGreatDoor.CardD Go.Proofs.YtfjelkjlfcafgaaGreatDoor.CardE Go.Proofs.YtfjelkjlfcafgaaGreatDoor.CardF Go.Proofs.YtfjelkjlfcafgaaGreatDoor.CardG Go.Proofs.YtfjelkjlfcafgaaGreatDoor.CardH Go.Proofs.YtfjelkjlfcafgaaGreatDoor.CardI Go.Proofs.YtfjelkjlfcafgaaGreatDoor.CardJ Go.Proofs.YtfjelkjlfcafgaaGreatDoor.CardK Go.Proofs.YtfjelkjlfcafgaaGreatDoor.CardR Go.Proofs.YtfjelkjlfcafgaaGreatDoor.CardU Go.Proofs.YtfjelkjlfcafgaaGreatDoor.CardAC
open Go.Proofs.YtfjelkjlfcafgaaGreatDoor.NumA (NM)
set_option linter.unusedSimpArgs false
set_option linter.unusedVariables false
set_option maxRecDepth 4000
set_option maxHeartbeats 2000000
theorem words_len (c : Crd) (h : rightC c = true) (hz : ∀ z ∈ c.wave.steps, -9223372036854775808 ≤ z ∧ z ≤ 9223372036854775807) : (wordsC c).length ≤ 1000 := by
  obtain ⟨h1, h2, h3, h4⟩ := nodes_le c h
  rw [wordsC_eq, List.length_append, List.length_append, List.length_append, List.length_cons]
  have e1 : (refW c (c.name.getD 0 0) (shapeK (c.name.getD 0 0))).length ≤ 1 := by unfold refW; split <;> simp
  have e2 : (valW c (c.name.getD 0 0) (shapeK (c.name.getD 0 0))).length ≤ 1 := by unfold valW; split <;> simp
  have e3 : (wavW c (c.name.getD 0 0)).length ≤ 65 := by
    unfold wavW
    split
    · have := (waveT_by c.wave hz).1
      omega
    · exact Nat.zero_le _
  omega
theorem reach_eq : reachBytes = 140737488351232 := rfl
theorem crd_cw {c : Crd} (h : (By c.name ∧ c.name.length ≤ reachBytes) ∧ ((∀ w ∈ c.nodes, By w ∧ w.length ≤ reachBytes) ∧ c.nodes.length * 16 ≤ reachBytes) ∧ (By c.ref ∧ c.ref.length ≤ reachBytes) ∧ c.wave.vals.length * 16 ≤ reachBytes ∧ ((∀ z ∈ c.wave.steps, -9223372036854775808 ≤ z ∧ z ≤ 9223372036854775807) ∧ c.wave.steps.length * 8 ≤ reachBytes)) :
    CW c ∧ c.wave.vals.length ≤ 281474976710656 ∧ c.wave.steps.length ≤ 281474976710656 ∧ c.nodes.length * 16 ≤ 140737488351232 := by
  obtain ⟨h1, h2, h3, h4, h5⟩ := h
  have hn : ∀ w ∈ c.nodes, w.length ≤ 281474976710656 := fun w hw => Nat.le_trans (h2.1 w hw).2 (by rw [reach_eq]; decide)
  have h2b := h2.2
  have h5b := h5.2
  rw [reach_eq] at h1 h2b h3 h4 h5b
  exact ⟨⟨⟨h1.1, by omega⟩, ⟨fun w hw => (h2.1 w hw).1, hn, by omega⟩, ⟨h3.1, by omega⟩, by omega, by omega, h5.1⟩, by omega, by omega, h2b⟩
end Go.Proofs.YtfjelkjlfcafgaaGreatDoor.CardAD
end
section
/- The law CardWrites, walked: Write is the document's; so are names and devices. -/
namespace Go.Proofs.YtfjelkjlfcafgaaGreatDoor.CardAI
open Go Go.RowKit Go.Proofs.YtfjelkjlfcafgaaGreatDoor.Ax Go.Proofs.YtfjelkjlfcafgaaGreatDoor.Ti Go.Proofs.YtfjelkjlfcafgaaGreatDoor.NumS Go.Proofs.YtfjelkjlfcafgaaGreatDoor.NumT Go.Proofs.YtfjelkjlfcafgaaGreatDoor.CardS Go.Proofs.YtfjelkjlfcafgaaGreatDoor.CardP Go.Proofs.YtfjelkjlfcafgaaGreatDoor.CardA Go.Proofs.YtfjelkjlfcafgaaGreatDoor.CardB Go.Proofs.YtfjelkjlfcafgaaGreatDoor.CardC Go.Proofs.YtfjelkjlfcafgaaGreatDoor.CardD Go.Proofs.YtfjelkjlfcafgaaGreatDoor.CardE Go.Proofs.YtfjelkjlfcafgaaGreatDoor.CardF Go.Proofs.YtfjelkjlfcafgaaGreatDoor.CardG Go.Proofs.YtfjelkjlfcafgaaGreatDoor.CardH Go.Proofs.YtfjelkjlfcafgaaGreatDoor.CardI Go.Proofs.YtfjelkjlfcafgaaGreatDoor.CardJ Go.Proofs.YtfjelkjlfcafgaaGreatDoor.CardK Go.Proofs.YtfjelkjlfcafgaaGreatDoor.CardR Go.Proofs.YtfjelkjlfcafgaaGreatDoor.CardU Go.Proofs.YtfjelkjlfcafgaaGreatDoor.CardAC Go.Proofs.YtfjelkjlfcafgaaGreatDoor.CardAE Go.Proofs.YtfjelkjlfcafgaaGreatDoor.CardAF
set_option linter.unusedSimpArgs false
set_option linter.unusedVariables false
set_option maxRecDepth 4000
set_option maxHeartbeats 2000000
theorem rTI : type_of% (cj @ti3 (cj @ti4 (cj @ti9 (cj @ti5 (cj @ti2 (cj @ti36 (cj @ti63 (cj @ti62 (cj @ti24 (cj @ti65 (cj @ti67 (cj @ti25 (cj @Nat.zero_add (cj @tz0 (cj @tz1 (cj @tz3 (cj @Nat.mul_one @Int.toNat_natCast))))))))))))))))) := cj @ti3 (cj @ti4 (cj @ti9 (cj @ti5 (cj @ti2 (cj @ti36 (cj @ti63 (cj @ti62 (cj @ti24 (cj @ti65 (cj @ti67 (cj @ti25 (cj @Nat.zero_add (cj @tz0 (cj @tz1 (cj @tz3 (cj @Nat.mul_one @Int.toNat_natCast))))))))))))))))
def inA (c : Crd) : AV := .ag [SV c.name, CardAE.LT c.nodes, SV c.ref, iv c.value.1, iv c.value.2, iv c.wave.kind, NV c.wave.vals, IV c.wave.steps]
theorem in_le (c : Crd) (j : Nat) (x y : AV) (hx : [inA c][j]? = some x) (hy : [CA c][j]? = some y) : Le x y := by
  match j with
  | 0 =>
    simp at hx hy; subst hx hy
    refine Le.ag rfl fun j x y hx hy => ?_
    match j with
    | 0 => simp at hx hy; subst hx hy; exact Le.refl _
    | 1 => simp at hx hy; subst hx hy; exact lt_le _
    | 2 => simp at hx hy; subst hx hy; exact Le.refl _
    | 3 => simp at hx hy; subst hx hy; exact Le.refl _
    | 4 => simp at hx hy; subst hx hy; exact Le.refl _
    | 5 => simp at hx hy; subst hx hy; exact Le.refl _
    | 6 => simp at hx hy; subst hx hy; exact Le.refl _
    | 7 => simp at hx hy; subst hx hy; exact Le.refl _
    | j + 8 => simp at hx
  | j + 1 => simp at hx
theorem writes_ax (c : Crd) (t : Str) (hc : CW c) (hv : c.wave.vals.length ≤ 281474976710656) (hs : c.wave.steps.length ≤ 281474976710656) (hn : (c.nodes.length + 1) * 16 ≤ 140737488355328) (ht : By t) (htl : t.length ≤ 281474976710656) :
    PCall Tryz.prog 8 [CA c, SV t] (.v (.bool true)) := by
  refine pcall_of fun s => ?_
  have p0 := lent_ax c.nodes hn
  have p1 := write_ax c hc
  have p2 := writeR_ax c hc hv hs
  have hb : BL (writeC c).1 ∧ (writeC c).1.length ≤ 9223372036854775806 := by
    rw [write_right]
    split
    · rename_i h
      have := CardAD.words_len c h hc.z
      exact ⟨fun w hw => (words_by c hc w hw).1, by show (wordsC c).length ≤ _; omega⟩
    · exact ⟨fun w hw => (by cases hw), Nat.zero_le _⟩
  have p3 := texts_ax (writeC c).1 (writeC c).1 hb.1 hb.1 (by have := hb.2; omega) (by have := hb.2; omega)
  rw [decide_eq_true rfl] at p3
  have p4 := whole_ax c.nodes hc.d.1 (by omega)
  have p5 := cname_ax t ht (by omega)
  have p6 := rname_ax t ht (by omega)
  have p7 := dev_ax t ht (by omega)
  have p8 := rdev_ax t ht (by omega)
  have hi := in_le c
  generalize writeC c = U at *
  obtain ⟨l, el⟩ := U
  generalize isName t = bn at *
  generalize isDev t = bd at *
  unfold CardAE.LT TV at p0 p4
  unfold inA CardAE.LT at hi
  unfold PA CA SV TV NV IV iv at p1 p2
  unfold CA SV TV NV IV iv at hi
  unfold TV at p3
  unfold SV at p5 p6 p7 p8
  simp only at p1 p2 p3
  unfold CA SV TV NV IV iv
  refine acall_of Tryz.func8 rfl rfl (by simp [Tryz.ntmps8]) ?_; rw [Tryz.ntmps8, Tryz.results8]
  refine go rTI ?_
  refine aw_reg fun K hK => ?_; refine rn rTI ?_; refine cont_pure awake_ax ?_; refine rn rTI ?_; refine hK _ _ ?_; clear hK K
  refine ifs ?_ ?_ <;> first | exact nope | intro hb
  refine go rTI ?_
  refine aw_reg fun K hK => ?_; refine rn rTI ?_; refine cont_pure p0 ?_; refine rn rTI ?_; refine hK _ _ ?_; clear hK K
  refine go rTI ?_
  refine aw_reg fun K hK => ?_; refine rn rTI ?_; refine acall_args (zs' := [.ag [.v (.string (bs c.name)), .sl c.nodes.length (SL c.nodes), .v (.string (bs c.ref)), .v (.int .i64 c.value.1), .v (.int .i64 c.value.2), .v (.int .i64 c.wave.kind), .sl c.wave.vals.length (NC c.wave.vals), .sl c.wave.steps.length (IL c.wave.steps)]]) rfl hi ?_; refine cont_pure p1 ?_; refine rn rTI ?_; refine hK _ _ ?_; clear hK K
  refine go rTI ?_
  refine aw_reg fun K hK => ?_; refine rn rTI ?_; refine cont_pure p2 ?_; refine rn rTI ?_; refine hK _ _ ?_; clear hK K
  refine go rTI ?_
  refine aw_reg fun K hK => ?_
  refine rn rTI ?_
  refine cont_pure p3 ?_
  refine rn rTI ?_
  refine cont_pure p4 ?_
  refine rn rTI ?_
  refine cont_pure p5 ?_
  refine rn rTI ?_
  refine cont_pure p6 ?_
  refine rn rTI ?_
  refine cont_pure p7 ?_
  refine rn rTI ?_
  refine cont_pure p8 ?_
  refine rn rTI ?_
  refine hK _ _ ?_
  clear hK K
  refine go rTI ?_
  exact fun i hi => by rw [if_neg (by omega), if_neg (by omega)]
theorem writes_in (c : CardX.CrdD) (b : ByteArray) (hb : b.size ≤ 140737488351232) : PCall Tryz.prog 8 [.ag (CardX.crdL c.1), .v (.string b)] (.v (.bool true)) := by
  obtain ⟨c, h⟩ := c
  obtain ⟨h1, h2, h3, h4⟩ := CardAD.crd_cw h
  have hw := writes_ax c (CardX.lsB b) h1 h2 h3 (by omega) (by_all b) (by rw [CardX.lsB_len]; omega)
  unfold SV at hw
  rw [CardX.lsB_bs] at hw
  exact hw
end Go.Proofs.YtfjelkjlfcafgaaGreatDoor.CardAI
end
