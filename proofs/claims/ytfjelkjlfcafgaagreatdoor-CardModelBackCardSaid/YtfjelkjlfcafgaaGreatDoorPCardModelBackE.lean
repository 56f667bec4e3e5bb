/- A part of the proof. -/
import Derived.Test.YtfjelkjlfcafgaaGreatDoorPCardModelBackD
import Derived.WalkKit
import Derived.ProofKit
import Derived.WideShapes
import Derived.KernelRfl
import Derived.Stop.FmtTextKit
import Derived.Lib.LaidTab
import Derived.DataReads
import Derived.SizedLaws
section
/- Cards: Read. -/
namespace Go.Proofs.YtfjelkjlfcafgaaGreatDoor.CardI
open Go Go.RowKit Go.Proofs.YtfjelkjlfcafgaaGreatDoor.Ax Go.Proofs.YtfjelkjlfcafgaaGreatDoor.Ti Go.Proofs.YtfjelkjlfcafgaaGreatDoor.NumS Go.Proofs.YtfjelkjlfcafgaaGreatDoor.NumT Go.Proofs.YtfjelkjlfcafgaaGreatDoor.CardS Go.Proofs.YtfjelkjlfcafgaaGreatDoor.CardP Go.Proofs.YtfjelkjlfcafgaaGreatDoor.CardA Go.Proofs.YtfjelkjlfcafgaaGreatDoor.CardB Go.Proofs.YtfjelkjlfcafgaaGreatDoor.CardC Go.Proofs.YtfjelkjlfcafgaaGreatDoor.CardD Go.Proofs.YtfjelkjlfcafgaaGreatDoor.CardE Go.Proofs.YtfjelkjlfcafgaaGreatDoor.CardF Go.Proofs.YtfjelkjlfcafgaaGreatDoor.CardG Go.Proofs.YtfjelkjlfcafgaaGreatDoor.CardH
open Go.Proofs.YtfjelkjlfcafgaaGreatDoor.NumA (NM)
set_option linter.unusedSimpArgs false
set_option linter.unusedVariables false
set_option maxRecDepth 4000
set_option maxHeartbeats 2000000
theorem rTI : type_of% (cj @ti3 (cj @ti4 (cj @ti9 (cj @ti5 (cj @ti2 (cj @ti36 (cj @ti63 (cj @ti62 (cj @ti24 (cj @ti65 (cj @ti67 (cj @ti25 (cj @ti144 (cj @ti146 (cj @Nat.zero_add (cj @tz0 (cj @tz1 (cj @tz3 (cj @Nat.mul_one @Int.toNat_natCast))))))))))))))))))) := cj @ti3 (cj @ti4 (cj @ti9 (cj @ti5 (cj @ti2 (cj @ti36 (cj @ti63 (cj @ti62 (cj @ti24 (cj @ti65 (cj @ti67 (cj @ti25 (cj @ti144 (cj @ti146 (cj @Nat.zero_add (cj @tz0 (cj @tz1 (cj @tz3 (cj @Nat.mul_one @Int.toNat_natCast))))))))))))))))))
def CA (c : Crd) : AV := .ag [SV c.name, TV c.nodes, SV c.ref, iv c.value.1, iv c.value.2, iv c.wave.kind, NV c.wave.vals, IV c.wave.steps]
def RA (p : Crd × Int) : AV := .tp [CA p.1, iv p.2]
theorem ca_idf (c : Crd) : idf (CA c) = true := by
  show (true && (idf (TV c.nodes) && (true && (true && (true && (true && (idf.idfL (NC c.wave.vals) && (idf.idfL (IL c.wave.steps) && true)))))))) = true
  rw [nc_idf, il_idf, tv_idf]
  rfl
theorem ra_idf (p : Crd × Int) : idf (RA p) = true := by
  show (idf (CA p.1) && (true && true)) = true
  rw [ca_idf]
  rfl
def cz : List AV := [.v (.string ByteArray.empty), nilS, .v (.string ByteArray.empty), .v (.int .i64 0), .v (.int .i64 0), .v (.int .i64 0), nilS, nilS]
theorem ra_err (e : Int) : Le (.tp [.ag cz, .v (.int .i64 e)]) (RA (crd0, e)) := by
  refine Le.tp rfl fun j x y hx hy => ?_
  match j with
  | 0 =>
    simp at hx hy; subst hx hy
    refine Le.ag rfl fun j x y hx hy => ?_
    match j with
    | 0 => simp [cz] at hx hy; subst hx hy; exact Le.refl _
    | 1 => simp [cz, nilS] at hx hy; subst hx hy; exact Le.nil 0 0 rfl
    | 2 => simp [cz] at hx hy; subst hx hy; exact Le.refl _
    | 3 => simp [cz] at hx hy; subst hx hy; exact Le.refl _
    | 4 => simp [cz] at hx hy; subst hx hy; exact Le.refl _
    | 5 => simp [cz] at hx hy; subst hx hy; exact Le.refl _
    | 6 => simp [cz, nilS] at hx hy; subst hx hy; exact Le.nil 0 0 rfl
    | 7 => simp [cz, nilS] at hx hy; subst hx hy; exact Le.nil 0 0 rfl
    | j + 8 => simp [cz] at hx
  | 1 => simp at hx hy; subst hx hy; exact Le.refl _
  | j + 2 => simp at hx
theorem ra_le (c : Crd) (X Y : AV) (hX : Le X (NV c.wave.vals)) (hY : Le Y (IV c.wave.steps)) :
    Le (.tp [.ag [SV c.name, TV c.nodes, SV c.ref, .v (.int .i64 c.value.1), .v (.int .i64 c.value.2), .v (.int .i64 c.wave.kind), X, Y], .v (.int .i64 0)]) (RA (c, 0)) := by
  refine Le.tp rfl fun j x y hx hy => ?_
  match j with
  | 0 =>
    simp at hx hy; subst hx hy
    refine Le.ag rfl fun j x y hx hy => ?_
    match j with
    | 0 => simp at hx hy; subst hx hy; exact Le.refl _
    | 1 => simp at hx hy; subst hx hy; exact Le.refl _
    | 2 => simp at hx hy; subst hx hy; exact Le.refl _
    | 3 => simp at hx hy; subst hx hy; exact Le.refl _
    | 4 => simp at hx hy; subst hx hy; exact Le.refl _
    | 5 => simp at hx hy; subst hx hy; exact Le.refl _
    | 6 => simp at hx hy; subst hx hy; exact hX
    | 7 => simp at hx hy; subst hx hy; exact hY
    | j + 8 => simp at hx
  | 1 => simp at hx hy; subst hx hy; exact Le.refl _
  | j + 2 => simp at hx
theorem odds_len : ∀ (l : List Str), (odds l).length ≤ l.length
  | [] => Nat.le_refl _
  | [_] => Nat.zero_le _
  | _ :: b :: r => by
    show (b :: odds r).length ≤ _
    have := odds_len r
    rw [List.length_cons, List.length_cons, List.length_cons]
    omega
theorem evens_len : ∀ (l : List Str), (evens l).length ≤ l.length
  | [] => Nat.le_refl _
  | [_] => Nat.le_refl _
  | a :: _ :: r => by
    show (a :: evens r).length ≤ _
    have := evens_len r
    rw [List.length_cons, List.length_cons, List.length_cons]
    omega
theorem wave_len (ws : List Str) (e : Int) : (waveR ws e).1.vals.length ≤ ws.length + 1 ∧ (waveR ws e).1.steps.length ≤ ws.length := by
  cases ws with
  | nil => exact ⟨Nat.zero_le _, Nat.le_refl _⟩
  | cons k r =>
    have h1 := odds_len r
    have h2 := evens_len r
    unfold waveR
    simp only
    (repeat' split) <;> simp only [List.length_map, List.length_take, List.length_drop, List.length_cons, List.length_nil] <;> omega
structure CI (s s' : St) (c : List AV) : Prop where
  z : s'.get s.nx = some cz
  c : s'.get (s.nx + 1) = some c
  n : s.nx + 2 ≤ s'.nx
  fr : ∀ i, i < s.nx → s'.get i = s.get i
theorem ci_new (s : St) (z c : List AV) : CI s (((s.push cz).push z).set (s.nx + 1) c) c := by
  refine ⟨?_, St.set_same _ _ _, Nat.le_refl _, fun i hi => ?_⟩
  · rw [St.set_ne _ _ _ _ (by omega), St.push_ne (s.push cz) _ _ (by rw [St.nx_push]; omega)]
    exact St.push_same s cz
  · rw [St.set_ne _ _ _ _ (by omega), St.push_ne (s.push cz) _ _ (by rw [St.nx_push]; omega), St.push_ne s _ _ (by omega)]
structure CR (s s' : St) (b : Nat) (c : List AV) (ws : List Str) (e : Int) : Prop where
  z : s'.get s.nx = some cz
  c : s'.get (s.nx + 1) = some c
  r : s'.get b = some (rdr ws e)
  o : s.nx + 2 ≤ b ∧ b < s'.nx
  fr : ∀ i, i < s.nx → s'.get i = s.get i
theorem CR.of {s s' : St} {c : List AV} (h : CI s s' c) (ws : List Str) (e : Int) : CR s (s'.push (rdr ws e)) s'.nx c ws e := by
  have := h.n
  refine ⟨?_, ?_, St.push_same _ _, ⟨h.n, Nat.lt_succ_self _⟩, fun i hi => ?_⟩
  · rw [St.push_ne _ _ _ (by omega)]; exact h.z
  · rw [St.push_ne _ _ _ (by omega)]; exact h.c
  · rw [St.push_ne _ _ _ (by omega)]; exact h.fr i hi
theorem CR.upd {s s' : St} {b : Nat} {c : List AV} {ws : List Str} {e : Int} (h : CR s s' b c ws e) (ws2 : List Str) (e2 : Int) : CR s (s'.set b (rdr ws2 e2)) b c ws2 e2 := by
  have := h.o
  refine ⟨?_, ?_, St.set_same _ _ _, ⟨h.o.1, h.o.2⟩, fun i hi => ?_⟩
  · rw [St.set_ne _ _ _ _ (by omega)]; exact h.z
  · rw [St.set_ne _ _ _ _ (by omega)]; exact h.c
  · rw [St.set_ne _ _ _ _ (by omega)]; exact h.fr i hi
theorem CR.put {s s' : St} {b : Nat} {c : List AV} {ws : List Str} {e : Int} (h : CR s s' b c ws e) (c2 : List AV) : CR s (s'.set (s.nx + 1) c2) b c2 ws e := by
  have := h.o
  refine ⟨?_, St.set_same _ _ _, ?_, ⟨h.o.1, h.o.2⟩, fun i hi => ?_⟩
  · rw [St.set_ne _ _ _ _ (by omega)]; exact h.z
  · rw [St.set_ne _ _ _ _ (by omega)]; exact h.r
  · rw [St.set_ne _ _ _ _ (by omega)]; exact h.fr i hi
theorem shape_few (k : Nat) : (shapeK k).1 ≤ 4 := by unfold shapeK; (repeat' split) <;> decide
theorem counted_form (k : Nat) (w0 : Str) (r : List Str) (h : counted k (w0 :: r) = true) :
    (formOf k (r.length + 1)).1 + (if (formOf k (r.length + 1)).2.1 = true then 1 else 0) + (if (formOf k (r.length + 1)).2.2 = true then 1 else 0) ≤ r.length ∧ (formOf k (r.length + 1)).1 ≤ 8 ∧
    (srcC k = true → formOf k (r.length + 1) = (2, false, false) ∧ waveWords (r.drop 2) = true) := by
  unfold counted at h
  unfold formOf
  by_cases h1 : k = 120
  · rw [if_pos h1, decide_eq_true_eq, List.length_cons] at h
    rw [if_pos h1]
    refine ⟨by simp; omega, by simp; omega, fun hs => ?_⟩
    subst h1
    cases hs
  · rw [if_neg h1] at h
    rw [if_neg h1]
    by_cases h2 : k = 118 ∨ k = 105
    · rw [if_pos h2, Bool.and_eq_true, decide_eq_true_eq, List.length_cons] at h
      have hs : shapeK k = (2, false, false) := by rcases h2 with rfl | rfl <;> rfl
      rw [hs]
      exact ⟨by simp; omega, by decide, fun _ => ⟨rfl, h.2⟩⟩
    · rw [if_neg h2, decide_eq_true_eq, List.length_cons] at h
      have := shape_few k
      unfold want at h
      refine ⟨by omega, by omega, fun hs => ?_⟩
      unfold srcC at hs
      exact absurd (of_decide_eq_true hs) h2
theorem read_ax (ws : List Str) (hw : BL ws) (hwl : ∀ w ∈ ws, w.length ≤ 281474976710656) (hl : ws.length ≤ 10000) : PCall Tryz.prog 40 [TV ws] (RA (readC ws)) := by
  refine pcall_le fun s => ?_
  cases ws with
  | nil =>
    rw [show readC [] = (crd0, 70) from rfl]
    unfold TV
    refine acall_of Tryz.func40 rfl rfl (by simp [Tryz.ntmps40]) ?_; rw [Tryz.ntmps40, Tryz.results40]
    refine go rTI ?_
    refine ifs ?_ ?_ <;> first | exact nope | intro hb
    refine go rTI ?_
    exact ⟨ra_err 70, ra_idf _, fun i hi => if_neg (by omega)⟩
  | cons w0 r =>
    rw [show readC (w0 :: r) = readB w0 r (w0.getD 0 0) (formOf (w0.getD 0 0) (r.length + 1)) from rfl]
    have b0 : By w0 := hw w0 (List.mem_cons_self ..)
    have hd := dev_ax w0 b0 (by have := hwl w0 (List.mem_cons_self ..); omega)
    have hd0 : (SL (w0 :: r)).head? = some (.v (.string (bs w0))) := rfl
    have lS := bs_size w0
    have hg := bs_get w0 b0 0
    have hct := counted_ax (w0.getD 0 0) (w0 :: r) hw (by omega)
    have hz : (((r.length + 1 : Nat) : Int) == 0) = false := by simp; omega
    unfold TV SV at *
    rw [List.length_cons] at hct ⊢
    unfold readB
    cases hv : isDev w0 with
    | false =>
      rw [hv] at hd
      rw [Bool.false_and, if_neg Bool.false_ne_true]
      refine acall_of Tryz.func40 rfl rfl (by simp [Tryz.ntmps40]) ?_; rw [Tryz.ntmps40, Tryz.results40]
      refine go rTI ?_
      refine aw_reg fun K hK => ?_; refine rn (cj rTI (cj @hz @hd0)) ?_; refine cont_pure hd ?_; refine rn (cj rTI (cj @hz @hd0)) ?_; refine hK _ _ ?_; clear hK K
      refine ifs ?_ ?_ <;> first | exact nope | intro hb
      refine go rTI ?_
      exact ⟨ra_err 70, ra_idf _, fun i hi => if_neg (by omega)⟩
    | true =>
      rw [hv] at hd
      have hp : 0 < w0.length := name_pos w0 (by unfold isDev at hv; rw [Bool.and_eq_true] at hv; exact hv.1)
      cases hv2 : counted (w0.getD 0 0) (w0 :: r) with
      | false =>
        rw [hv2] at hct
        rw [Bool.and_false, if_neg Bool.false_ne_true]
        generalize w0.getD 0 0 = k at *
        refine acall_of Tryz.func40 rfl rfl (by simp [Tryz.ntmps40]) ?_; rw [Tryz.ntmps40, Tryz.results40]
        refine go rTI ?_
        refine aw_reg fun K hK => ?_; refine rn (cj rTI (cj @hz (cj @hd0 (cj @lS @hg)))) ?_; refine cont_pure hd ?_; refine rn (cj rTI (cj @hz (cj @hd0 (cj @lS @hg)))) ?_; refine cont_pure hct ?_; refine rn (cj rTI (cj @hz (cj @hd0 (cj @lS @hg)))) ?_; refine hK _ _ ?_; clear hK K
        refine ifs ?_ ?_ <;> first | exact nope | intro hb
        refine go rTI ?_
        exact ⟨ra_err 70, ra_idf _, fun i hi => if_neg (by omega)⟩
      | true =>
        rw [hv2] at hct
        rw [Bool.and_true, if_pos rfl]
        refine acall_of Tryz.func40 rfl rfl (by simp [Tryz.ntmps40]) ?_; rw [Tryz.ntmps40, Tryz.results40]
        refine go rTI ?_
        refine aw_reg fun K hK => ?_; refine rn (cj rTI (cj @hz (cj @hd0 (cj @lS @hg)))) ?_; refine cont_pure hd ?_; refine rn (cj rTI (cj @hz (cj @hd0 (cj @lS @hg)))) ?_; refine cont_pure hct ?_; refine rn (cj rTI (cj @hz (cj @hd0 (cj @lS @hg)))) ?_; refine hK _ _ ?_; clear hK K
        refine ifs ?_ ?_ <;> first | exact nope | intro hb
        refine go (cj rTI (cj @hd0 (cj @lS @hg))) ?_
        have hsh := shape_ax (w0.getD 0 0)
        unfold shapeV at hsh
        generalize w0.getD 0 0 = k at *
        refine aw_reg fun K hK => ?_; refine rn rTI ?_; refine cont_pure hsh ?_; refine rn rTI ?_; refine hK _ _ ?_; clear hK K
        refine go rTI ?_
        have hf : formOf k (r.length + 1) = if k = 120 then (r.length + 1 - 2, true, false) else shapeK k := rfl
        have h3 : k = 120 → 3 ≤ r.length + 1 := fun h => by
          unfold counted at hv2
          rw [if_pos h, decide_eq_true_eq] at hv2
          exact hv2.1
        have hcf := counted_form k w0 r hv2
        generalize formOf k (r.length + 1) = f at *
        obtain ⟨fa, fb, fc⟩ := f
        simp only at hcf
        refine aw_only (fun e' s' => e'.n = 151 ∧ e'.m 0 = .sl (r.length + 1) (SL (w0 :: r)) ∧ e'.m 2 = .ptr s.nx 0 ∧ e'.m 4 = .v (.int .u8 (k : Nat)) ∧ e'.m 5 = .v (.int .i64 (fa : Nat)) ∧ e'.m 6 = .v (.bool fb) ∧ e'.m 7 = .v (.bool fc) ∧ s' = s.push cz) ?_ ?_
        · by_cases hk : k = 120
          · rw [if_pos hk] at hf
            simp only [Prod.mk.injEq] at hf
            obtain ⟨rfl, rfl, rfl⟩ := hf
            subst hk
            have h4 := h3 rfl
            have e2 : ((r.length + 1 : Nat) : Int) - 2 = ((r.length + 1 - 2 : Nat) : Int) := by omega
            refine ifs ?_ ?_ <;> first | exact nope | intro hb
            refine go (cj rTI @e2) ?_
            (repeat' refine And.intro ?_ ?_) <;> first | exact rfl | exact fnz (cj rTI @e2) | skip
            all_goals (first | rfl | skip)
          · rw [if_neg hk] at hf
            rw [← hf] at hsh
            have hk2 : ¬ (k : Int) = 120 := by omega
            refine ifs ?_ ?_ <;> first | exact nope | intro hb
            refine go rTI ?_
            rw [← hf]
            exact ⟨rfl, rfl, rfl, rfl⟩
        · rintro e' s' ⟨h1, k0, k2, k4, k5, k6, k7, rfl⟩
          rw [then_normal]
          clear hsh hf h3 hd hct
          obtain ⟨c1, c2, c3⟩ := hcf
          have hcl3 := c1
          have hfa : fa ≤ r.length := by omega
          have hcl0 := clone_ax (r.take fa) (by rw [List.length_take]; omega)
          have htk : AV.sl fa ((SL r).take fa) = TV (r.take fa) := by
            unfold TV SL
            rw [← List.map_take, List.length_take, Nat.min_eq_left hfa]
          have hcl : PCall Tryz.prog 92 [AV.sl (fa + 1 - 1) ((SL r).take (fa + 1 - 1))] (.sl fa ((SL r).take fa)) := by
            rw [Nat.add_sub_cancel, htk]
            exact hcl0
          have hi1 : ((1 : Int) + (fa : Int)) = ((fa + 1 : Nat) : Int) := by omega
          have hdr : (SL (w0 :: r)).drop 1 = SL r := rfl
          refine aw_seq ?_
          refine aw_only (fun e2 s2 => e2.n = 151 ∧ e2.m 0 = .sl (r.length + 1) (SL (w0 :: r)) ∧ e2.m 2 = .ptr s.nx 0 ∧ e2.m 4 = .v (.int .u8 (k : Nat)) ∧ e2.m 5 = .v (.int .i64 (fa : Nat)) ∧ e2.m 6 = .v (.bool fb) ∧ e2.m 7 = .v (.bool fc) ∧ e2.m 8 = .ptr (s.nx + 1) 0 ∧ CI s s2 [.v (.string (bs w0)), .sl fa ((SL r).take fa), .v (.string ByteArray.empty), .v (.int .i64 0), .v (.int .i64 0), .v (.int .i64 0), nilS, nilS]) ?_ ?_
          · refine aw_drw (.take 0 (.take 1 (.take 2 (.take 3 (.take 4 (.take 5 (.take 6 (.two 7 (.take 8 (.one 9 (.one 10 (.done)))) 9 (.one 7 (.take 8 (.one 10 (.done)))))))))))) [] (by kernel_rfl) (by kernel_rfl) fun K hK => ?_; refine dr (cj rTI (cj @h1 (cj @k0 (cj @k5 (cj @hd0 (cj @hi1 @hdr)))))) ?_; refine ⟨cont_pure hcl ?_, cont_pure hcl ?_⟩; all_goals (refine dr (cj rTI (cj @h1 (cj @k0 (cj @k5 (cj @hd0 (cj @hi1 @hdr)))))) ?_; refine hK _ _ ⟨rfl, ?_, ?_, ?_, ?_, ?_, ?_, ?_, ?_, ?_⟩); all_goals (first | exact ci_new s _ _ | skip)
            all_goals (exact rn0 (cj @h1 (cj @k0 (cj @k2 (cj @k4 (cj @k5 (cj @k6 @k7)))))))
            all_goals trivial
          clear h1 k0 k2 k4 k5 k6 k7 hcl hcl0 hi1 hdr hd0 hg lS
          rintro e2 s2 ⟨h1, k0, k2, k4, k5, k6, k7, k8, hC⟩
          rw [then_normal]
          have gc := hC.c
          have gz : s2.get s.nx = some [.v (.string ByteArray.empty), .v (.slice none 0 0), .v (.string ByteArray.empty), .v (.int .i64 0), .v (.int .i64 0), .v (.int .i64 0), .v (.slice none 0 0), .v (.slice none 0 0)] := hC.z
          refine go (cj rTI (cj @h1 (cj @k8 @gc))) ?_
          refine aw_loop (fun m e3 s3 => ∃ j, m = fa - j ∧ j ≤ fa ∧ e3.n = 151 ∧ e3.m 0 = .sl (r.length + 1) (SL (w0 :: r)) ∧ e3.m 2 = .ptr s.nx 0 ∧ e3.m 4 = .v (.int .u8 (k : Nat)) ∧ e3.m 5 = .v (.int .i64 (fa : Nat)) ∧ e3.m 6 = .v (.bool fb) ∧ e3.m 7 = .v (.bool fc) ∧ e3.m 8 = .ptr (s.nx + 1) 0 ∧ e3.m 58 = .sl fa ((SL r).take fa) ∧ e3.m 59 = .v (.int .i64 (fa : Nat)) ∧ e3.m 60 = .v (.int .i64 (j : Nat)) ∧ ((r.take fa).take j).all isName = true ∧ s3 = s2) fa ?_ ?_
          · refine ⟨0, by omega, by omega, ?_⟩
            (repeat' refine And.intro ?_ ?_) <;> first | exact rfl | exact fnz (cj rTI (cj @h1 (cj @k0 (cj @k2 (cj @k4 (cj @k5 (cj @k6 (cj @k7 @k8)))))))) | skip
          · clear h1 k0 k2 k4 k5 k6 k7 k8
            rintro m e3 s3 ⟨j, rfl, hj, h1, k0, k2, k4, k5, k6, k7, k8, k58, k59, k60, ha, rfl⟩
            have hlt : (r.take fa).length = fa := by rw [List.length_take]; omega
            by_cases hj2 : j < fa
            · have f1 := hd_SL (r.take fa) j (by omega)
              rw [show SL (r.take fa) = (SL r).take fa from by unfold SL; rw [List.map_take]] at f1
              have hx : (r.take fa).getD j [] ∈ r := by
                rw [List.getD_eq_getElem?_getD, List.getElem?_eq_getElem (by omega)]
                exact List.mem_of_mem_take (List.getElem_mem _)
              have hnm := cname_ax ((r.take fa).getD j []) (hw _ (List.mem_cons_of_mem _ hx)) (by have := hwl _ (List.mem_cons_of_mem _ hx); omega)
              have ht := take_all isName (r.take fa) [] j (by omega) ha
              have hf := all_not isName (r.take fa) [] j (by omega)
              unfold SV at f1 hnm
              generalize (r.take fa).getD j [] = x at *
              refine go (cj rTI (cj @h1 (cj @k59 @k60))) ?_
              refine ifs ?_ ?_ <;> first | exact nope | intro hb
              refine aw_skip ?_
              refine go (cj rTI (cj @h1 (cj @k58 (cj @k60 @f1)))) ?_
              refine aw_reg fun K hK => ?_; refine rn rTI ?_; refine cont_pure hnm ?_; refine rn rTI ?_; refine hK _ _ ?_; clear hK K
              cases hc : isName x with
              | false =>
                rw [if_neg (by rw [hf hc]; exact Bool.false_ne_true)]
                refine ifs ?_ ?_ <;> first | exact nope | intro hb
                refine go (cj rTI (cj @h1 (cj @k2 @gz))) ?_
                exact ⟨ra_err 71, ra_idf _, fun i hi => by rw [if_neg (by omega)]; exact hC.fr i hi⟩
              | true =>
                rw [hc] at ht
                refine ifs ?_ ?_ <;> first | exact nope | intro hb
                refine go (cj rTI (cj @h1 @k60)) ?_
                simp only [block_normal, loop_normal]
                refine ⟨fa - (j + 1), by omega, j + 1, rfl, by omega, ?_, ?_, ?_, ?_, ?_, ?_, ?_, ?_, ?_, ?_, ?_, ht, trivial⟩
                all_goals ((first | refine rn (cj rTI (cj @h1 (cj @k0 (cj @k2 (cj @k4 (cj @k5 (cj @k6 (cj @k7 (cj @k8 (cj @k58 (cj @k59 @k60))))))))))) ?_ | exact rn0 (cj rTI (cj @h1 (cj @k0 (cj @k2 (cj @k4 (cj @k5 (cj @k6 (cj @k7 (cj @k8 (cj @k58 (cj @k59 @k60)))))))))))))
                all_goals (first | rfl | trivial)
            · obtain rfl : fa = j := by omega
              rw [List.take_of_length_le (by omega)] at ha
              rw [if_pos ha]
              refine go (cj rTI (cj @h1 (cj @k59 @k60))) ?_
              refine ifs ?_ ?_ <;> first | exact nope | intro hb
              clear hj hj2 k58 k59 k60 gc gz c1
              have htd : AV.sl (r.length + 1 - (1 + (fa : Int)).toNat) (((SL (w0 :: r)).drop (1 + (fa : Int)).toNat).take (r.length + 1 - (1 + (fa : Int)).toNat)) = TV (r.drop fa) := by
                have := TV_drop (w0 :: r) (fa + 1)
                rw [List.drop_succ_cons] at this
                rw [show (1 + (fa : Int)).toNat = fa + 1 by omega]
                exact this
              have hsrc : srcC k = true → fb = false ∧ fc = false ∧ waveWords (r.drop fa) = true := fun h => by
                obtain ⟨q1, q2⟩ := c3 h
                simp only [Prod.mk.injEq] at q1
                obtain ⟨rfl, rfl, rfl⟩ := q1
                exact ⟨rfl, rfl, q2⟩
              have hN : (SL r).take fa = SL (r.take fa) := by unfold SL; rw [List.map_take]
              have hNl : (r.take fa).length = fa := by rw [List.length_take]; omega
              have hbd : BL (r.drop fa) := fun w h => hw w (List.mem_cons_of_mem _ (List.mem_of_mem_drop h))
              have hbl : ∀ w ∈ r.drop fa, w.length ≤ 281474976710656 := fun w h => hwl w (List.mem_cons_of_mem _ (List.mem_of_mem_drop h))
              have hDl : (r.drop fa).length = r.length - fa := List.length_drop
              have hDn : (if fb = true then 1 else 0) + (if fc = true then 1 else 0) ≤ (r.drop fa).length := by rw [hDl]; omega
              have hDm : (r.drop fa).length ≤ 10000 := by rw [hDl]; rw [List.length_cons] at hl; omega
              have hR := CR.of hC (r.drop fa) 0
              unfold badRef errC wvC errV valC refC restC
              simp only
              rw [hN] at hR
              unfold rdr iv TV at hR
              unfold TV at htd
              refine go (cj rTI (cj @h1 (cj @k0 (cj @k5 (cj @k6 @htd))))) ?_
              clear htd hC
              generalize r.drop fa = D at *
              generalize r.take fa = N at *
              rw [then_normal]
              have hNN : AV.sl fa (SL N) = TV N := by unfold TV; rw [hNl]
              clear htk hlt hN hNl hDl
              generalize s3.push [AV.sl D.length (SL D), AV.v (.int .i64 0)] = s4 at *
              generalize s3.nx = b at *
              obtain ⟨ob1, ob2⟩ := hR.o
              have ob3 : s.nx + 1 ≠ b := by omega
              have ob4 : s.nx ≠ b := by omega
              generalize hrf : (if fb = true then D.headD [] else []) = rf
              generalize hD2 : (if fb = true then D.drop 1 else D) = D2
              generalize hbad : (fb && (!isName rf || decide (k = 102 ∨ k = 104) && decide (rf.getD 0 0 ≠ 118))) = bad
              refine aw_way (fun e4 s5 => e4.n = 151 ∧ e4.m 2 = .ptr s.nx 0 ∧ e4.m 4 = .v (.int .u8 (k : Nat)) ∧ e4.m 7 = .v (.bool fc) ∧ e4.m 8 = .ptr (s.nx + 1) 0 ∧ e4.m 11 = .ptr b 0 ∧ bad = false ∧ CR s s5 b [.v (.string (bs w0)), .sl fa (SL N), .v (.string (bs rf)), .v (.int .i64 0), .v (.int .i64 0), .v (.int .i64 0), nilS, nilS] D2 0) ?_ ?_
              · cases fb with
                | false =>
                  rw [if_neg Bool.false_ne_true] at hrf hD2
                  subst hrf hD2
                  refine ifs ?_ ?_ <;> first | exact nope | intro hb
                  refine aw_skip ?_
                  refine .inl ⟨rfl, ?_, ?_, ?_, ?_, ?_, ?_, hbad.symm, hR⟩
                  all_goals (exact rn0 (cj rTI (cj @h1 (cj @k2 (cj @k4 (cj @k7 @k8))))))
                  all_goals trivial
                | true =>
                  rw [if_pos rfl] at hrf hD2
                  rw [if_pos rfl] at hDn
                  match D, hDn with
                  | [], q => simp at q
                  | w :: D', hDn =>
                    have hwB : By w := hbd w (List.mem_cons_self ..)
                    have hnx := next_ax s4 b w D' 0 hR.r ob2 (by rw [List.length_cons] at hDm; omega)
                    have hnm := cname_ax w hwB (by have := hbl w (List.mem_cons_self ..); omega)
                    have gc := hR.c
                    have lS := bs_size w
                    have hg := bs_get w hwB 0
                    rw [show (w :: D').headD [] = w from rfl] at hrf
                    rw [show (w :: D').drop 1 = D' from rfl] at hD2
                    subst hrf hD2
                    have hR2 := (hR.upd D' 0).put [.v (.string (bs w0)), .sl fa (SL N), .v (.string (bs w)), .v (.int .i64 0), .v (.int .i64 0), .v (.int .i64 0), nilS, nilS]
                    have gz := hR.z
                    unfold cz at gz
                    unfold rdr iv TV at hnx hR2
                    unfold SV at hnx hnm
                    unfold nilS at *
                    rw [Bool.true_and] at hbad
                    cases hn : isName w with
                    | false =>
                      rw [hn, Bool.not_false, Bool.true_or] at hbad
                      rw [hn] at hnm
                      subst hbad
                      rw [if_pos rfl]
                      refine ifs ?_ ?_ <;> first | exact nope | intro hb
                      refine aw_seq ?_
                      refine aw_reg fun K hK => ?_; refine rn (cj rTI (cj @k8 @gc)) ?_; refine cont_go hnx ?_; rintro _ s5 ⟨rfl, rfl⟩; refine rn (cj rTI (cj @k8 @gc)) ?_; refine hK _ _ ?_; clear hK K
                      refine go (cj rTI (cj @k8 @gc)) ?_
                      refine aw_reg fun K hK => ?_; refine rn (cj rTI (cj @k4 (cj @k8 (cj @ob3 (cj @ob4 @gc))))) ?_; refine cont_pure hnm ?_; refine rn (cj rTI (cj @k4 (cj @k8 (cj @ob3 (cj @ob4 @gc))))) ?_; refine hK _ _ ?_; clear hK K
                      refine ifs ?_ ?_ <;> first | exact nope | intro hb
                      refine go (cj rTI (cj @h1 (cj @k2 (cj @k8 (cj @ob3 (cj @ob4 (cj @gc @gz))))))) ?_
                      exact .inr ⟨ra_err 71, ra_idf _, fun i hi => by rw [if_neg (by omega), if_neg (by omega), if_neg (by omega)]; exact hR.fr i hi⟩
                    | true =>
                      rw [hn, Bool.not_true, Bool.false_or] at hbad
                      rw [hn] at hnm
                      have hp2 := name_pos w hn
                      have hw1 : w.getD 0 0 < 256 := by_at w hwB 0 hp2
                      by_cases q1 : k = 102 ∨ k = 104
                      · rw [decide_eq_true q1, Bool.true_and] at hbad
                        by_cases q2 : w.getD 0 0 = 118
                        · have q3 : ((w.getD 0 0 : Nat) : Int) = 118 := by omega
                          rw [q2] at hbad
                          rcases q1 with rfl | rfl
                          · refine ifs ?_ ?_ <;> first | exact nope | intro hb
                            refine aw_seq ?_
                            refine aw_reg fun K hK => ?_; refine rn (cj rTI (cj @k8 @gc)) ?_; refine cont_go hnx ?_; rintro _ s5 ⟨rfl, rfl⟩; refine rn (cj rTI (cj @k8 @gc)) ?_; refine hK _ _ ?_; clear hK K
                            refine go (cj rTI (cj @k8 @gc)) ?_
                            refine aw_reg fun K hK => ?_; refine rn (cj rTI (cj @k4 (cj @k8 (cj @ob3 (cj @ob4 (cj @gc (cj @lS (cj @hg @q3)))))))) ?_; refine cont_pure hnm ?_; refine rn (cj rTI (cj @k4 (cj @k8 (cj @ob3 (cj @ob4 (cj @gc (cj @lS (cj @hg @q3)))))))) ?_; refine hK _ _ ?_; clear hK K
                            refine ifs ?_ ?_ <;> first | exact nope | intro hb
                            refine aw_skip ?_
                            refine .inl ⟨rfl, ?_, ?_, ?_, ?_, ?_, ?_, hbad.symm, hR2⟩
                            all_goals (exact rn0 (cj rTI (cj @h1 (cj @k2 (cj @k4 (cj @k7 @k8))))))
                            all_goals trivial
                          · refine ifs ?_ ?_ <;> first | exact nope | intro hb
                            refine aw_seq ?_
                            refine aw_reg fun K hK => ?_; refine rn (cj rTI (cj @k8 @gc)) ?_; refine cont_go hnx ?_; rintro _ s5 ⟨rfl, rfl⟩; refine rn (cj rTI (cj @k8 @gc)) ?_; refine hK _ _ ?_; clear hK K
                            refine go (cj rTI (cj @k8 @gc)) ?_
                            refine aw_reg fun K hK => ?_; refine rn (cj rTI (cj @k4 (cj @k8 (cj @ob3 (cj @ob4 (cj @gc (cj @lS (cj @hg @q3)))))))) ?_; refine cont_pure hnm ?_; refine rn (cj rTI (cj @k4 (cj @k8 (cj @ob3 (cj @ob4 (cj @gc (cj @lS (cj @hg @q3)))))))) ?_; refine hK _ _ ?_; clear hK K
                            refine ifs ?_ ?_ <;> first | exact nope | intro hb
                            refine aw_skip ?_
                            refine .inl ⟨rfl, ?_, ?_, ?_, ?_, ?_, ?_, hbad.symm, hR2⟩
                            all_goals (exact rn0 (cj rTI (cj @h1 (cj @k2 (cj @k4 (cj @k7 @k8))))))
                            all_goals trivial
                        · have q3 : ¬ ((w.getD 0 0 : Nat) : Int) = 118 := by omega
                          rw [decide_eq_true q2] at hbad
                          subst hbad
                          rw [if_pos rfl]
                          rcases q1 with rfl | rfl
                          · refine ifs ?_ ?_ <;> first | exact nope | intro hb
                            refine aw_seq ?_
                            refine aw_reg fun K hK => ?_; refine rn (cj rTI (cj @k8 @gc)) ?_; refine cont_go hnx ?_; rintro _ s5 ⟨rfl, rfl⟩; refine rn (cj rTI (cj @k8 @gc)) ?_; refine hK _ _ ?_; clear hK K
                            refine go (cj rTI (cj @k8 @gc)) ?_
                            refine aw_reg fun K hK => ?_; refine rn (cj rTI (cj @k4 (cj @k8 (cj @ob3 (cj @ob4 (cj @gc (cj @lS (cj @hg @q3)))))))) ?_; refine cont_pure hnm ?_; refine rn (cj rTI (cj @k4 (cj @k8 (cj @ob3 (cj @ob4 (cj @gc (cj @lS (cj @hg @q3)))))))) ?_; refine hK _ _ ?_; clear hK K
                            refine ifs ?_ ?_ <;> first | exact nope | intro hb
                            refine go (cj rTI (cj @h1 (cj @k2 (cj @k8 (cj @ob3 (cj @ob4 (cj @gc @gz))))))) ?_
                            exact .inr ⟨ra_err 71, ra_idf _, fun i hi => by rw [if_neg (by omega), if_neg (by omega), if_neg (by omega)]; exact hR.fr i hi⟩
                          · refine ifs ?_ ?_ <;> first | exact nope | intro hb
                            refine aw_seq ?_
                            refine aw_reg fun K hK => ?_; refine rn (cj rTI (cj @k8 @gc)) ?_; refine cont_go hnx ?_; rintro _ s5 ⟨rfl, rfl⟩; refine rn (cj rTI (cj @k8 @gc)) ?_; refine hK _ _ ?_; clear hK K
                            refine go (cj rTI (cj @k8 @gc)) ?_
                            refine aw_reg fun K hK => ?_; refine rn (cj rTI (cj @k4 (cj @k8 (cj @ob3 (cj @ob4 (cj @gc (cj @lS (cj @hg @q3)))))))) ?_; refine cont_pure hnm ?_; refine rn (cj rTI (cj @k4 (cj @k8 (cj @ob3 (cj @ob4 (cj @gc (cj @lS (cj @hg @q3)))))))) ?_; refine hK _ _ ?_; clear hK K
                            refine ifs ?_ ?_ <;> first | exact nope | intro hb
                            refine go (cj rTI (cj @h1 (cj @k2 (cj @k8 (cj @ob3 (cj @ob4 (cj @gc @gz))))))) ?_
                            exact .inr ⟨ra_err 71, ra_idf _, fun i hi => by rw [if_neg (by omega), if_neg (by omega), if_neg (by omega)]; exact hR.fr i hi⟩
                      · rw [decide_eq_false q1, Bool.false_and] at hbad
                        have q3 : ¬ (k : Int) = 102 := by omega
                        have q4 : ¬ (k : Int) = 104 := by omega
                        refine ifs ?_ ?_ <;> first | exact nope | intro hb
                        refine aw_seq ?_
                        refine aw_reg fun K hK => ?_; refine rn (cj rTI (cj @k8 @gc)) ?_; refine cont_go hnx ?_; rintro _ s5 ⟨rfl, rfl⟩; refine rn (cj rTI (cj @k8 @gc)) ?_; refine hK _ _ ?_; clear hK K
                        refine go (cj rTI (cj @k8 @gc)) ?_
                        refine aw_reg fun K hK => ?_; refine rn (cj rTI (cj @k4 (cj @k8 (cj @ob3 (cj @ob4 (cj @gc (cj @q3 @q4))))))) ?_; refine cont_pure hnm ?_; refine rn (cj rTI (cj @k4 (cj @k8 (cj @ob3 (cj @ob4 (cj @gc (cj @q3 @q4))))))) ?_; refine hK _ _ ?_; clear hK K
                        refine ifs ?_ ?_ <;> first | exact nope | intro hb
                        refine aw_skip ?_
                        refine .inl ⟨rfl, ?_, ?_, ?_, ?_, ?_, ?_, hbad.symm, hR2⟩
                        all_goals (exact rn0 (cj rTI (cj @h1 (cj @k2 (cj @k4 (cj @k7 @k8))))))
                        all_goals trivial
              · have hB2 : BL D2 := fun w h => by
                  rw [← hD2] at h
                  cases fb with
                  | false => exact hbd w h
                  | true => exact hbd w (List.mem_of_mem_drop h)
                have hbl2 : ∀ w ∈ D2, w.length ≤ 281474976710656 := fun w h => by
                  rw [← hD2] at h
                  cases fb with
                  | false => exact hbl w h
                  | true => exact hbl w (List.mem_of_mem_drop h)
                have hDl2 : (if fc = true then 1 else 0) ≤ D2.length ∧ D2.length ≤ 10000 := by
                  rw [← hD2]
                  cases fb with
                  | false => rw [if_neg Bool.false_ne_true] at hDn ⊢; omega
                  | true => rw [if_pos rfl] at hDn ⊢; rw [List.length_drop]; omega
                have hsrc2 : srcC k = true → fc = false ∧ waveWords D2 = true := fun h => by
                  obtain ⟨rfl, q1, q2⟩ := hsrc h
                  rw [if_neg Bool.false_ne_true] at hD2
                  rw [← hD2]
                  exact ⟨q1, q2⟩
                clear hsrc hbd hbl hDn hDm hrf hD2 h1 k2 k4 k5 k6 k7 k8 hR ob3 ob4
                rintro e4 s5 ⟨h1, k2, k4, k7, k8, k11, hb0, hR⟩
                rw [hb0, if_neg Bool.false_ne_true]
                clear hbad hb0
                rw [then_normal]
                refine aw_seq ?_
                refine go (cj rTI (cj @h1 @k7)) ?_
                generalize hval : (if fc = true then numV (D2.headD []) else (0, 0)) = val
                generalize hev : (if fc = true then numE (D2.headD []) 0 else 0) = ev
                refine aw_only (fun e5 s6 => e5.n = 151 ∧ e5.m 2 = .ptr s.nx 0 ∧ e5.m 4 = .v (.int .u8 (k : Nat)) ∧ e5.m 8 = .ptr (s.nx + 1) 0 ∧ e5.m 11 = .ptr b 0 ∧ ∃ ws2, (srcC k = true → ws2 = D2) ∧ CR s s6 b [.v (.string (bs w0)), .sl fa (SL N), .v (.string (bs rf)), .v (.int .i64 val.1), .v (.int .i64 val.2), .v (.int .i64 0), nilS, nilS] ws2 ev) ?_ ?_
                · obtain ⟨ob1, ob2⟩ := hR.o
                  have ob3 : s.nx + 1 ≠ b := by omega
                  cases fc with
                  | false =>
                    rw [if_neg Bool.false_ne_true] at hval hev
                    subst hval hev
                    refine ifs ?_ ?_ <;> first | exact nope | intro hb
                    refine aw_skip ?_
                    refine ⟨rfl, ?_, ?_, ?_, ?_, ?_, D2, fun _ => rfl, hR⟩
                    all_goals (exact rn0 (cj rTI (cj @h1 (cj @k2 (cj @k4 (cj @k8 @k11))))))
                    all_goals trivial
                  | true =>
                    rw [if_pos rfl] at hval hev hDl2
                    match D2, hDl2 with
                    | [], q => simp at q
                    | w :: D', hDl2 =>
                      rw [show (w :: D').headD [] = w from rfl] at hval hev
                      have hnu := num_ax s5 b w D' 0 (hB2 w (List.mem_cons_self ..)) hR.r ob2 (by rw [List.length_cons] at hDl2; omega)
                      subst hval hev
                      have gc := hR.c
                      have hR2 := (hR.upd D' (numE w 0)).put [.v (.string (bs w0)), .sl fa (SL N), .v (.string (bs rf)), .v (.int .i64 (numV w).1), .v (.int .i64 (numV w).2), .v (.int .i64 0), nilS, nilS]
                      unfold rdr iv TV at hnu hR2
                      unfold NM at hnu
                      unfold nilS at *
                      refine ifs ?_ ?_ <;> first | exact nope | intro hb
                      refine aw_reg fun K hK => ?_; refine rn (cj rTI (cj @h1 (cj @k8 (cj @k11 (cj @gc @ob3))))) ?_; refine cont_go hnu ?_; rintro _ s6 ⟨rfl, rfl⟩; refine rn (cj rTI (cj @h1 (cj @k8 (cj @k11 (cj @gc @ob3))))) ?_; refine hK _ _ ?_; clear hK K
                      refine go (cj rTI (cj @h1 (cj @k8 (cj @gc @ob3)))) ?_
                      refine ⟨rfl, ?_, ?_, ?_, ?_, ?_, D', fun h => absurd (hsrc2 h).1 (by decide), hR2⟩
                      all_goals (exact rn0 (cj rTI (cj @h1 (cj @k2 (cj @k4 (cj @k8 @k11))))))
                      all_goals trivial
                · clear h1 k2 k4 k7 k8 k11 hR
                  rintro e5 s6 ⟨h1, k2, k4, k8, k11, ws2, hws, hR⟩
                  rw [then_normal]
                  generalize hec : (if srcC k = true then (waveR D2 ev).2 else ev) = ec
                  generalize hwv : (if srcC k = true then (waveR D2 ev).1 else wv0) = wv
                  refine aw_seq ?_
                  refine aw_only (fun e6 s7 => e6.n = 151 ∧ e6.m 2 = .ptr s.nx 0 ∧ e6.m 4 = .v (.int .u8 (k : Nat)) ∧ e6.m 8 = .ptr (s.nx + 1) 0 ∧ e6.m 11 = .ptr b 0 ∧ e6.m 12 = .v (.bool (srcC k)) ∧ s7 = s6) ?_ ?_
                  · have hsk : srcC k = decide (k = 118 ∨ k = 105) := rfl
                    by_cases q1 : k = 118
                    · have q2 : (k : Int) = 118 := by omega
                      rw [hsk, decide_eq_true (.inl q1)]
                      refine go (cj rTI (cj @h1 (cj @k4 @q2))) ?_
                      (repeat' refine And.intro ?_ ?_) <;> first | exact rfl | exact fnz (cj rTI (cj @h1 (cj @k2 (cj @k4 (cj @k8 @k11))))) | skip
                    · have q2 : ¬ (k : Int) = 118 := by omega
                      by_cases q3 : k = 105
                      · have q4 : (k : Int) = 105 := by omega
                        rw [hsk, decide_eq_true (.inr q3)]
                        refine go (cj rTI (cj @h1 (cj @k4 @q4))) ?_
                        (repeat' refine And.intro ?_ ?_) <;> first | exact rfl | exact fnz (cj rTI (cj @h1 (cj @k2 (cj @k4 (cj @k8 @k11))))) | skip
                      · have q4 : ¬ (k : Int) = 105 := by omega
                        rw [hsk, decide_eq_false (by omega)]
                        refine go (cj rTI (cj @h1 (cj @k4 (cj @q2 @q4)))) ?_
                        (repeat' refine And.intro ?_ ?_) <;> first | exact rfl | exact fnz (cj rTI (cj @h1 (cj @k2 (cj @k4 (cj @k8 @k11))))) | skip
                  clear h1 k2 k4 k8 k11
                  rintro e6 s7 ⟨h1, k2, k4, k8, k11, k12, rfl⟩
                  rw [then_normal]
                  refine aw_seq ?_
                  refine aw_only (fun e7 s8 => e7.n = 151 ∧ e7.m 2 = .ptr s.nx 0 ∧ e7.m 4 = .v (.int .u8 (k : Nat)) ∧ e7.m 8 = .ptr (s.nx + 1) 0 ∧ e7.m 11 = .ptr b 0 ∧ e7.m 12 = .v (.bool (srcC k)) ∧ ∃ kd X Y ws3, CR s s8 b [.v (.string (bs w0)), .sl fa (SL N), .v (.string (bs rf)), .v (.int .i64 val.1), .v (.int .i64 val.2), .v (.int .i64 kd), X, Y] ws3 ec ∧ ((srcC k = true ∧ ∃ W, (ec = 0 → W = wv) ∧ kd = W.kind ∧ X = NV W.vals ∧ Y = IV W.steps) ∨ (srcC k = false ∧ kd = 0 ∧ X = nilS ∧ Y = nilS))) ?_ ?_
                  · have gc := hR.c
                    obtain ⟨ob1, ob2⟩ := hR.o
                    have ob3 : s.nx + 1 ≠ b := by omega
                    cases hs : srcC k with
                    | false =>
                      rw [hs, if_neg Bool.false_ne_true] at hec
                      subst hec
                      rw [hs] at k12
                      refine go (cj rTI (cj @h1 @k12)) ?_
                      refine ifs ?_ ?_ <;> first | exact nope | intro hb
                      refine aw_skip ?_
                      refine ⟨rfl, ?_, ?_, ?_, ?_, ?_, ?_, 0, nilS, nilS, ws2, hR, .inr ⟨rfl, rfl, rfl, rfl⟩⟩
                      all_goals (exact rn0 (cj rTI (cj @h1 (cj @k2 (cj @k4 (cj @k8 (cj @k11 @k12)))))))
                      all_goals trivial
                    | true =>
                      obtain ⟨rfl, hww⟩ := hsrc2 hs
                      obtain rfl := hws hs
                      rw [hs, if_pos rfl] at hec hwv
                      rw [if_neg Bool.false_ne_true] at hev
                      subst hev
                      have hwx := wave_ax s7 b ws2 0 hB2 hbl2 hR.r ob2 hDl2.2 hww
                      rw [hec, hwv] at hwx
                      rw [hs] at k12
                      unfold WA NV IV iv at hwx
                      unfold rdr TV iv at hwx
                      unfold nilS at *
                      refine go (cj rTI (cj @h1 @k12)) ?_
                      refine ifs ?_ ?_ <;> first | exact nope | intro hb
                      refine aw_reg fun K hK => ?_; refine rn (cj rTI (cj @h1 (cj @k8 (cj @k11 (cj @gc @ob3))))) ?_; refine cont_go hwx ?_; rintro _ s8 ⟨⟨W, hW, rfl⟩, rfl⟩; refine rn (cj rTI (cj @h1 (cj @k8 (cj @k11 (cj @gc @ob3))))) ?_; refine hK _ _ ?_; clear hK K
                      refine go (cj rTI (cj @h1 (cj @k8 (cj @gc @ob3)))) ?_
                      have hR2 := (hR.upd [] ec).put [.v (.string (bs w0)), .sl fa (SL N), .v (.string (bs rf)), .v (.int .i64 val.1), .v (.int .i64 val.2), .v (.int .i64 W.kind), NV W.vals, IV W.steps]
                      refine ⟨rfl, ?_, ?_, ?_, ?_, ?_, ?_, W.kind, NV W.vals, IV W.steps, [], hR2, .inl ⟨rfl, W, hW, rfl, rfl, rfl⟩⟩
                      all_goals (exact rn0 (cj rTI (cj @h1 (cj @k2 (cj @k4 (cj @k8 (cj @k11 @k12)))))))
                      all_goals trivial
                  clear h1 k2 k4 k8 k11 k12 hR hws
                  rintro e7 s8 ⟨h1, k2, k4, k8, k11, k12, kd, X, Y, ws3, hR, hXY⟩
                  rw [then_normal]
                  have gr := hR.r
                  have gc := hR.c
                  have gz := hR.z
                  obtain ⟨ob1, ob2⟩ := hR.o
                  have ob3 : s.nx + 1 ≠ b := by omega
                  have ob4 : s.nx ≠ b := by omega
                  unfold rdr iv at gr
                  unfold cz at gz
                  by_cases he0 : ec = 0
                  · rw [if_neg (fun h => h he0)]
                    refine go (cj rTI (cj @h1 (cj @k11 (cj @gr @he0)))) ?_
                    refine ifs ?_ ?_ <;> first | exact nope | intro hb
                    refine aw_seq ?_
                    refine aw_only (fun e9 s9 => e9.n = 151 ∧ e9.m 2 = .ptr s.nx 0 ∧ e9.m 4 = .v (.int .u8 (k : Nat)) ∧ e9.m 8 = .ptr (s.nx + 1) 0 ∧ e9.m 12 = .v (.bool (srcC k)) ∧ e9.m 123 = .v (.bool (decide (val.1 = 0 ∧ zeroK k = true))) ∧ s9 = s8) ?_ ?_
                    · by_cases hv0 : val.1 = 0
                      · by_cases q1 : k = 114
                        · have q2 : (k : Int) = 114 := by omega
                          rw [decide_eq_true (show val.1 = 0 ∧ zeroK k = true from ⟨hv0, decide_eq_true (.inl q1)⟩)]
                          refine go (cj rTI (cj @h1 (cj @k4 (cj @k8 (cj @gc (cj @hv0 @q2)))))) ?_
                          (repeat' refine And.intro ?_ ?_) <;> first | exact rfl | exact fnz (cj rTI (cj @h1 (cj @k2 (cj @k4 (cj @k8 @k12))))) | skip
                        · have q2 : ¬ (k : Int) = 114 := by omega
                          by_cases q3 : k = 99
                          · have q4 : (k : Int) = 99 := by omega
                            rw [decide_eq_true (show val.1 = 0 ∧ zeroK k = true from ⟨hv0, decide_eq_true (.inr (.inl q3))⟩)]
                            refine go (cj rTI (cj @h1 (cj @k4 (cj @k8 (cj @gc (cj @hv0 @q4)))))) ?_
                            (repeat' refine And.intro ?_ ?_) <;> first | exact rfl | exact fnz (cj rTI (cj @h1 (cj @k2 (cj @k4 (cj @k8 @k12))))) | skip
                          · have q4 : ¬ (k : Int) = 99 := by omega
                            by_cases q5 : k = 108
                            · have q6 : (k : Int) = 108 := by omega
                              rw [decide_eq_true (show val.1 = 0 ∧ zeroK k = true from ⟨hv0, decide_eq_true (.inr (.inr q5))⟩)]
                              refine go (cj rTI (cj @h1 (cj @k4 (cj @k8 (cj @gc (cj @hv0 @q6)))))) ?_
                              (repeat' refine And.intro ?_ ?_) <;> first | exact rfl | exact fnz (cj rTI (cj @h1 (cj @k2 (cj @k4 (cj @k8 @k12))))) | skip
                            · have q6 : ¬ (k : Int) = 108 := by omega
                              rw [decide_eq_false (show ¬ (val.1 = 0 ∧ zeroK k = true) from fun h => by have := of_decide_eq_true h.2; omega)]
                              refine go (cj rTI (cj @h1 (cj @k4 (cj @k8 (cj @gc (cj @hv0 (cj @q2 (cj @q4 @q6)))))))) ?_
                              (repeat' refine And.intro ?_ ?_) <;> first | exact rfl | exact fnz (cj rTI (cj @h1 (cj @k2 (cj @k4 (cj @k8 @k12))))) | skip
                      · rw [decide_eq_false (show ¬ (val.1 = 0 ∧ zeroK k = true) from fun h => hv0 h.1)]
                        refine go (cj rTI (cj @h1 (cj @k4 (cj @k8 (cj @gc @hv0))))) ?_
                        (repeat' refine And.intro ?_ ?_) <;> first | exact rfl | exact fnz (cj rTI (cj @h1 (cj @k2 (cj @k4 (cj @k8 @k12))))) | skip
                    clear h1 k2 k4 k8 k11 k12
                    rintro e9 s9 ⟨h1, k2, k4, k8, k12, k123, rfl⟩
                    rw [then_normal]
                    by_cases hz0 : val.1 = 0 ∧ zeroK k = true
                    · rw [decide_eq_true hz0] at k123
                      rw [if_pos hz0]
                      refine aw_cond (b := true) k123 (fun _ => ?_) (fun h => by cases h)
                      refine go (cj rTI (cj @h1 (cj @k2 @gz))) ?_
                      exact ⟨ra_err 11, ra_idf _, fun i hi => by rw [if_neg (by omega)]; exact hR.fr i hi⟩
                    · rw [decide_eq_false hz0] at k123
                      rw [if_neg hz0]
                      rcases hXY with ⟨hs, W, hW, rfl, rfl, rfl⟩ | ⟨hs, rfl, rfl, rfl⟩
                      · obtain rfl := hW he0
                        have hvl : W.vals.length ≤ D2.length + 1 ∧ W.steps.length ≤ D2.length := by
                          rw [hs, if_pos rfl] at hwv
                          rw [← hwv]
                          exact wave_len D2 ev
                        have hwx := wvalid_ax W (by omega) (by omega)
                        rw [hs] at k12
                        unfold WA at hwx
                        unfold NV IV iv at *
                        cases hok : waveOk W with
                        | false =>
                          rw [hok] at hwx
                          rw [if_pos ⟨hs, rfl⟩]
                          refine aw_cond (b := false) k123 (fun h => by cases h) (fun _ => ?_)
                          refine aw_seq ?_
                          refine aw_reg fun K hK => ?_; refine rn (cj rTI (cj @h1 (cj @k8 (cj @k12 @gc)))) ?_; refine cont_pure hwx ?_; refine rn (cj rTI (cj @h1 (cj @k8 (cj @k12 @gc)))) ?_; refine hK _ _ ?_; clear hK K
                          refine ifs ?_ ?_ <;> first | exact nope | intro hb
                          refine go (cj rTI (cj @h1 (cj @k2 @gz))) ?_
                          exact ⟨ra_err 40, ra_idf _, fun i hi => by rw [if_neg (by omega)]; exact hR.fr i hi⟩
                        | true =>
                          rw [hok] at hwx
                          rw [if_neg (fun h => by cases h.2)]
                          refine aw_cond (b := false) k123 (fun h => by cases h) (fun _ => ?_)
                          refine aw_seq ?_
                          refine aw_reg fun K hK => ?_; refine rn (cj rTI (cj @h1 (cj @k8 (cj @k12 @gc)))) ?_; refine cont_pure hwx ?_; refine rn (cj rTI (cj @h1 (cj @k8 (cj @k12 @gc)))) ?_; refine hK _ _ ?_; clear hK K
                          refine ifs ?_ ?_ <;> first | exact nope | intro hb
                          refine go (cj rTI (cj @h1 (cj @k2 (cj @k8 (cj @gc @gz))))) ?_
                          refine ⟨?_, ra_idf _, fun i hi => by rw [if_neg (by omega)]; exact hR.fr i hi⟩
                          rw [hNN]
                          exact ra_le ⟨w0, N, rf, val, W⟩ _ _ (Le.refl _) (Le.refl _)
                      · rw [hs] at k12
                        rw [if_neg (fun h => by rw [hs] at h; cases h.1)]
                        unfold nilS at *
                        refine aw_cond (b := false) k123 (fun h => by cases h) (fun _ => ?_)
                        refine go (cj rTI (cj @h1 @k12)) ?_
                        refine ifs ?_ ?_ <;> first | exact nope | intro hb
                        refine go (cj rTI (cj @h1 (cj @k2 (cj @k8 (cj @gc @gz))))) ?_
                        refine ⟨?_, ra_idf _, fun i hi => by rw [if_neg (by omega)]; exact hR.fr i hi⟩
                        rw [hs, if_neg Bool.false_ne_true] at hwv
                        subst hwv
                        rw [hNN]
                        exact ra_le ⟨w0, N, rf, val, wv0⟩ _ _ (Le.nil 0 0 rfl) (Le.nil 0 0 rfl)
                  · rw [if_pos he0]
                    refine go (cj rTI (cj @h1 (cj @k11 (cj @gr @he0)))) ?_
                    refine ifs ?_ ?_ <;> first | exact nope | intro hb
                    refine aw_seq ?_
                    refine aw_drw (.take 0 (.take 1 (.take 2 (.take 3 (.take 4 (.one 5 (.take 6 (.done)))))))) [b] (by kernel_rfl) (by kernel_rfl) fun K hK => ?_; refine dr (cj rTI (cj @h1 (cj @k2 (cj @k11 (cj @gr (cj @gz @ob4)))))) ?_; refine hK _ _ ?_; clear hK K
                    rw [then_normal]
                    refine go (cj rTI (cj @h1 (cj @k2 @gz))) ?_
                    exact ⟨ra_err ec, ra_idf _, fun i hi => by rw [if_neg (by omega)]; exact hR.fr i hi⟩
end Go.Proofs.YtfjelkjlfcafgaaGreatDoor.CardI
end
section
/- Cards: text, sameWave, writeWave. -/
namespace Go.Proofs.YtfjelkjlfcafgaaGreatDoor.CardJ
open Go Go.RowKit Go.Proofs.YtfjelkjlfcafgaaGreatDoor.Ax Go.Proofs.YtfjelkjlfcafgaaGreatDoor.Ti Go.Proofs.YtfjelkjlfcafgaaGreatDoor.NumS Go.Proofs.YtfjelkjlfcafgaaGreatDoor.NumT Go.Proofs.YtfjelkjlfcafgaaGreatDoor.CardS Go.Proofs.YtfjelkjlfcafgaaGreatDoor.CardP Go.Proofs.YtfjelkjlfcafgaaGreatDoor.CardA Go.Proofs.YtfjelkjlfcafgaaGreatDoor.CardB Go.Proofs.YtfjelkjlfcafgaaGreatDoor.CardC Go.Proofs.YtfjelkjlfcafgaaGreatDoor.CardD Go.Proofs.YtfjelkjlfcafgaaGreatDoor.CardE Go.Proofs.YtfjelkjlfcafgaaGreatDoor.CardF Go.Proofs.YtfjelkjlfcafgaaGreatDoor.CardG Go.Proofs.YtfjelkjlfcafgaaGreatDoor.CardH
open Go.Proofs.YtfjelkjlfcafgaaGreatDoor.NumA (NM)
set_option linter.unusedSimpArgs false
set_option linter.unusedVariables false
set_option maxRecDepth 4000
set_option maxHeartbeats 2000000
theorem rTI : type_of% (cj @ti3 (cj @ti4 (cj @ti9 (cj @ti5 (cj @ti2 (cj @ti36 (cj @ti63 (cj @ti62 (cj @ti24 (cj @ti65 (cj @ti67 (cj @ti25 (cj @Nat.zero_add (cj @tz0 (cj @tz1 (cj @tz3 (cj @Nat.mul_one @Int.toNat_natCast))))))))))))))))) := cj @ti3 (cj @ti4 (cj @ti9 (cj @ti5 (cj @ti2 (cj @ti36 (cj @ti63 (cj @ti62 (cj @ti24 (cj @ti65 (cj @ti67 (cj @ti25 (cj @Nat.zero_add (cj @tz0 (cj @tz1 (cj @tz3 (cj @Nat.mul_one @Int.toNat_natCast))))))))))))))))
theorem ctext_ax (n : Num) : PCall Tryz.prog 82 [NM n.1 n.2] (SV (textN n)) := by
  refine pcall_of fun s => ?_
  have ht := NumG.text_all n.1 n.2
  unfold NumX.textV NumA.validN at ht
  unfold NM at ht ⊢
  unfold SV textN valid
  generalize RefM.validN n.1 n.2 = b at *
  cases b with
  | true =>
    rw [if_pos rfl] at ht
    rw [if_pos rfl]
    refine acall_of Tryz.func82 rfl rfl (by simp [Tryz.ntmps82]) ?_; rw [Tryz.ntmps82, Tryz.results82]
    refine go rTI ?_
    refine aw_reg fun K hK => ?_; refine rn rTI ?_; refine cont_pure ht ?_; refine rn rTI ?_; refine hK _ _ ?_; clear hK K
    refine go rTI ?_
    refine ifs ?_ ?_ <;> first | exact nope | intro hb
    refine go rTI ?_
    exact fun i hi => by rw [if_neg (by omega)]
  | false =>
    rw [if_neg Bool.false_ne_true] at ht
    rw [if_neg Bool.false_ne_true]
    refine acall_of Tryz.func82 rfl rfl (by simp [Tryz.ntmps82]) ?_; rw [Tryz.ntmps82, Tryz.results82]
    refine go rTI ?_
    refine aw_reg fun K hK => ?_; refine rn rTI ?_; refine cont_pure ht ?_; refine rn rTI ?_; refine hK _ _ ?_; clear hK K
    refine go rTI ?_
    refine ifs ?_ ?_ <;> first | exact nope | intro hb
    refine go rTI ?_
    exact ⟨rfl, fun i hi => by rw [if_neg (by omega)]⟩
theorem sameW_ax (a b : Wv) (h1 : a.vals.length ≤ 9223372036854775807) (h2 : a.steps.length ≤ 9223372036854775807) (h3 : b.vals.length ≤ 9223372036854775807) (h4 : b.steps.length ≤ 9223372036854775807) :
    PCall Tryz.prog 85 [WA a, WA b] (.v (.bool (sameW a b))) := by
  refine pcall_of fun s => ?_
  have hv := equalN_ax a.vals b.vals h1 h3
  have hs := equalI_ax a.steps b.steps h2 h4
  have hW : sameW a b = (decide (a.kind = b.kind) && (decide (a.vals = b.vals) && decide (a.steps = b.steps))) := by unfold sameW; rw [Bool.decide_and, Bool.decide_and]
  rw [hW]
  unfold WA NV IV iv at *
  by_cases hk : a.kind = b.kind
  · rw [decide_eq_true hk, Bool.true_and]
    generalize decide (a.vals = b.vals) = c1 at *
    generalize decide (a.steps = b.steps) = c2 at *
    cases c1 with
    | false =>
      rw [Bool.false_and]
      refine acall_of Tryz.func85 rfl rfl (by simp [Tryz.ntmps85]) ?_; rw [Tryz.ntmps85, Tryz.results85]
      refine go rTI ?_
      refine aw_reg fun K hK => ?_; refine rn (cj rTI @hk) ?_; refine cont_pure hv ?_; refine rn (cj rTI @hk) ?_; refine hK _ _ ?_; clear hK K
      refine go rTI ?_
      exact fun i hi => by rw [if_neg (by omega), if_neg (by omega)]
    | true =>
      rw [Bool.true_and]
      refine acall_of Tryz.func85 rfl rfl (by simp [Tryz.ntmps85]) ?_; rw [Tryz.ntmps85, Tryz.results85]
      refine go rTI ?_
      refine aw_reg fun K hK => ?_; refine rn (cj rTI @hk) ?_; refine cont_pure hv ?_; refine rn (cj rTI @hk) ?_; refine cont_pure hs ?_; refine rn (cj rTI @hk) ?_; refine hK _ _ ?_; clear hK K
      refine go rTI ?_
      exact fun i hi => by rw [if_neg (by omega), if_neg (by omega)]
  · rw [decide_eq_false hk, Bool.false_and]
    refine acall_of Tryz.func85 rfl rfl (by simp [Tryz.ntmps85]) ?_; rw [Tryz.ntmps85, Tryz.results85]
    refine go (cj rTI @hk) ?_
    exact fun i hi => by rw [if_neg (by omega), if_neg (by omega)]
structure LI (s s' : St) (c : List AV) (id : Nat) (L : List Str) : Prop where
  b : s'.get s.nx = some c
  l : s'.get id = some (SL L)
  o : s.nx < id ∧ id < s'.nx
  fr : ∀ k, k < s.nx → s'.get k = s.get k
theorem LI.app {s s' : St} {c : List AV} {id : Nat} {L : List Str} (h : LI s s' c id L) (s1 : St) (hn : s'.nx ≤ s1.nx) (hg : ∀ k, k < s'.nx → s1.get k = s'.get k) (ws : List Str) :
    LI s ((s1.kill id).push (SL L ++ SL ws)) c s1.nx (L ++ ws) := by
  obtain ⟨o1, o2⟩ := h.o
  refine ⟨?_, ?_, ⟨by omega, Nat.lt_succ_self _⟩, fun k hk => ?_⟩
  · rw [St.push_ne (s1.kill id) _ _ (show s.nx ≠ s1.nx by omega), St.kill_ne _ _ _ (by omega), hg _ (by omega)]
    exact h.b
  · rw [show SL (L ++ ws) = SL L ++ SL ws from List.map_append]
    exact St.push_same (s1.kill id) _
  · rw [St.push_ne (s1.kill id) _ _ (show k ≠ s1.nx by omega), St.kill_ne _ _ _ (by omega), hg _ (by omega)]
    exact h.fr k hk
theorem zip_take : ∀ (S : List Int) (V : List Num) (j : Nat), j < S.length → j < V.length → zipW (S.take (j + 1)) (V.take (j + 1)) = zipW (S.take j) (V.take j) ++ [decS (S.getD j 0), textN (V.getD j (0, 0))]
  | [], _, _, h, _ => absurd h (Nat.not_lt_zero _)
  | _ :: _, [], _, _, h => absurd h (Nat.not_lt_zero _)
  | a :: S, b :: V, 0, _, _ => by
    simp [zipW]
  | a :: S, b :: V, j + 1, h1, h2 => by
    have := zip_take S V j (Nat.lt_of_succ_lt_succ h1) (Nat.lt_of_succ_lt_succ h2)
    rw [List.take_succ_cons, List.take_succ_cons, List.take_succ_cons, List.take_succ_cons, List.getD_cons_succ, List.getD_cons_succ]
    show decS a :: textN b :: zipW _ _ = decS a :: textN b :: zipW _ _ ++ _
    rw [this]
    rfl
theorem zip_all : ∀ (S : List Int) (V : List Num) (j : Nat), (j = S.length ∨ j = V.length) → zipW (S.take j) (V.take j) = zipW S V
  | [], _, _, _ => by simp [zipW]
  | _ :: _, [], _, _ => by simp [zipW]
  | a :: S, b :: V, 0, h => by simp at h
  | a :: S, b :: V, j + 1, h => by
    rw [List.take_succ_cons, List.take_succ_cons]
    show decS a :: textN b :: zipW _ _ = decS a :: textN b :: zipW _ _
    rw [zip_all S V j (by simpa using h)]
theorem map_take {α : Type} (f : α → Str) (l : List α) (d : α) (k : Nat) (h : k < l.length) : (l.take (k + 1)).map f = (l.take k).map f ++ [f (l.getD k d)] := by
  rw [List.take_succ_eq_append_getElem h, List.map_append, List.getD_eq_getElem?_getD, List.getElem?_eq_getElem h]
  rfl
theorem frz_SL (id : Nat) (L : List Str) : frz id (SL L) (.own id 0 L.length 1) = TV L := by
  have e2 := sl_take L
  rw [frz_own, List.drop_zero, e2]
  rfl
theorem zip_len : ∀ (S : List Int) (V : List Num), S.length = V.length → (zipW S V).length = 2 * S.length
  | [], [], _ => rfl
  | a :: S, b :: V, h => by
    show (zipW S V).length + 1 + 1 = _
    rw [zip_len S V (by simpa using h), List.length_cons]
    omega
  | [], _ :: _, h => by simp at h
  | _ :: _, [], h => by simp at h
def preW (k : Int) : List Str := if k = 1 then [sDc] else if k = 2 then [sPulse] else if k = 4 then [sTable] else []
theorem writeW_ax (w : Wv) (h1 : w.vals.length ≤ 10000) (h2 : w.steps.length ≤ 10000) (h3 : ∀ z ∈ w.steps, -9223372036854775808 ≤ z ∧ z ≤ 9223372036854775807) :
    PCall Tryz.prog 83 [WA w] (TV (waveT w)) := by
  refine pcall_own (tv_idf _) fun s => ?_
  obtain ⟨kd, V, S⟩ := w
  simp only at h1 h2 h3
  unfold WA NV IV iv
  simp only
  refine acall_of Tryz.func83 rfl rfl (by simp [Tryz.ntmps83]) ?_; rw [Tryz.ntmps83, Tryz.results83]
  refine aw_seq ?_
  refine aw_reg fun K hK => ?_; refine rn rTI ?_; refine hK _ _ ?_; clear hK K
  refine aw_seq ?_
  refine aw_reg fun K hK => ?_; refine rn rTI ?_; refine hK _ _ ?_; clear hK K
  refine aw_nil 3 1 rfl rfl ?_
  have hL : LI s ((s.push [.v (.int .i64 kd), .sl V.length (NC V), .sl S.length (IL S)]).push []) [.v (.int .i64 kd), .sl V.length (NC V), .sl S.length (IL S)] (s.nx + 1) [] := by
    refine ⟨?_, St.push_same _ _, ⟨Nat.lt_succ_self _, Nat.lt_succ_self _⟩, fun k hk => ?_⟩
    · rw [St.push_ne (s.push _) _ _ (show s.nx ≠ s.nx + 1 by omega)]
      exact St.push_same _ _
    · rw [St.push_ne (s.push _) _ _ (show k ≠ s.nx + 1 by omega), St.push_ne s _ _ (by omega)]
  generalize hs1 : (s.push [.v (.int .i64 kd), .sl V.length (NC V), .sl S.length (IL S)]).push [] = s1 at *
  by_cases k3 : kd = 3
  · subst k3
    rw [show waveT ⟨3, V, S⟩ = sPwl :: zipW S V from rfl]
    have gb := hL.b
    have gl := hL.l
    have hA := hL.app (s1.push [SV sPwl]) (Nat.le_succ _) (fun k hk => St.push_ne s1 _ _ (by omega)) [sPwl]
    obtain ⟨o1, o2⟩ := hL.o
    rw [show SL ([] : List Str) = [] from rfl] at gl
    refine go (cj rTI @gb) ?_
    refine ifs ?_ ?_ <;> first | exact nope | intro hb
    refine go (cj rTI @gb) ?_
    refine ifs ?_ ?_ <;> first | exact nope | intro hb
    refine go (cj rTI @gb) ?_
    refine ifs ?_ ?_ <;> first | exact nope | intro hb
    refine go (cj rTI (cj @gb @gl)) ?_
    clear hL hs1
    refine aw_loop (fun m e2 s2 => ∃ k id, m = V.length - k ∧ k ≤ V.length ∧ k ≤ S.length ∧ e2.n = 85 ∧ e2.m 1 = .ptr s.nx 0 ∧ e2.m 3 = .own id 0 (sPwl :: zipW (S.take k) (V.take k)).length 1 ∧ e2.m 4 = .v (.int .i64 (k : Nat)) ∧ LI s s2 [.v (.int .i64 3), .sl V.length (NC V), .sl S.length (IL S)] id (sPwl :: zipW (S.take k) (V.take k))) V.length ?_ ?_
    · refine ⟨0, s1.nx + 1, by omega, by omega, by omega, ?_, ?_, ?_, ?_, hA⟩
      all_goals ((first | refine rn rTI ?_ | exact rn0 rTI))
      all_goals (first | trivial | rfl)
    · clear hA gb gl
      rintro m e2 s2 ⟨k, id, rfl, hk, hk1, h1, q1, q3, q4, hL⟩
      have gb := hL.b
      obtain ⟨o1, o2⟩ := hL.o
      by_cases hk2 : k < V.length ∧ k < S.length
      · obtain ⟨hk3, hk4⟩ := hk2
        have f1 := nc_at V k hk3
        have f2 : 2 ≤ ((NC V).drop (k * 2)).length := by rw [List.length_drop, nc_len]; omega
        have f3 := hd_IL S k hk4
        have hp := ctext_ax (V.getD k (0, 0))
        have ht := zip_take S V k hk4 hk3
        have hz : -9223372036854775808 ≤ S.getD k 0 ∧ S.getD k 0 ≤ 9223372036854775807 := h3 _ (by rw [List.getD_eq_getElem?_getD, List.getElem?_eq_getElem hk4]; exact List.getElem_mem _)
        generalize S.getD k 0 = z at *
        have hp2 := itoa_ax z hz.1 hz.2
        generalize V.getD k (0, 0) = n at *
        have gl := hL.l
        have ll := sl_len (sPwl :: zipW (S.take k) (V.take k))
        have hA := hL.app (s2.push [SV (decS z), SV (textN n)]) (Nat.le_succ _) (fun k hk => St.push_ne s2 _ _ (by omega)) [decS z, textN n]
        have hb0 : (sPwl :: zipW (S.take k) (V.take k)).length ≤ 20001 := by rw [List.length_cons, zip_len _ _ (by rw [List.length_take, List.length_take]; omega), List.length_take]; omega
        rw [List.cons_append, ← ht] at hA
        have hln : (sPwl :: zipW (S.take (k + 1)) (V.take (k + 1))).length = (sPwl :: zipW (S.take k) (V.take k)).length + 2 := by rw [ht, List.length_cons, List.length_append, List.length_cons]; rfl
        generalize hL0 : sPwl :: zipW (S.take k) (V.take k) = L0 at *
        unfold iv at f1 f3
        unfold NM SV at hp
        unfold SV at hp2 hA
        refine go (cj rTI (cj @h1 (cj @q1 (cj @q4 @gb)))) ?_
        refine ifs ?_ ?_ <;> first | exact nope | intro hb
        refine aw_skip ?_
        refine go (cj rTI @h1) ?_
        refine aw_drw (.take 0 (.take 1 (.take 2 (.take 3 (.take 4 (.take 5 (.take 7 (.take 8 (.take 9 (.take 10 (.take 11 (.one 6 (.one 12 (.one 13 (.one 14 (.take 15 (.done))))))))))))))))) [s.nx] (by kernel_rfl) (by kernel_rfl) fun K hK => ?_; refine dr (cj rTI (cj @h1 (cj @q1 (cj @q3 (cj @q4 (cj @gb (cj @gl (cj @ll (cj @f1 (cj @f2 @f3)))))))))) ?_; refine cont_pure hp2 ?_; refine dr (cj rTI (cj @h1 (cj @q1 (cj @q3 (cj @q4 (cj @gb (cj @gl (cj @ll (cj @f1 (cj @f2 @f3)))))))))) ?_; refine cont_pure hp ?_; refine dr (cj rTI (cj @h1 (cj @q1 (cj @q3 (cj @q4 (cj @gb (cj @gl (cj @ll (cj @f1 (cj @f2 @f3)))))))))) ?_; refine hK _ _ ?_; clear hK K
        refine go (cj rTI (cj @h1 @q4)) ?_
        simp only [block_normal, loop_normal]
        refine ⟨V.length - (k + 1), by omega, k + 1, s2.nx + 1, rfl, by omega, by omega, ?_, ?_, ?_, ?_, hA⟩
        all_goals ((first | refine rn (cj rTI (cj @h1 (cj @q1 (cj @q3 @q4)))) ?_ | exact rn0 (cj rTI (cj @h1 (cj @q1 (cj @q3 @q4))))))
        all_goals (first | rfl | trivial | (rw [← hln]; rfl))
      · have hk5 : k = S.length ∨ k = V.length := by omega
        rw [zip_all S V k hk5] at hL q3
        by_cases hm : V.length < S.length
        · refine go (cj rTI (cj @h1 (cj @q1 (cj @q4 @gb)))) ?_
          refine ifs ?_ ?_ <;> first | exact nope | intro hb
          refine go (cj rTI (cj @h1 @q3)) ?_
          exact ⟨id, _, by omega, hL.l, frz_SL _ _, hL.fr⟩
        · refine go (cj rTI (cj @h1 (cj @q1 (cj @q4 @gb)))) ?_
          refine ifs ?_ ?_ <;> first | exact nope | intro hb
          refine go (cj rTI (cj @h1 @q3)) ?_
          exact ⟨id, _, by omega, hL.l, frz_SL _ _, hL.fr⟩
  · rw [show waveT ⟨kd, V, S⟩ = preW kd ++ V.map textN ++ S.map decS from if_neg k3]
    refine aw_seq ?_
    refine aw_only (fun e' s' => e'.n = 85 ∧ e'.m 1 = .ptr s.nx 0 ∧ ∃ id, e'.m 3 = .own id 0 (preW kd).length 1 ∧ LI s s' [.v (.int .i64 kd), .sl V.length (NC V), .sl S.length (IL S)] id (preW kd)) ?_ ?_
    · have gb := hL.b
      have gl := hL.l
      obtain ⟨o1, o2⟩ := hL.o
      rw [show SL ([] : List Str) = [] from rfl] at gl
      have hA := fun x => hL.app (s1.push [SV x]) (Nat.le_succ _) (fun k hk => St.push_ne s1 _ _ (by omega)) [x]
      by_cases k1 : kd = 1
      · subst k1
        refine go (cj rTI @gb) ?_
        refine ifs ?_ ?_ <;> first | exact nope | intro hb
        refine go (cj rTI (cj @gb @gl)) ?_
        exact ⟨rfl, rfl, rfl, s1.nx + 1, rfl, hA sDc⟩
      · by_cases k2 : kd = 2
        · subst k2
          refine go (cj rTI @gb) ?_
          refine ifs ?_ ?_ <;> first | exact nope | intro hb
          refine go (cj rTI (cj @gb @gl)) ?_
          refine ifs ?_ ?_ <;> first | exact nope | intro hb
          refine go (cj rTI (cj @gb @gl)) ?_
          exact ⟨rfl, rfl, rfl, s1.nx + 1, rfl, hA sPulse⟩
        · by_cases k4 : kd = 4
          · subst k4
            refine go (cj rTI @gb) ?_
            refine ifs ?_ ?_ <;> first | exact nope | intro hb
            refine go (cj rTI (cj @gb @gl)) ?_
            refine ifs ?_ ?_ <;> first | exact nope | intro hb
            refine go (cj rTI (cj @gb @gl)) ?_
            refine ifs ?_ ?_ <;> first | exact nope | intro hb
            refine go (cj rTI (cj @gb @gl)) ?_
            refine ifs ?_ ?_ <;> first | exact nope | intro hb
            refine go (cj rTI (cj @gb @gl)) ?_
            exact ⟨rfl, rfl, rfl, s1.nx + 1, rfl, hA sTable⟩
          · have hp : preW kd = [] := by unfold preW; rw [if_neg k1, if_neg k2, if_neg k4]
            rw [hp]
            refine go (cj rTI (cj @gb @k1)) ?_
            refine ifs ?_ ?_ <;> first | exact nope | intro hb
            refine go (cj rTI (cj @gb @k2)) ?_
            refine ifs ?_ ?_ <;> first | exact nope | intro hb
            refine go (cj rTI (cj @gb @k3)) ?_
            refine ifs ?_ ?_ <;> first | exact nope | intro hb
            refine go (cj rTI (cj @gb @k4)) ?_
            refine ifs ?_ ?_ <;> first | exact nope | intro hb
            refine go rTI ?_
            exact ⟨s.nx + 1, rfl, hL⟩
    · clear hL hs1
      have hpl : (preW kd).length ≤ 1 := by unfold preW; (repeat' split) <;> decide
      generalize preW kd = pre at *
      rintro e' s' ⟨h1, q1, id, q3, hL⟩
      have gb := hL.b
      rw [then_normal]
      refine go (cj rTI (cj @h1 (cj @q1 @gb))) ?_
      refine aw_loop (fun m e2 s2 => ∃ k id, m = V.length - k ∧ k ≤ V.length ∧ e2.n = 85 ∧ e2.m 1 = .ptr s.nx 0 ∧ e2.m 3 = .own id 0 (pre ++ (V.take k).map textN).length 1 ∧ e2.m 59 = .sl V.length (NC V) ∧ e2.m 60 = .v (.int .i64 V.length) ∧ e2.m 61 = .v (.int .i64 (k : Nat)) ∧ LI s s2 [.v (.int .i64 kd), .sl V.length (NC V), .sl S.length (IL S)] id (pre ++ (V.take k).map textN)) V.length ?_ ?_
      · refine ⟨0, id, by omega, by omega, ?_, ?_, ?_, ?_, ?_, ?_, ?_⟩
        all_goals ((first | refine rn (cj rTI (cj @h1 (cj @q1 @q3))) ?_ | exact rn0 (cj rTI (cj @h1 (cj @q1 @q3)))))
        all_goals (first | trivial | (simp; done) | (simp; exact hL))
      · clear h1 q1 q3 hL gb
        rintro m e2 s2 ⟨k, id, rfl, hk, h1, q1, q3, q59, q60, q61, hL⟩
        have gb := hL.b
        obtain ⟨o1, o2⟩ := hL.o
        by_cases hk2 : k < V.length
        · have f1 := nc_at V k hk2
          have f2 : 2 ≤ ((NC V).drop (k * 2)).length := by rw [List.length_drop, nc_len]; omega
          have hp := ctext_ax (V.getD k (0, 0))
          have ht := map_take textN V (0, 0) k hk2
          generalize V.getD k (0, 0) = n at *
          have gl := hL.l
          have ll := sl_len (pre ++ (V.take k).map textN)
          have hA := hL.app (((s2.push [.v (.int .i64 0), .v (.int .i64 0)]).set s2.nx [.v (.int .i64 n.1), .v (.int .i64 n.2)]).push [SV (textN n)]) (by show _ ≤ s2.nx + 1 + 1; omega) (fun k hk => by rw [St.push_ne ((s2.push _).set _ _) _ _ (show k ≠ s2.nx + 1 by omega), St.set_ne _ _ _ _ (by omega), St.push_ne s2 _ _ (by omega)]) [textN n]
          have hb0 : (pre ++ (V.take k).map textN).length ≤ 10001 := by rw [List.length_append, List.length_map, List.length_take]; omega
          rw [List.append_assoc, ← ht] at hA
          have hln : (pre ++ (V.take (k + 1)).map textN).length = (pre ++ (V.take k).map textN).length + 1 := by rw [ht, ← List.append_assoc, List.length_append]; rfl
          generalize hL0 : pre ++ (V.take k).map textN = L0 at *
          unfold iv at f1
          unfold NM SV at hp
          unfold SV at hA
          refine go (cj rTI (cj @h1 (cj @q60 @q61))) ?_
          refine ifs ?_ ?_ <;> first | exact nope | intro hb
          refine aw_skip ?_
          refine go (cj rTI (cj @h1 (cj @q59 (cj @q61 (cj @f1 @f2))))) ?_
          refine aw_reg fun K hK => ?_; refine rn (cj rTI (cj @h1 (cj @q3 (cj @gl @ll)))) ?_; refine cont_pure hp ?_; refine rn (cj rTI (cj @h1 (cj @q3 (cj @gl @ll)))) ?_; refine hK _ _ ?_; clear hK K
          refine go (cj rTI (cj @h1 @q61)) ?_
          simp only [block_normal, loop_normal]
          refine ⟨V.length - (k + 1), by omega, k + 1, s2.nx + 1 + 1, rfl, by omega, ?_, ?_, ?_, ?_, ?_, ?_, hA⟩
          all_goals ((first | refine rn (cj rTI (cj @h1 (cj @q1 (cj @q3 (cj @q59 (cj @q60 @q61)))))) ?_ | exact rn0 (cj rTI (cj @h1 (cj @q1 (cj @q3 (cj @q59 (cj @q60 @q61))))))))
          all_goals (first | rfl | trivial | rw [hln])
        · obtain rfl : k = V.length := by omega
          rw [List.take_length] at hL q3
          clear hk hk2 q59
          refine go (cj rTI (cj @h1 (cj @q1 (cj @q60 (cj @q61 @gb))))) ?_
          refine ifs ?_ ?_ <;> first | exact nope | intro hb
          refine go (cj rTI (cj @h1 (cj @q1 (cj @q60 (cj @q61 @gb))))) ?_
          have hpl2 : (pre ++ V.map textN).length ≤ 10001 := by rw [List.length_append, List.length_map]; omega
          generalize pre ++ V.map textN = pr2 at *
          clear hpl gb o1 o2 q60 q61
          refine aw_loop (fun m e3 s3 => ∃ k id, m = S.length - k ∧ k ≤ S.length ∧ e3.n = 85 ∧ e3.m 3 = .own id 0 (pr2 ++ (S.take k).map decS).length 1 ∧ e3.m 72 = .sl S.length (IL S) ∧ e3.m 73 = .v (.int .i64 S.length) ∧ e3.m 74 = .v (.int .i64 (k : Nat)) ∧ LI s s3 [.v (.int .i64 kd), .sl V.length (NC V), .sl S.length (IL S)] id (pr2 ++ (S.take k).map decS)) S.length ?_ ?_
          · refine ⟨0, id, by omega, by omega, ?_, ?_, ?_, ?_, ?_, ?_⟩
            all_goals ((first | refine rn (cj rTI (cj @h1 (cj @q1 @q3))) ?_ | exact rn0 (cj rTI (cj @h1 (cj @q1 @q3)))))
            all_goals (first | trivial | (simp; done) | (simp; exact hL))
          · clear h1 q1 q3 hL
            rintro m e3 s3 ⟨k, id, rfl, hk, h1, q3, q72, q73, q74, hL⟩
            obtain ⟨o1, o2⟩ := hL.o
            by_cases hk2 : k < S.length
            · have f1 := hd_IL S k hk2
              have ht := map_take decS S 0 k hk2
              have hz : -9223372036854775808 ≤ S.getD k 0 ∧ S.getD k 0 ≤ 9223372036854775807 := h3 _ (by rw [List.getD_eq_getElem?_getD, List.getElem?_eq_getElem hk2]; exact List.getElem_mem _)
              generalize S.getD k 0 = n at *
              have hp := itoa_ax n hz.1 hz.2
              have gl := hL.l
              have ll := sl_len (pr2 ++ (S.take k).map decS)
              have hA := hL.app (s3.push [SV (decS n)]) (Nat.le_succ _) (fun k hk => St.push_ne s3 _ _ (by omega)) [decS n]
              have hb0 : (pr2 ++ (S.take k).map decS).length ≤ 20001 := by rw [List.length_append, List.length_map, List.length_take]; omega
              rw [List.append_assoc, ← ht] at hA
              have hln : (pr2 ++ (S.take (k + 1)).map decS).length = (pr2 ++ (S.take k).map decS).length + 1 := by rw [ht, ← List.append_assoc, List.length_append]; rfl
              generalize hL0 : pr2 ++ (S.take k).map decS = L0 at *
              unfold iv at f1
              unfold SV at hp hA
              refine go (cj rTI (cj @h1 (cj @q73 @q74))) ?_
              refine ifs ?_ ?_ <;> first | exact nope | intro hb
              refine aw_skip ?_
              refine go (cj rTI (cj @h1 (cj @q72 (cj @q74 @f1)))) ?_
              refine aw_reg fun K hK => ?_; refine rn (cj rTI (cj @h1 (cj @q3 (cj @gl @ll)))) ?_; refine cont_pure hp ?_; refine rn (cj rTI (cj @h1 (cj @q3 (cj @gl @ll)))) ?_; refine hK _ _ ?_; clear hK K
              refine go (cj rTI (cj @h1 @q74)) ?_
              simp only [block_normal, loop_normal]
              refine ⟨S.length - (k + 1), by omega, k + 1, s3.nx + 1, rfl, by omega, ?_, ?_, ?_, ?_, ?_, hA⟩
              all_goals ((first | refine rn (cj rTI (cj @h1 (cj @q3 (cj @q72 (cj @q73 @q74))))) ?_ | exact rn0 (cj rTI (cj @h1 (cj @q3 (cj @q72 (cj @q73 @q74)))))))
              all_goals (first | rfl | trivial | rw [hln])
            · obtain rfl : k = S.length := by omega
              rw [List.take_length] at hL q3
              clear hk hk2 q72
              refine go (cj rTI (cj @h1 (cj @q73 @q74))) ?_
              refine ifs ?_ ?_ <;> first | exact nope | intro hb
              refine go (cj rTI (cj @h1 @q3)) ?_
              exact ⟨id, _, by omega, hL.l, frz_SL _ _, hL.fr⟩
end Go.Proofs.YtfjelkjlfcafgaaGreatDoor.CardJ
end
section
/- Cards: Write. -/
namespace Go.Proofs.YtfjelkjlfcafgaaGreatDoor.CardK
open Go Go.RowKit Go.Proofs.YtfjelkjlfcafgaaGreatDoor.Ax Go.Proofs.YtfjelkjlfcafgaaGreatDoor.Ti Go.Proofs.YtfjelkjlfcafgaaGreatDoor.NumS Go.Proofs.YtfjelkjlfcafgaaGreatDoor.NumT Go.Proofs.YtfjelkjlfcafgaaGreatDoor.CardS Go.Proofs.YtfjelkjlfcafgaaGreatDoor.CardP Go.Proofs.YtfjelkjlfcafgaaGreatDoor.CardA Go.Proofs.YtfjelkjlfcafgaaGreatDoor.CardB Go.Proofs.YtfjelkjlfcafgaaGreatDoor.CardC Go.Proofs.YtfjelkjlfcafgaaGreatDoor.CardD Go.Proofs.YtfjelkjlfcafgaaGreatDoor.CardE Go.Proofs.YtfjelkjlfcafgaaGreatDoor.CardF Go.Proofs.YtfjelkjlfcafgaaGreatDoor.CardG Go.Proofs.YtfjelkjlfcafgaaGreatDoor.CardH Go.Proofs.YtfjelkjlfcafgaaGreatDoor.CardI Go.Proofs.YtfjelkjlfcafgaaGreatDoor.CardJ
open Go.Proofs.YtfjelkjlfcafgaaGreatDoor.NumA (NM)
set_option linter.unusedSimpArgs false
set_option linter.unusedVariables false
set_option maxRecDepth 4000
set_option maxHeartbeats 2000000
theorem rTI : type_of% (cj @ti3 (cj @ti4 (cj @ti9 (cj @ti5 (cj @ti2 (cj @ti36 (cj @ti63 (cj @ti62 (cj @ti24 (cj @ti65 (cj @ti67 (cj @ti25 (cj @Nat.zero_add (cj @tz0 (cj @tz1 (cj @tz3 (cj @Nat.mul_one @Int.toNat_natCast))))))))))))))))) := cj @ti3 (cj @ti4 (cj @ti9 (cj @ti5 (cj @ti2 (cj @ti36 (cj @ti63 (cj @ti62 (cj @ti24 (cj @ti65 (cj @ti67 (cj @ti25 (cj @Nat.zero_add (cj @tz0 (cj @tz1 (cj @tz3 (cj @Nat.mul_one @Int.toNat_natCast))))))))))))))))
def PA (p : List Str × Int) : AV := .tp [TV p.1, iv p.2]
theorem pa_idf (p : List Str × Int) : idf (PA p) = true := by
  show (idf (TV p.1) && (true && true)) = true
  rw [tv_idf]
  rfl
theorem pa_err (e : Int) : Le (.tp [.v (.slice none 0 0), .v (.int .i64 e)]) (PA ([], e)) := by
  refine Le.tp rfl fun j x y hx hy => ?_
  match j with
  | 0 => simp at hx hy; subst hx hy; exact Le.nil 0 0 rfl
  | 1 => simp at hx hy; subst hx hy; exact Le.refl _
  | j + 2 => simp at hx
theorem read_by (ws : List Str) (h : BL ws) : By (readC ws).1.ref ∧ BL (readC ws).1.nodes ∧ (readC ws).1.nodes.length ≤ ws.length ∧ (readC ws).1.wave.vals.length ≤ ws.length + 1 ∧ (readC ws).1.wave.steps.length ≤ ws.length := by
  have h0 : By crd0.ref ∧ BL crd0.nodes ∧ crd0.nodes.length ≤ ws.length ∧ crd0.wave.vals.length ≤ ws.length + 1 ∧ crd0.wave.steps.length ≤ ws.length :=
    ⟨fun c hc => (by cases hc), fun c hc => (by cases hc), Nat.zero_le _, Nat.zero_le _, Nat.zero_le _⟩
  cases ws with
  | nil => exact h0
  | cons w0 r =>
    have hr : BL r := fun w hw => h w (List.mem_cons_of_mem _ hw)
    have hh : ∀ l : List Str, BL l → By (l.headD []) := fun l hl => by
      cases l with
      | nil => exact fun c hc => by cases hc
      | cons a l => exact hl a (List.mem_cons_self ..)
    rw [read_eq]
    generalize w0.getD 0 0 = k
    generalize formOf k (r.length + 1) = f
    unfold readB
    split
    · split
      · split
        · exact h0
        · split
          · exact h0
          · split
            · exact h0
            · split
              · exact h0
              · obtain ⟨fa, fb, fc⟩ := f
                refine ⟨?_, fun w hw => hr w (List.mem_of_mem_take hw), ?_, ?_⟩
                · show By (refC (fa, fb, fc) r)
                  unfold refC
                  simp only
                  split
                  · exact hh _ fun w hw => hr w (List.mem_of_mem_drop hw)
                  · exact fun c hc => by cases hc
                · show (r.take fa).length ≤ _
                  rw [List.length_take, List.length_cons]
                  omega
                · show (wvC k (fa, fb, fc) r).vals.length ≤ _ ∧ (wvC k (fa, fb, fc) r).steps.length ≤ _
                  unfold wvC
                  split
                  · have h1 := wave_len (restC (fa, fb, fc) r) (errV (fa, fb, fc) r)
                    have h2 : (restC (fa, fb, fc) r).length ≤ r.length := by
                      unfold restC
                      simp only
                      split <;> simp only [List.length_drop] <;> omega
                    rw [List.length_cons]
                    omega
                  · exact ⟨Nat.zero_le _, Nat.zero_le _⟩
      · exact h0
    · exact h0
def refW (c : Crd) (k : Nat) (f : Nat × Bool × Bool) : List Str := if f.2.1 = true ∨ k = 120 then [c.ref] else []
def valW (c : Crd) (k : Nat) (f : Nat × Bool × Bool) : List Str := if f.2.2 = true ∧ k ≠ 120 then [textN c.value] else []
def wavW (c : Crd) (k : Nat) : List Str := if k = 118 ∨ k = 105 then waveT c.wave else []
theorem wordsC_eq (c : Crd) : wordsC c = c.name :: c.nodes ++ refW c (c.name.getD 0 0) (shapeK (c.name.getD 0 0)) ++ valW c (c.name.getD 0 0) (shapeK (c.name.getD 0 0)) ++ wavW c (c.name.getD 0 0) := rfl
structure CW (c : Crd) : Prop where
  n : By c.name ∧ c.name.length ≤ 281474976710656
  d : BL c.nodes ∧ (∀ w ∈ c.nodes, w.length ≤ 281474976710656) ∧ c.nodes.length ≤ 9223372036854775807
  r : By c.ref ∧ c.ref.length ≤ 281474976710656
  v : c.wave.vals.length ≤ 9223372036854775807
  t : c.wave.steps.length ≤ 9223372036854775807
  z : ∀ z ∈ c.wave.steps, -9223372036854775808 ≤ z ∧ z ≤ 9223372036854775807
theorem textN_by (n : Num) : By (textN n) ∧ (textN n).length ≤ 20 := by
  unfold textN
  split
  · rename_i h
    exact ⟨NumH.textS_by _ _, Nat.le_trans (text_len _ _ ((NumH.ok_valid _ _).1 h)) (by decide)⟩
  · exact ⟨by_lit _ rfl, by decide⟩
theorem decS_le (z : Int) (h0 : -9223372036854775808 ≤ z) (h1 : z ≤ 9223372036854775807) : (decS z).length ≤ 20 := by
  unfold decS
  split
  · decide
  · have := decN_len z.natAbs 19 (by omega)
    rw [List.length_append]
    split
    · rw [List.length_cons, List.length_nil]; omega
    · rw [List.length_nil]; omega
theorem zip_mem : ∀ (S : List Int) (V : List Num) (x : Str), x ∈ zipW S V → (∃ z ∈ S, x = decS z) ∨ ∃ v ∈ V, x = textN v
  | [], _, x, h => by simp [zipW] at h
  | _ :: _, [], x, h => by simp [zipW] at h
  | a :: S, b :: V, x, h => by
    have h' : x ∈ decS a :: textN b :: zipW S V := h
    rcases List.mem_cons.1 h' with rfl | h'
    · exact .inl ⟨a, List.mem_cons_self .., rfl⟩
    · rcases List.mem_cons.1 h' with rfl | h'
      · exact .inr ⟨b, List.mem_cons_self .., rfl⟩
      · rcases zip_mem S V x h' with ⟨z, hz, e⟩ | ⟨v, hv, e⟩
        · exact .inl ⟨z, List.mem_cons_of_mem _ hz, e⟩
        · exact .inr ⟨v, List.mem_cons_of_mem _ hv, e⟩
theorem zip_le : ∀ (S : List Int) (V : List Num), (zipW S V).length ≤ 2 * V.length
  | [], _ => Nat.zero_le _
  | _ :: _, [] => Nat.zero_le _
  | a :: S, b :: V => by
    show (zipW S V).length + 1 + 1 ≤ _
    have := zip_le S V
    rw [List.length_cons]
    omega
theorem waveT_by (w : Wv) (hz : ∀ z ∈ w.steps, -9223372036854775808 ≤ z ∧ z ≤ 9223372036854775807) : (waveT w).length ≤ 1 + 2 * (w.vals.length + w.steps.length) ∧ ∀ x ∈ waveT w, By x ∧ x.length ≤ 20 := by
  have hd : ∀ z ∈ w.steps, By (decS z) ∧ (decS z).length ≤ 20 := fun z h => ⟨decS_by z, decS_le z (hz z h).1 (hz z h).2⟩
  unfold waveT
  split
  · refine ⟨?_, fun x hx => ?_⟩
    · have := zip_le w.steps w.vals
      rw [List.length_cons]
      omega
    · rcases List.mem_cons.1 hx with rfl | hx
      · exact ⟨by_lit _ rfl, by decide⟩
      · rcases zip_mem _ _ _ hx with ⟨z, h, rfl⟩ | ⟨v, _, rfl⟩
        · exact hd z h
        · exact textN_by v
  · refine ⟨?_, fun x hx => ?_⟩
    · have : (if w.kind = 1 then [sDc] else if w.kind = 2 then [sPulse] else if w.kind = 4 then [sTable] else []).length ≤ 1 := by (repeat' split) <;> decide
      rw [List.length_append, List.length_append, List.length_map, List.length_map]
      omega
    · rcases List.mem_append.1 hx with hx | hx
      · rcases List.mem_append.1 hx with hx | hx
        · have : x = sDc ∨ x = sPulse ∨ x = sTable := by
            split at hx
            · exact .inl (List.mem_singleton.1 hx)
            · split at hx
              · exact .inr (.inl (List.mem_singleton.1 hx))
              · split at hx
                · exact .inr (.inr (List.mem_singleton.1 hx))
                · cases hx
          rcases this with rfl | rfl | rfl
          · exact ⟨by_lit _ rfl, by decide⟩
          · exact ⟨by_lit _ rfl, by decide⟩
          · exact ⟨by_lit _ rfl, by decide⟩
        · obtain ⟨v, _, rfl⟩ := List.mem_map.1 hx
          exact textN_by v
      · obtain ⟨z, h, rfl⟩ := List.mem_map.1 hx
        exact hd z h
theorem words_by (c : Crd) (hc : CW c) : ∀ x ∈ wordsC c, By x ∧ x.length ≤ 281474976710656 := by
  intro x hx
  rw [wordsC_eq] at hx
  rcases List.mem_append.1 hx with hx | hx
  · rcases List.mem_append.1 hx with hx | hx
    · rcases List.mem_append.1 hx with hx | hx
      · rcases List.mem_cons.1 hx with rfl | hx
        · exact hc.n
        · exact ⟨hc.d.1 x hx, hc.d.2.1 x hx⟩
      · unfold refW at hx
        split at hx
        · rw [List.mem_singleton.1 hx]; exact hc.r
        · cases hx
    · unfold valW at hx
      split at hx
      · rw [List.mem_singleton.1 hx]; exact ⟨(textN_by _).1, Nat.le_trans (textN_by _).2 (by decide)⟩
      · cases hx
  · unfold wavW at hx
    split at hx
    · have := (waveT_by c.wave hc.z).2 x hx
      exact ⟨this.1, Nat.le_trans this.2 (by decide)⟩
    · cases hx
theorem write_ax (c : Crd) (hc : CW c) : PCall Tryz.prog 31 [CA c] (PA (writeC c)) := by
  refine pcall_le fun s => ?_
  have hd := dev_ax c.name hc.n.1 (by have := hc.n.2; omega)
  have hno : ∀ q : ¬ (isDev c.name = true ∧ c.nodes.length ≤ 8 ∧ c.wave.vals.length ≤ 16 ∧ c.wave.steps.length ≤ 16), writeC c = ([], 70) := fun q => if_neg q
  obtain ⟨h1, h2, h3, h4, h5, h6⟩ := hc
  unfold CA TV NV IV iv
  unfold SV at hd ⊢
  by_cases q1 : isDev c.name = true
  · rw [q1] at hd
    by_cases q2 : c.nodes.length ≤ 8
    · by_cases q3 : c.wave.vals.length ≤ 16
      · by_cases q4 : c.wave.steps.length ≤ 16
        · refine acall_of Tryz.func31 rfl rfl (by simp [Tryz.ntmps31]) ?_; rw [Tryz.ntmps31, Tryz.results31]
          refine go rTI ?_
          refine aw_reg fun K hK => ?_; refine rn rTI ?_; refine cont_pure hd ?_; refine rn rTI ?_; refine hK _ _ ?_; clear hK K
          refine ifs ?_ ?_ <;> first | exact nope | intro hb
          have e1 := sl_len c.nodes
          have e2 := sl_take c.nodes
          have e3 := sl_one c.nodes
          refine go (cj rTI (cj @e1 (cj @e2 @e3))) ?_
          have hL : LI s ((((s.push [.v (.string (bs c.name)), .sl c.nodes.length (SL c.nodes), .v (.string (bs c.ref)), .v (.int .i64 c.value.1), .v (.int .i64 c.value.2), .v (.int .i64 c.wave.kind), .sl c.wave.vals.length (NC c.wave.vals), .sl c.wave.steps.length (IL c.wave.steps)]).push [.v (.string (bs c.name))]).kill (s.nx + 1)).push ([.v (.string (bs c.name))] ++ SL c.nodes)) [.v (.string (bs c.name)), .sl c.nodes.length (SL c.nodes), .v (.string (bs c.ref)), .v (.int .i64 c.value.1), .v (.int .i64 c.value.2), .v (.int .i64 c.wave.kind), .sl c.wave.vals.length (NC c.wave.vals), .sl c.wave.steps.length (IL c.wave.steps)] (s.nx + 1 + 1) (c.name :: c.nodes) := by
            refine ⟨?_, St.push_same _ _, ⟨by omega, Nat.lt_succ_self _⟩, fun k hk => ?_⟩
            · rw [St.push_ne (((s.push _).push _).kill _) _ _ (show s.nx ≠ s.nx + 1 + 1 by omega), St.kill_ne _ _ _ (by omega), St.push_ne (s.push _) _ _ (show s.nx ≠ s.nx + 1 by omega)]
              exact St.push_same _ _
            · rw [St.push_ne (((s.push _).push _).kill _) _ _ (show k ≠ s.nx + 1 + 1 by omega), St.kill_ne _ _ _ (by omega), St.push_ne (s.push _) _ _ (show k ≠ s.nx + 1 by omega), St.push_ne s _ _ (by omega)]
          generalize (((s.push [.v (.string (bs c.name)), .sl c.nodes.length (SL c.nodes), .v (.string (bs c.ref)), .v (.int .i64 c.value.1), .v (.int .i64 c.value.2), .v (.int .i64 c.wave.kind), .sl c.wave.vals.length (NC c.wave.vals), .sl c.wave.steps.length (IL c.wave.steps)]).push [.v (.string (bs c.name))]).kill (s.nx + 1)).push ([.v (.string (bs c.name))] ++ SL c.nodes) = s1 at *
          have hp : 0 < c.name.length := name_pos c.name (by unfold isDev at q1; rw [Bool.and_eq_true] at q1; exact q1.1)
          have lS := bs_size c.name
          have hg := bs_get c.name h1.1 0
          have gb := hL.b
          have hln : (c.name :: c.nodes).length = 1 + c.nodes.length := by rw [List.length_cons]; omega
          have hww := wordsC_eq c
          have hsh := shape_ax (c.name.getD 0 0)
          unfold shapeV at hsh
          refine go (cj rTI (cj @gb (cj @lS @hg))) ?_
          rw [← hln]
          have hl0 : (c.name :: c.nodes).length ≤ 9 := by omega
          generalize hL0 : c.name :: c.nodes = L0 at *
          generalize shapeK (c.name.getD 0 0) = f at *
          generalize hk0 : c.name.getD 0 0 = k at *
          obtain ⟨fa, fb, fc⟩ := f
          refine aw_reg fun K hK => ?_; refine rn rTI ?_; refine cont_pure hsh ?_; refine rn rTI ?_; refine hK _ _ ?_; clear hK K
          refine aw_seq ?_
          refine aw_only (fun e' s' => e'.n = 120 ∧ e'.m 1 = .ptr s.nx 0 ∧ e'.m 5 = .v (.int .u8 (k : Nat)) ∧ e'.m 8 = .v (.bool fc) ∧ ∃ id, e'.m 4 = .own id 0 (L0 ++ refW c k (fa, fb, fc)).length 1 ∧ LI s s' [.v (.string (bs c.name)), .sl c.nodes.length (SL c.nodes), .v (.string (bs c.ref)), .v (.int .i64 c.value.1), .v (.int .i64 c.value.2), .v (.int .i64 c.wave.kind), .sl c.wave.vals.length (NC c.wave.vals), .sl c.wave.steps.length (IL c.wave.steps)] id (L0 ++ refW c k (fa, fb, fc))) ?_ ?_
          · have gl := hL.l
            obtain ⟨o1, o2⟩ := hL.o
            have ll := sl_len L0
            have hA := hL.app (s1.push [SV c.ref]) (Nat.le_succ _) (fun k hk => St.push_ne s1 _ _ (by omega)) [c.ref]
            have hA2 : L0.length + 1 = (L0 ++ [c.ref]).length := by rw [List.length_append]; rfl
            unfold SV at hA
            cases fb with
            | true =>
              rw [show refW c k (fa, true, fc) = [c.ref] from if_pos (.inl rfl)]
              refine go rTI ?_
              refine ifs ?_ ?_ <;> first | exact nope | intro hb
              refine go (cj rTI (cj @gb (cj @gl @ll))) ?_
              refine ⟨rfl, ?_, ?_, ?_, ?_, s1.nx + 1, ?_, hA⟩
              all_goals ((first | refine rn rTI ?_ | exact rn0 rTI))
              all_goals (first | trivial | rfl | rw [hA2] | rw [hk2])
            | false =>
              by_cases hk : k = 120
              · have hk2 : (k : Int) = 120 := by omega
                rw [show refW c k (fa, false, fc) = [c.ref] from if_pos (.inr hk)]
                refine go (cj rTI @hk2) ?_
                refine ifs ?_ ?_ <;> first | exact nope | intro hb
                refine go (cj rTI (cj @gb (cj @gl @ll))) ?_
                refine ⟨rfl, ?_, ?_, ?_, ?_, s1.nx + 1, ?_, hA⟩
                all_goals ((first | refine rn rTI ?_ | exact rn0 rTI))
                all_goals (first | trivial | rfl | rw [hA2] | rw [hk2])
              · have hk2 : ¬ (k : Int) = 120 := by omega
                rw [show refW c k (fa, false, fc) = [] from if_neg (fun h => by rcases h with h | h; · cases h
                                                                                · exact hk h), List.append_nil]
                refine go (cj rTI @hk2) ?_
                refine ifs ?_ ?_ <;> first | exact nope | intro hb
                refine go rTI ?_
                exact ⟨s.nx + 1 + 1, rfl, hL⟩
          · clear hL gb e1 e2 e3 lS hg hsh
            have hl1 : (L0 ++ refW c k (fa, fb, fc)).length ≤ 10 := by
              rw [List.length_append]
              have : (refW c k (fa, fb, fc)).length ≤ 1 := by unfold refW; split <;> simp
              omega
            generalize L0 ++ refW c k (fa, fb, fc) = L1 at *
            rintro e2 s2 ⟨n1, p1, p5, p8, id, p4, hL⟩
            rw [then_normal]
            refine aw_seq ?_
            refine aw_only (fun e' s' => e'.n = 120 ∧ e'.m 1 = .ptr s.nx 0 ∧ e'.m 5 = .v (.int .u8 (k : Nat)) ∧ ∃ id, e'.m 4 = .own id 0 (L1 ++ valW c k (fa, fb, fc)).length 1 ∧ LI s s' [.v (.string (bs c.name)), .sl c.nodes.length (SL c.nodes), .v (.string (bs c.ref)), .v (.int .i64 c.value.1), .v (.int .i64 c.value.2), .v (.int .i64 c.wave.kind), .sl c.wave.vals.length (NC c.wave.vals), .sl c.wave.steps.length (IL c.wave.steps)] id (L1 ++ valW c k (fa, fb, fc))) ?_ ?_
            · have gb := hL.b
              have gl := hL.l
              obtain ⟨o1, o2⟩ := hL.o
              have ll := sl_len L1
              have hA := hL.app (s2.push [SV (textN c.value)]) (Nat.le_succ _) (fun k hk => St.push_ne s2 _ _ (by omega)) [textN c.value]
              have hA2 : L1.length + 1 = (L1 ++ [textN c.value]).length := by rw [List.length_append]; rfl
              have hp := ctext_ax c.value
              unfold NM SV at hp
              unfold SV at hA
              by_cases hk : fc = true ∧ k ≠ 120
              · obtain ⟨rfl, hk⟩ := hk
                have hk2 : ¬ (k : Int) = 120 := by omega
                rw [show valW c k (fa, fb, true) = [textN c.value] from if_pos ⟨rfl, hk⟩]
                refine go (cj rTI (cj @n1 (cj @p5 (cj @p8 @hk2)))) ?_
                refine ifs ?_ ?_ <;> first | exact nope | intro hb
                refine aw_reg fun K hK => ?_; refine rn (cj rTI (cj @p1 (cj @p4 (cj @gb (cj @gl @ll))))) ?_; refine cont_pure hp ?_; refine rn (cj rTI (cj @p1 (cj @p4 (cj @gb (cj @gl @ll))))) ?_; refine hK _ _ ?_; clear hK K
                refine go (cj rTI (cj @n1 (cj @p1 @p5))) ?_
                refine ⟨rfl, ?_, ?_, ?_, s2.nx + 1, ?_, hA⟩
                all_goals ((first | refine rn (cj @n1 (cj @p1 (cj @p4 @p5))) ?_ | exact rn0 (cj @n1 (cj @p1 (cj @p4 @p5)))))
                all_goals (first | trivial | rfl | rw [hA2] | rw [hk2])
              · rw [show valW c k (fa, fb, fc) = [] from if_neg hk, List.append_nil]
                cases fc with
                | false =>
                  refine go (cj rTI (cj @n1 (cj @p5 @p8))) ?_
                  refine ifs ?_ ?_ <;> first | exact nope | intro hb
                  refine go (cj rTI (cj @n1 (cj @p1 (cj @p5 @p4)))) ?_
                  exact ⟨id, rfl, hL⟩
                | true =>
                  have hk2 : (k : Int) = 120 := by
                    have : ¬ k ≠ 120 := fun h => hk ⟨rfl, h⟩
                    omega
                  refine go (cj rTI (cj @n1 (cj @p5 (cj @p8 @hk2)))) ?_
                  refine ifs ?_ ?_ <;> first | exact nope | intro hb
                  refine go (cj rTI (cj @n1 (cj @p1 (cj @p5 @p4)))) ?_
                  exact ⟨id, rfl, hL⟩
            · clear hL n1 p1 p4 p5 p8
              have hl2 : (L1 ++ valW c k (fa, fb, fc)).length ≤ 11 := by
                rw [List.length_append]
                have : (valW c k (fa, fb, fc)).length ≤ 1 := by unfold valW; split <;> simp
                omega
              generalize L1 ++ valW c k (fa, fb, fc) = L2 at *
              rintro e3 s3 ⟨n1, p1, p5, id2, p4, hL⟩
              rw [then_normal]
              refine aw_seq ?_
              refine aw_only (fun e' s' => e'.n = 120 ∧ e'.m 1 = .ptr s.nx 0 ∧ ∃ id, e'.m 4 = .own id 0 (L2 ++ wavW c k).length 1 ∧ LI s s' [.v (.string (bs c.name)), .sl c.nodes.length (SL c.nodes), .v (.string (bs c.ref)), .v (.int .i64 c.value.1), .v (.int .i64 c.value.2), .v (.int .i64 c.wave.kind), .sl c.wave.vals.length (NC c.wave.vals), .sl c.wave.steps.length (IL c.wave.steps)] id (L2 ++ wavW c k)) ?_ ?_
              · have gb := hL.b
                have gl := hL.l
                obtain ⟨o1, o2⟩ := hL.o
                have ll := sl_len L2
                have hA := hL.app s3 (Nat.le_refl _) (fun _ _ => rfl) (waveT c.wave)
                have hA2 : L2.length + (waveT c.wave).length = (L2 ++ waveT c.wave).length := by rw [List.length_append]
                have hp := writeW_ax c.wave (by omega) (by omega) h6
                have hwl := (waveT_by c.wave h6).1
                have e1 := sl_len (waveT c.wave)
                have e2 := sl_take (waveT c.wave)
                have e3 := sl_one (waveT c.wave)
                unfold WA NV IV iv TV at hp
                generalize hT : waveT c.wave = T at *
                by_cases hk : k = 118
                · have hk2 : (k : Int) = 118 := by omega
                  rw [show wavW c k = T from (if_pos (.inl hk)).trans hT]
                  refine go (cj rTI (cj @n1 (cj @p5 @hk2))) ?_
                  refine ifs ?_ ?_ <;> first | exact nope | intro hb
                  refine aw_reg fun K hK => ?_; refine rn (cj rTI (cj @p1 (cj @p4 (cj @gb (cj @gl (cj @ll (cj @e1 (cj @e2 @e3)))))))) ?_; refine cont_pure hp ?_; refine rn (cj rTI (cj @p1 (cj @p4 (cj @gb (cj @gl (cj @ll (cj @e1 (cj @e2 @e3)))))))) ?_; refine hK _ _ ?_; clear hK K
                  refine go (cj rTI (cj @n1 @p1)) ?_
                  refine ⟨rfl, ?_, ?_, s3.nx, ?_, hA⟩
                  all_goals ((first | refine rn (cj @n1 (cj @p1 (cj @p4 @p5))) ?_ | exact rn0 (cj @n1 (cj @p1 (cj @p4 @p5)))))
                  all_goals (first | trivial | rfl | rw [hA2])
                · have hk2 : ¬ (k : Int) = 118 := by omega
                  by_cases hk3 : k = 105
                  · have hk4 : (k : Int) = 105 := by omega
                    rw [show wavW c k = T from (if_pos (.inr hk3)).trans hT]
                    refine go (cj rTI (cj @n1 (cj @p5 @hk4))) ?_
                    refine ifs ?_ ?_ <;> first | exact nope | intro hb
                    refine aw_reg fun K hK => ?_; refine rn (cj rTI (cj @p1 (cj @p4 (cj @gb (cj @gl (cj @ll (cj @e1 (cj @e2 @e3)))))))) ?_; refine cont_pure hp ?_; refine rn (cj rTI (cj @p1 (cj @p4 (cj @gb (cj @gl (cj @ll (cj @e1 (cj @e2 @e3)))))))) ?_; refine hK _ _ ?_; clear hK K
                    refine go (cj rTI (cj @n1 @p1)) ?_
                    refine ⟨rfl, ?_, ?_, s3.nx, ?_, hA⟩
                    all_goals ((first | refine rn (cj @n1 (cj @p1 (cj @p4 @p5))) ?_ | exact rn0 (cj @n1 (cj @p1 (cj @p4 @p5)))))
                    all_goals (first | trivial | rfl | rw [hA2])
                  · have hk4 : ¬ (k : Int) = 105 := by omega
                    rw [show wavW c k = [] from if_neg (fun h => h.elim hk hk3), List.append_nil]
                    refine go (cj rTI (cj @n1 (cj @p5 (cj @hk2 @hk4)))) ?_
                    refine ifs ?_ ?_ <;> first | exact nope | intro hb
                    refine go (cj rTI (cj @n1 (cj @p1 @p4))) ?_
                    exact ⟨id2, rfl, hL⟩
              · clear hL n1 p1 p4 p5
                rintro e4 s4 ⟨n1, p1, id3, p4, hL⟩
                rw [then_normal]
                rw [← hww] at hL p4
                obtain ⟨o1, o2⟩ := hL.o
                have hwl : (wordsC c).length ≤ 100 := by
                  rw [hww, List.length_append]
                  have : (wavW c k).length ≤ 65 := by
                    unfold wavW
                    split
                    · have := (waveT_by c.wave h6).1
                      omega
                    · exact Nat.zero_le _
                  omega
                have hwb := words_by c ⟨h1, h2, h3, h4, h5, h6⟩
                have hrd := read_ax (wordsC c) (fun x hx => (hwb x hx).1) (fun x hx => (hwb x hx).2) (by omega)
                have hrb := read_by (wordsC c) (fun x hx => (hwb x hx).1)
                have hwr : writeC c = if (readC (wordsC c)).2 = 0 ∧ (readC (wordsC c)).1.ref = c.ref ∧ (readC (wordsC c)).1.value = c.value ∧ (readC (wordsC c)).1.nodes = c.nodes ∧ sameW (readC (wordsC c)).1.wave c.wave = true then (wordsC c, 0) else ([], 70) := if_pos ⟨q1, q2, q3, q4⟩
                rw [hwr]
                clear hwr hww hwb hno hln hl0 hl1 hl2 hL0
                generalize readC (wordsC c) = d at *
                generalize wordsC c = W at *
                obtain ⟨d, er⟩ := d
                simp only at hrb ⊢
                refine aw_freeze2 id3 _ hL.l (fun _ => false) fun e5 s5 f1 f2 f3 f4 => ?_
                have m1 : e5.n = 120 := f1.trans n1
                have m2 : e5.m 1 = .ptr s.nx 0 := by rw [f2, p1, frz_ptr_ne _ _ _ _ (by omega)]
                have m4 : e5.m 4 = .sl W.length (SL W) := by rw [f2, p4, frz_SL]; rfl
                have gb : s5.get s.nx = some [.v (.string (bs c.name)), .sl c.nodes.length (SL c.nodes), .v (.string (bs c.ref)), .v (.int .i64 c.value.1), .v (.int .i64 c.value.2), .v (.int .i64 c.wave.kind), .sl c.wave.vals.length (NC c.wave.vals), .sl c.wave.steps.length (IL c.wave.steps)] := by
                  rw [f4, if_neg (by omega), if_neg Bool.false_ne_true]
                  exact hL.b
                have fr : ∀ i, i < s.nx → s5.get i = s.get i := fun i hi => by
                  rw [f4, if_neg (by omega), if_neg Bool.false_ne_true]
                  exact hL.fr i hi
                have hnx : s.nx < s5.nx := by rw [f3]; omega
                clear f1 f2 f3 f4 n1 p1 p4 hL
                unfold RA CA SV TV NV IV iv at hrd
                simp only at hrd
                refine go (cj rTI (cj @m1 @m4)) ?_
                refine aw_reg fun K hK => ?_; refine rn (cj rTI (cj @m1 @m4)) ?_; refine cont_pure hrd ?_; refine rn (cj rTI (cj @m1 @m4)) ?_; refine hK _ _ ?_; clear hK K
                have hrr := str_ne d.ref c.ref hrb.1 h3.1
                have hf5 : eqOk Tryz.prog 24 = true := by kernel_rfl
                have hf6 : (d.value.1 == c.value.1 && d.value.2 == c.value.2) = decide (d.value = c.value) := by rw [Bool.eq_iff_iff, decide_eq_true_eq, Prod.ext_iff]; simp
                have hnd := equalS_ax d.nodes c.nodes hrb.2.1 h2.1 (by omega) h2.2.2
                have hsw := sameW_ax d.wave c.wave (by omega) (by omega) h4 h5
                unfold TV at hnd
                unfold WA NV IV iv at hsw
                by_cases x1 : er = 0
                · by_cases x2 : d.ref = c.ref
                  · rw [decide_eq_true x2] at hrr
                    by_cases x3 : d.value = c.value
                    · rw [decide_eq_true x3] at hf6
                      by_cases x4 : d.nodes = c.nodes
                      · rw [decide_eq_true x4] at hnd
                        generalize sameW d.wave c.wave = x5 at *
                        cases x5 with
                        | true =>
                          rw [if_pos ⟨x1, x2, x3, x4, rfl⟩]
                          rw [then_normal]
                          refine aw_seq ?_
                          refine aw_seq ?_
                          refine aw_reg fun K hK => ?_; refine rn (cj rTI (cj @m1 (cj @m2 (cj @gb (cj @hnx (cj @x1 (cj @hrr (cj @hf5 @hf6)))))))) ?_; refine cont_pure hnd ?_; refine rn (cj rTI (cj @m1 (cj @m2 (cj @gb (cj @hnx (cj @x1 (cj @hrr (cj @hf5 @hf6)))))))) ?_; refine cont_pure hsw ?_; refine rn (cj rTI (cj @m1 (cj @m2 (cj @gb (cj @hnx (cj @x1 (cj @hrr (cj @hf5 @hf6)))))))) ?_; refine hK _ _ ?_; clear hK K
                          refine ifs ?_ ?_ <;> first | exact nope | intro hb
                          refine go (cj rTI (cj @m1 @m4)) ?_
                          exact ⟨Le.refl _, pa_idf _, fun i hi => by rw [if_neg (by omega)]; exact fr i hi⟩
                        | false =>
                          rw [if_neg fun h => by cases h.2.2.2.2]
                          rw [then_normal]
                          refine aw_seq ?_
                          refine aw_seq ?_
                          refine aw_reg fun K hK => ?_; refine rn (cj rTI (cj @m1 (cj @m2 (cj @gb (cj @hnx (cj @x1 (cj @hrr (cj @hf5 @hf6)))))))) ?_; refine cont_pure hnd ?_; refine rn (cj rTI (cj @m1 (cj @m2 (cj @gb (cj @hnx (cj @x1 (cj @hrr (cj @hf5 @hf6)))))))) ?_; refine cont_pure hsw ?_; refine rn (cj rTI (cj @m1 (cj @m2 (cj @gb (cj @hnx (cj @x1 (cj @hrr (cj @hf5 @hf6)))))))) ?_; refine hK _ _ ?_; clear hK K
                          refine ifs ?_ ?_ <;> first | exact nope | intro hb
                          refine go (cj rTI @m1) ?_
                          exact ⟨pa_err 70, pa_idf _, fun i hi => by rw [if_neg (by omega)]; exact fr i hi⟩
                      · rw [decide_eq_false x4] at hnd
                        rw [if_neg fun h => x4 h.2.2.2.1]
                        rw [then_normal]
                        refine aw_seq ?_
                        refine aw_seq ?_
                        refine aw_reg fun K hK => ?_; refine rn (cj rTI (cj @m1 (cj @m2 (cj @gb (cj @hnx (cj @x1 (cj @hrr (cj @hf5 @hf6)))))))) ?_; refine cont_pure hnd ?_; refine rn (cj rTI (cj @m1 (cj @m2 (cj @gb (cj @hnx (cj @x1 (cj @hrr (cj @hf5 @hf6)))))))) ?_; refine hK _ _ ?_; clear hK K
                        refine ifs ?_ ?_ <;> first | exact nope | intro hb
                        refine go (cj rTI @m1) ?_
                        exact ⟨pa_err 70, pa_idf _, fun i hi => by rw [if_neg (by omega)]; exact fr i hi⟩
                    · rw [decide_eq_false x3] at hf6
                      rw [if_neg fun h => x3 h.2.2.1]
                      rw [then_normal]
                      refine aw_seq ?_
                      refine aw_seq ?_
                      refine go (cj rTI (cj @m1 (cj @m2 (cj @gb (cj @hnx (cj @x1 (cj @hrr (cj @hf5 @hf6)))))))) ?_
                      refine ifs ?_ ?_ <;> first | exact nope | intro hb
                      refine go (cj rTI @m1) ?_
                      exact ⟨pa_err 70, pa_idf _, fun i hi => by rw [if_neg (by omega)]; exact fr i hi⟩
                  · rw [decide_eq_false x2] at hrr
                    rw [if_neg fun h => x2 h.2.1]
                    rw [then_normal]
                    refine aw_seq ?_
                    refine aw_seq ?_
                    refine go (cj rTI (cj @m1 (cj @m2 (cj @gb (cj @hnx (cj @x1 @hrr)))))) ?_
                    refine ifs ?_ ?_ <;> first | exact nope | intro hb
                    refine go (cj rTI @m1) ?_
                    exact ⟨pa_err 70, pa_idf _, fun i hi => by rw [if_neg (by omega)]; exact fr i hi⟩
                · rw [if_neg fun h => x1 h.1]
                  rw [then_normal]
                  refine aw_seq ?_
                  refine aw_seq ?_
                  refine go (cj rTI (cj @m1 (cj @m2 (cj @gb (cj @hnx @x1))))) ?_
                  refine ifs ?_ ?_ <;> first | exact nope | intro hb
                  refine go (cj rTI @m1) ?_
                  exact ⟨pa_err 70, pa_idf _, fun i hi => by rw [if_neg (by omega)]; exact fr i hi⟩
        · rw [hno fun h => q4 h.2.2.2]
          refine acall_of Tryz.func31 rfl rfl (by simp [Tryz.ntmps31]) ?_; rw [Tryz.ntmps31, Tryz.results31]
          refine go rTI ?_
          refine aw_reg fun K hK => ?_; refine rn rTI ?_; refine cont_pure hd ?_; refine rn rTI ?_; refine hK _ _ ?_; clear hK K
          refine ifs ?_ ?_ <;> first | exact nope | intro hb
          refine go rTI ?_
          exact ⟨pa_err 70, pa_idf _, fun i hi => if_neg (by omega)⟩
      · rw [hno fun h => q3 h.2.2.1]
        refine acall_of Tryz.func31 rfl rfl (by simp [Tryz.ntmps31]) ?_; rw [Tryz.ntmps31, Tryz.results31]
        refine go rTI ?_
        refine aw_reg fun K hK => ?_; refine rn rTI ?_; refine cont_pure hd ?_; refine rn rTI ?_; refine hK _ _ ?_; clear hK K
        refine ifs ?_ ?_ <;> first | exact nope | intro hb
        refine go rTI ?_
        exact ⟨pa_err 70, pa_idf _, fun i hi => if_neg (by omega)⟩
    · rw [hno fun h => q2 h.2.1]
      refine acall_of Tryz.func31 rfl rfl (by simp [Tryz.ntmps31]) ?_; rw [Tryz.ntmps31, Tryz.results31]
      refine go rTI ?_
      refine aw_reg fun K hK => ?_; refine rn rTI ?_; refine cont_pure hd ?_; refine rn rTI ?_; refine hK _ _ ?_; clear hK K
      refine ifs ?_ ?_ <;> first | exact nope | intro hb
      refine go rTI ?_
      exact ⟨pa_err 70, pa_idf _, fun i hi => if_neg (by omega)⟩
  · rw [hno fun h => q1 h.1]
    rw [Bool.eq_false_iff.2 q1] at hd
    refine acall_of Tryz.func31 rfl rfl (by simp [Tryz.ntmps31]) ?_; rw [Tryz.ntmps31, Tryz.results31]
    refine go rTI ?_
    refine aw_reg fun K hK => ?_; refine rn rTI ?_; refine cont_pure hd ?_; refine rn rTI ?_; refine hK _ _ ?_; clear hK K
    refine ifs ?_ ?_ <;> first | exact nope | intro hb
    refine go rTI ?_
    exact ⟨pa_err 70, pa_idf _, fun i hi => if_neg (by omega)⟩
end Go.Proofs.YtfjelkjlfcafgaaGreatDoor.CardK
end
section
/- Models: Valid. -/
namespace Go.Proofs.YtfjelkjlfcafgaaGreatDoor.CardL
open Go Go.RowKit Go.Proofs.YtfjelkjlfcafgaaGreatDoor.Ax Go.Proofs.YtfjelkjlfcafgaaGreatDoor.Ti Go.Proofs.YtfjelkjlfcafgaaGreatDoor.NumS Go.Proofs.YtfjelkjlfcafgaaGreatDoor.NumT Go.Proofs.YtfjelkjlfcafgaaGreatDoor.CardS Go.Proofs.YtfjelkjlfcafgaaGreatDoor.CardP Go.Proofs.YtfjelkjlfcafgaaGreatDoor.CardA Go.Proofs.YtfjelkjlfcafgaaGreatDoor.CardB Go.Proofs.YtfjelkjlfcafgaaGreatDoor.CardC Go.Proofs.YtfjelkjlfcafgaaGreatDoor.CardD Go.Proofs.YtfjelkjlfcafgaaGreatDoor.CardE Go.Proofs.YtfjelkjlfcafgaaGreatDoor.CardF Go.Proofs.YtfjelkjlfcafgaaGreatDoor.CardG Go.Proofs.YtfjelkjlfcafgaaGreatDoor.CardH Go.Proofs.YtfjelkjlfcafgaaGreatDoor.CardI Go.Proofs.YtfjelkjlfcafgaaGreatDoor.CardJ Go.Proofs.YtfjelkjlfcafgaaGreatDoor.CardK
open Go.Proofs.YtfjelkjlfcafgaaGreatDoor.NumA (NM)
set_option linter.unusedSimpArgs false
set_option linter.unusedVariables false
set_option maxRecDepth 4000
set_option maxHeartbeats 2000000
theorem rTI : type_of% (cj @ti3 (cj @ti4 (cj @ti9 (cj @ti5 (cj @ti2 (cj @ti36 (cj @ti63 (cj @ti62 (cj @ti191 (cj @ti24 (cj @ti82 (cj @ti25 (cj @Nat.zero_add (cj @tz0 (cj @tz1 (cj @tz3 (cj @Nat.mul_one @Int.toNat_natCast))))))))))))))))) := cj @ti3 (cj @ti4 (cj @ti9 (cj @ti5 (cj @ti2 (cj @ti36 (cj @ti63 (cj @ti62 (cj @ti191 (cj @ti24 (cj @ti82 (cj @ti25 (cj @Nat.zero_add (cj @tz0 (cj @tz1 (cj @tz3 (cj @Nat.mul_one @Int.toNat_natCast))))))))))))))))
def MA (m : Mdl) : AV := .ag [SV m.name, .v (.int .u8 m.kind), NV m.g, NV m.v]
theorem risingN_of : ∀ (S : List Num), (∀ i, i + 1 < S.length → sLess (S.getD i (0, 0)) (S.getD (i + 1) (0, 0)) = true) → risingN S = true
  | [], _ => rfl
  | [_], _ => rfl
  | a :: b :: r, h => by
    show (sLess a b && risingN (b :: r)) = true
    rw [Bool.and_eq_true]
    refine ⟨h 0 (by simp), risingN_of (b :: r) fun i hi => ?_⟩
    have := h (i + 1) (by simpa using hi)
    simpa using this
theorem risingN_not : ∀ (S : List Num) (i : Nat), i + 1 < S.length → sLess (S.getD i (0, 0)) (S.getD (i + 1) (0, 0)) = false → risingN S = false
  | [], _, h, _ => by simp at h
  | [_], _, h, _ => by simp at h
  | a :: b :: r, 0, h, q => by
    show (sLess a b && risingN (b :: r)) = false
    have : sLess a b = false := q
    rw [this, Bool.false_and]
  | a :: b :: r, i + 1, h, q => by
    show (sLess a b && risingN (b :: r)) = false
    rw [risingN_not (b :: r) i (by simpa using h) (by simpa using q), Bool.and_false]
def kindM (k : Int) (g v : List Num) : Bool := if k = 115 then decide (g.length = 2 ∧ v.length = 1) else if k = 100 then decide (1 ≤ g.length ∧ g.length ≤ 4 ∧ v.length + 1 = g.length) && risingN v else false
theorem modelOk_eq (n : Str) (k : Int) (g v : List Num) : modelOk ⟨n, k, g, v⟩ = (isName n && g.all valid && v.all valid && kindM k g v) := rfl
theorem mvalid_ax (m : Mdl) (hn : By m.name ∧ m.name.length ≤ 281474976710656) (hg : m.g.length ≤ 9223372036854775807) (hv : m.v.length ≤ 9223372036854775807) : PCall Tryz.prog 98 [MA m] (.v (.bool (modelOk m))) := by
  refine pcall_of fun s => ?_
  obtain ⟨nm, kd, G, V⟩ := m
  rw [modelOk_eq]
  simp only at hn hg hv
  have hnm := name_ax nm hn.1 (by have := hn.2; omega)
  unfold MA NV
  unfold SV at hnm ⊢
  simp only
  cases hc : isName nm with
  | false =>
    rw [hc] at hnm
    rw [Bool.false_and, Bool.false_and, Bool.false_and]
    refine acall_of Tryz.func98 rfl rfl (by simp [Tryz.ntmps98]) ?_; rw [Tryz.ntmps98, Tryz.results98]
    refine go rTI ?_
    refine aw_reg fun K hK => ?_; refine rn rTI ?_; refine cont_pure hnm ?_; refine rn rTI ?_; refine hK _ _ ?_; clear hK K
    refine ifs ?_ ?_ <;> first | exact nope | intro hb
    refine go rTI ?_
    exact fun i hi => if_neg (by omega)
  | true =>
    rw [hc] at hnm
    rw [Bool.true_and]
    refine acall_of Tryz.func98 rfl rfl (by simp [Tryz.ntmps98]) ?_; rw [Tryz.ntmps98, Tryz.results98]
    refine go rTI ?_
    refine aw_reg fun K hK => ?_; refine rn rTI ?_; refine cont_pure hnm ?_; refine rn rTI ?_; refine hK _ _ ?_; clear hK K
    refine ifs ?_ ?_ <;> first | exact nope | intro hb
    refine go rTI ?_
    refine aw_loop (fun m e s' => ∃ j, m = 2 - j ∧ j ≤ 2 ∧ e.n = 93 ∧ e.m 1 = .ptr s.nx 0 ∧ e.m 18 = .ag [.sl G.length (NC G), .sl V.length (NC V)] ∧ e.m 19 = .v (.int .i64 (j : Nat)) ∧ (1 ≤ j → G.all valid = true) ∧ (2 ≤ j → V.all valid = true) ∧ s.nx < s'.nx ∧ s'.get s.nx = some [.v (.string (bs nm)), .v (.int .u8 kd), .sl G.length (NC G), .sl V.length (NC V)] ∧ ∀ i, i < s.nx → s'.get i = s.get i) 2 ?_ ?_
    · refine ⟨0, by omega, by omega, ?_, ?_, ?_, ?_, fun h => by omega, fun h => by omega, Nat.lt_succ_self _, St.push_same _ _, fun i hi => St.push_ne s _ _ (by omega)⟩
      all_goals ((first | refine rn rTI ?_ | exact rn0 rTI))
      all_goals (first | rfl | trivial)
    · rintro m e s' ⟨j, rfl, hj, h1, k1, k18, k19, hG, hV, hn2, gb, fr⟩
      by_cases hj2 : j < 2
      · obtain ⟨L, hh, hbad, hok, hL⟩ : ∃ L : List Num, ([AV.sl G.length (NC G), AV.sl V.length (NC V)].drop j).head? = some (.sl L.length (NC L)) ∧ (L.all valid = false → (G.all valid && V.all valid && kindM kd G V) = false) ∧ (L.all valid = true → (1 ≤ j + 1 → G.all valid = true) ∧ (2 ≤ j + 1 → V.all valid = true)) ∧ L.length ≤ 9223372036854775807 := by
          match j, hj2 with
          | 0, _ => exact ⟨G, rfl, fun h => by rw [h, Bool.false_and, Bool.false_and], fun h => ⟨fun _ => h, fun q => by omega⟩, hg⟩
          | 1, _ => exact ⟨V, rfl, fun h => by rw [h, Bool.and_false, Bool.false_and], fun h => ⟨fun _ => hG (by omega), fun _ => h⟩, hv⟩
        refine go (cj rTI (cj @h1 @k19)) ?_
        refine ifs ?_ ?_ <;> first | exact nope | intro hb
        refine aw_skip ?_
        refine go (cj rTI (cj @h1 (cj @k18 (cj @k19 @hh)))) ?_
        clear hG hV hh
        refine aw_loop (fun m e2 s2 => ∃ k, m = L.length - k ∧ k ≤ L.length ∧ e2.n = 93 ∧ e2.m 1 = .ptr s.nx 0 ∧ e2.m 18 = .ag [.sl G.length (NC G), .sl V.length (NC V)] ∧ e2.m 19 = .v (.int .i64 (j : Nat)) ∧ e2.m 22 = .sl L.length (NC L) ∧ e2.m 23 = .v (.int .i64 L.length) ∧ e2.m 24 = .v (.int .i64 (k : Nat)) ∧ (L.take k).all valid = true ∧ s.nx < s2.nx ∧ s2.get s.nx = some [.v (.string (bs nm)), .v (.int .u8 kd), .sl G.length (NC G), .sl V.length (NC V)] ∧ ∀ i, i < s.nx → s2.get i = s.get i) L.length ?_ ?_
        · refine ⟨0, by omega, by omega, ?_, ?_, ?_, ?_, ?_, ?_, ?_, rfl, hn2, gb, fr⟩
          all_goals ((first | refine rn (cj rTI (cj @h1 (cj @k1 (cj @k18 @k19)))) ?_ | exact rn0 (cj rTI (cj @h1 (cj @k1 (cj @k18 @k19))))))
          all_goals (first | rfl | trivial)
        · clear h1 k1 k18 k19 hn2 gb fr
          rintro m e2 s2 ⟨k, rfl, hk, h1, k1, k18, k19, k22, k23, k24, ha, hn2, gb, fr⟩
          by_cases hk2 : k < L.length
          · have f1 := nc_at L k hk2
            have f2 : 2 ≤ ((NC L).drop (k * 2)).length := by rw [List.length_drop, nc_len]; omega
            have hp : PCall Tryz.prog 18 [NM (L.getD k (0, 0)).1 (L.getD k (0, 0)).2] (.v (.bool (valid (L.getD k (0, 0))))) := NumA.valid_ax _ _
            have ht := take_all valid L (0, 0) k hk2 ha
            have hf := all_not valid L (0, 0) k hk2
            unfold iv at f1
            unfold NM at hp
            generalize L.getD k (0, 0) = n at *
            refine go (cj rTI (cj @h1 (cj @k23 @k24))) ?_
            refine ifs ?_ ?_ <;> first | exact nope | intro hb
            refine aw_skip ?_
            refine go (cj rTI (cj @h1 (cj @k22 (cj @k24 (cj @f1 @f2))))) ?_
            refine aw_reg fun K hK => ?_; refine rn rTI ?_; refine cont_pure hp ?_; refine rn rTI ?_; refine hK _ _ ?_; clear hK K
            cases hc : valid n with
            | false =>
              rw [hbad (hf hc)]
              refine ifs ?_ ?_ <;> first | exact nope | intro hb
              refine go (cj rTI @h1) ?_
              exact fun i hi => by rw [if_neg (by omega)]; exact fr i hi
            | true =>
              rw [hc] at ht
              refine ifs ?_ ?_ <;> first | exact nope | intro hb
              refine go (cj rTI (cj @h1 @k24)) ?_
              simp only [block_normal, loop_normal]
              refine ⟨L.length - (k + 1), by omega, k + 1, rfl, by omega, ?_, ?_, ?_, ?_, ?_, ?_, ?_, ht, ?_, ?_, ?_⟩
              all_goals ((first | refine rn (cj rTI (cj @h1 (cj @k1 (cj @k18 (cj @k19 (cj @k22 (cj @k23 @k24))))))) ?_ | exact rn0 (cj rTI (cj @h1 (cj @k1 (cj @k18 (cj @k19 (cj @k22 (cj @k23 @k24)))))))))
              all_goals (first | rfl | trivial | (rw [St.nx_push]; omega) | omega | (intro i hi; rw [if_neg (by omega)]; exact fr i hi) | skip)
          · obtain rfl : k = L.length := by omega
            rw [List.take_length] at ha
            obtain ⟨hG, hV⟩ := hok ha
            refine go (cj rTI (cj @h1 (cj @k19 (cj @k23 @k24)))) ?_
            refine ifs ?_ ?_ <;> first | exact nope | intro hb
            refine go (cj rTI (cj @h1 @k19)) ?_
            simp only [block_normal, loop_normal]
            refine ⟨2 - (j + 1), by omega, j + 1, rfl, by omega, ?_, ?_, ?_, ?_, hG, hV, hn2, gb, fr⟩
            all_goals ((first | refine rn (cj rTI (cj @h1 (cj @k1 (cj @k18 @k19)))) ?_ | exact rn0 (cj rTI (cj @h1 (cj @k1 (cj @k18 @k19))))))
            all_goals (first | rfl | trivial)
      · obtain rfl : j = 2 := by omega
        have hVa : ∀ i, i < V.length → valid (V.getD i (0, 0)) = true := fun i hi => by
          rw [List.getD_eq_getElem?_getD, List.getElem?_eq_getElem hi]
          exact List.all_eq_true.1 (hV (by omega)) _ (List.getElem_mem _)
        rw [hG (by omega), hV (by omega), Bool.true_and, Bool.true_and]
        clear hG hV hj hj2
        unfold kindM
        by_cases q1 : kd = 115
        · rw [if_pos q1]
          subst q1
          have hd2 : decide (G.length = 2 ∧ V.length = 1) = (decide (G.length = 2) && decide (V.length = 1)) := by rw [Bool.decide_and]
          rw [hd2]
          refine go (cj rTI (cj @h1 (cj @k1 (cj @k19 @gb)))) ?_
          refine ifs ?_ ?_ <;> first | exact nope | intro hb
          refine go (cj rTI (cj @h1 (cj @k1 @gb))) ?_
          refine ifs ?_ ?_ <;> first | exact nope | intro hb
          by_cases c1 : G.length = 2
          · by_cases c2 : V.length = 1
            · rw [decide_eq_true c1, decide_eq_true c2]
              refine go (cj rTI (cj @h1 (cj @k1 @gb))) ?_
              exact fr
            · rw [decide_eq_true c1, decide_eq_false c2]
              refine go (cj rTI (cj @h1 (cj @k1 @gb))) ?_
              exact fr
          · rw [decide_eq_false c1, Bool.false_and]
            refine go (cj rTI (cj @h1 (cj @k1 @gb))) ?_
            exact fr
        rw [if_neg q1]
        by_cases q2 : kd = 100
        · rw [if_pos q2]
          subst q2
          refine go (cj rTI (cj @h1 (cj @k1 (cj @k19 @gb)))) ?_
          refine ifs ?_ ?_ <;> first | exact nope | intro hb
          refine go (cj rTI (cj @h1 (cj @k1 @gb))) ?_
          refine ifs ?_ ?_ <;> first | exact nope | intro hb
          refine go (cj rTI (cj @h1 (cj @k1 @gb))) ?_
          refine ifs ?_ ?_ <;> first | exact nope | intro hb
          rcases (by omega : G.length < 1 ∨ (1 ≤ G.length ∧ 4 < G.length) ∨ (1 ≤ G.length ∧ G.length ≤ 4 ∧ ¬ V.length + 1 = G.length) ∨ (1 ≤ G.length ∧ G.length ≤ 4 ∧ V.length + 1 = G.length)) with c | ⟨c1, c2⟩ | ⟨c1, c2, c3⟩ | ⟨c1, c2, c3⟩
          · rw [decide_eq_false (fun h => by omega), Bool.false_and]
            refine go (cj rTI (cj @h1 (cj @k1 @gb))) ?_
            refine ifs ?_ ?_ <;> first | exact nope | intro hb
            refine go (cj rTI @h1) ?_
            exact fr
          · rw [decide_eq_false (fun h => by omega), Bool.false_and]
            refine go (cj rTI (cj @h1 (cj @k1 @gb))) ?_
            refine ifs ?_ ?_ <;> first | exact nope | intro hb
            refine go (cj rTI @h1) ?_
            exact fr
          · rw [decide_eq_false (fun h => by omega), Bool.false_and]
            refine go (cj rTI (cj @h1 (cj @k1 @gb))) ?_
            refine ifs ?_ ?_ <;> first | exact nope | intro hb
            refine go (cj rTI @h1) ?_
            exact fr
          · rw [decide_eq_true ⟨c1, c2, c3⟩, Bool.true_and]
            refine go (cj rTI (cj @h1 (cj @k1 @gb))) ?_
            refine ifs ?_ ?_ <;> first | exact nope | intro hb
            refine go (cj rTI @h1) ?_
            refine aw_loop (fun m e2 s2 => ∃ j, m = V.length - j ∧ j ≤ V.length ∧ e2.n = 93 ∧ e2.m 1 = .ptr s.nx 0 ∧ e2.m 7 = .v (.int .i64 ((j : Int) + 1)) ∧ (∀ i, i < j → i + 1 < V.length → sLess (V.getD i (0, 0)) (V.getD (i + 1) (0, 0)) = true) ∧ s2 = s') V.length ?_ ?_
            · refine ⟨0, by omega, by omega, ?_, ?_, ?_, fun i hi => by omega, ?_⟩
              all_goals ((first | refine rn (cj rTI (cj @h1 @k1)) ?_ | exact rn0 (cj rTI (cj @h1 @k1))))
              all_goals (first | rfl | trivial)
            · clear h1 k1 k18 k19
              rintro m e2 s2 ⟨j, rfl, hj, h1, k1, k7, hr, rfl⟩
              by_cases hj2 : j + 1 < V.length
              · have f1 := nc_at V j (by omega)
                have f2 : 2 ≤ ((NC V).drop (j * 2)).length := by rw [List.length_drop, nc_len]; omega
                have f3 := nc_at V (j + 1) hj2
                have f4 : 2 ≤ ((NC V).drop ((j + 1) * 2)).length := by rw [List.length_drop, nc_len]; omega
                have hcm := NumB.cmp_ax (V.getD j (0, 0)).1 (V.getD j (0, 0)).2 (V.getD (j + 1) (0, 0)).1 (V.getD (j + 1) (0, 0)).2
                rw [NumB.cmpNN_eq, if_pos ⟨hVa j (by omega), hVa (j + 1) hj2⟩, show @BigI.sgn = @RefC.sgn from rfl] at hcm
                have hnr := risingN_not V j hj2
                have hpr : sLess (V.getD j (0, 0)) (V.getD (j + 1) (0, 0)) = true → ∀ i, i < j + 1 → i + 1 < V.length → sLess (V.getD i (0, 0)) (V.getD (i + 1) (0, 0)) = true := fun h i hi hi2 => by
                  by_cases q : i = j
                  · subst q; exact h
                  · exact hr i (by omega) hi2
                have hsl : sLess (V.getD j (0, 0)) (V.getD (j + 1) (0, 0)) = decide (RefC.sgn ((RefM.ofN (V.getD j (0, 0)).1 (V.getD j (0, 0)).2).1 * (RefM.ofN (V.getD (j + 1) (0, 0)).1 (V.getD (j + 1) (0, 0)).2).2 - (RefM.ofN (V.getD (j + 1) (0, 0)).1 (V.getD (j + 1) (0, 0)).2).1 * (RefM.ofN (V.getD j (0, 0)).1 (V.getD j (0, 0)).2).2) < 0) := rfl
                rw [hsl] at hnr hpr
                clear hr hsl
                generalize hz : RefC.sgn ((RefM.ofN (V.getD j (0, 0)).1 (V.getD j (0, 0)).2).1 * (RefM.ofN (V.getD (j + 1) (0, 0)).1 (V.getD (j + 1) (0, 0)).2).2 - (RefM.ofN (V.getD (j + 1) (0, 0)).1 (V.getD (j + 1) (0, 0)).2).1 * (RefM.ofN (V.getD j (0, 0)).1 (V.getD j (0, 0)).2).2) = z at hcm hnr hpr
                clear hz
                unfold iv at f1 f3
                unfold NM at hcm
                generalize V.getD (j + 1) (0, 0) = x1 at *
                generalize V.getD j (0, 0) = x0 at *
                have hj3 : (j : Int) + 1 - 1 = (j : Int) := by omega
                have hj4 : ((j : Int) + 1).toNat = j + 1 := by omega
                refine go (cj rTI (cj @h1 (cj @k1 (cj @k7 @gb)))) ?_
                refine ifs ?_ ?_ <;> first | exact nope | intro hb
                refine aw_skip ?_
                refine go rTI ?_
                refine aw_drw (.take 0 (.take 1 (.take 2 (.take 3 (.take 4 (.take 5 (.take 6 (.take 7 (.take 8 (.take 9 (.take 10 (.one 11 (.take 12 (.take 13 (.take 14 (.take 15 (.take 16 (.done)))))))))))))))))) [s.nx] (by kernel_rfl) (by kernel_rfl) fun K hK => ?_; refine dr (cj rTI (cj @h1 (cj @k1 (cj @k7 (cj @gb (cj @f1 (cj @f2 (cj @f3 (cj @f4 (cj @hj3 @hj4)))))))))) ?_; refine cont_pure hcm ?_; refine dr (cj rTI (cj @h1 (cj @k1 (cj @k7 (cj @gb (cj @f1 (cj @f2 (cj @f3 (cj @f4 (cj @hj3 @hj4)))))))))) ?_; refine hK _ _ ?_; clear hK K
                by_cases c : z < 0
                · refine go (cj rTI @h1) ?_
                  refine ifs ?_ ?_ <;> first | exact nope | intro hb
                  have hp2 := hpr (decide_eq_true c)
                  refine go (cj rTI (cj @h1 @k7)) ?_
                  try simp only [block_normal, loop_normal]
                  refine ⟨V.length - (j + 1), by omega, j + 1, rfl, by omega, ?_, ?_, ?_, hp2, ?_⟩
                  all_goals ((first | refine rn (cj rTI (cj @h1 (cj @k1 @k7))) ?_ | exact rn0 (cj rTI (cj @h1 (cj @k1 @k7)))))
                  all_goals (first | rfl | trivial)
                · refine go (cj rTI @h1) ?_
                  refine ifs ?_ ?_ <;> first | exact nope | intro hb
                  rw [hnr (decide_eq_false c)]
                  refine go (cj rTI @h1) ?_
                  exact fr
              · have hR : risingN V = true := risingN_of V fun i hi => hr i (by omega) hi
                rw [hR]
                refine go (cj rTI (cj @h1 (cj @k1 (cj @k7 @gb)))) ?_
                refine ifs ?_ ?_ <;> first | exact nope | intro hb
                refine go (cj rTI @h1) ?_
                exact fr
        · rw [if_neg q2]
          refine go (cj rTI (cj @h1 (cj @k1 (cj @k19 @gb)))) ?_
          refine ifs ?_ ?_ <;> first | exact nope | intro hb
          refine go (cj rTI (cj @h1 (cj @k1 @gb))) ?_
          refine ifs ?_ ?_ <;> first | exact nope | intro hb
          refine go (cj rTI (cj @h1 (cj @k1 @gb))) ?_
          refine ifs ?_ ?_ <;> first | exact nope | intro hb
          refine go (cj rTI @h1) ?_
          exact fr
end Go.Proofs.YtfjelkjlfcafgaaGreatDoor.CardL
end
section
/- The document: the same texts, the same numbers, the same steps. (Made by gen_cardr.py.) -/
namespace Go.Proofs.YtfjelkjlfcafgaaGreatDoor.CardR
open Go Go.RowKit Go.Proofs.YtfjelkjlfcafgaaGreatDoor.Ax Go.Proofs.YtfjelkjlfcafgaaGreatDoor.Ti Go.Proofs.YtfjelkjlfcafgaaGreatDoor.NumS Go.Proofs.YtfjelkjlfcafgaaGreatDoor.NumT Go.Proofs.YtfjelkjlfcafgaaGreatDoor.CardS Go.Proofs.YtfjelkjlfcafgaaGreatDoor.CardP Go.Proofs.YtfjelkjlfcafgaaGreatDoor.CardA Go.Proofs.YtfjelkjlfcafgaaGreatDoor.CardB Go.Proofs.YtfjelkjlfcafgaaGreatDoor.CardC Go.Proofs.YtfjelkjlfcafgaaGreatDoor.CardD Go.Proofs.YtfjelkjlfcafgaaGreatDoor.CardE Go.Proofs.YtfjelkjlfcafgaaGreatDoor.CardG Go.Proofs.YtfjelkjlfcafgaaGreatDoor.CardH Go.Proofs.YtfjelkjlfcafgaaGreatDoor.CardI Go.Proofs.YtfjelkjlfcafgaaGreatDoor.CardL
open Go.Proofs.YtfjelkjlfcafgaaGreatDoor.NumA (NM)
set_option linter.unusedSimpArgs false
set_option linter.unusedVariables false
set_option maxRecDepth 4000
set_option maxHeartbeats 2000000
theorem rTI : type_of% (cj @ti3 (cj @ti4 (cj @ti9 (cj @ti5 (cj @ti2 (cj @ti36 (cj @ti63 (cj @ti62 (cj @ti24 (cj @ti65 (cj @ti82 (cj @ti67 (cj @Nat.zero_add (cj @tz0 (cj @tz1 (cj @tz3 (cj @Nat.mul_one @Int.toNat_natCast))))))))))))))))) := cj @ti3 (cj @ti4 (cj @ti9 (cj @ti5 (cj @ti2 (cj @ti36 (cj @ti63 (cj @ti62 (cj @ti24 (cj @ti65 (cj @ti82 (cj @ti67 (cj @Nat.zero_add (cj @tz0 (cj @tz1 (cj @tz3 (cj @Nat.mul_one @Int.toNat_natCast))))))))))))))))
theorem texts_ax (a b : List Str) (ga : BL a) (gb : BL b) (ha : a.length ≤ 9223372036854775807) (hb' : b.length ≤ 9223372036854775807) : PCall Tryz.prog 33 [TV a, TV b] (.v (.bool (decide (a = b)))) := by
  refine pcall_of fun s => ?_
  unfold TV
  by_cases hl : a.length = b.length
  · refine acall_of Tryz.func33 rfl rfl (by simp [Tryz.ntmps33]) ?_; rw [Tryz.ntmps33, Tryz.results33]
    refine go (cj rTI @hl) ?_
    refine ifs ?_ ?_ <;> first | exact nope | intro hb
    refine go (cj rTI @hl) ?_
    refine aw_loop (fun m e s' => ∃ k, m = b.length - k ∧ k ≤ b.length ∧ e.n = 26 ∧ e.m 0 = .sl b.length (SL a) ∧ e.m 1 = .sl b.length (SL b) ∧ e.m 5 = .v (.int .i64 (k : Nat)) ∧ a.take k = b.take k ∧ s' = s) b.length ?_ ?_
    · refine ⟨0, by omega, by omega, ?_⟩
      (repeat' refine And.intro ?_ ?_) <;> first | exact rfl | exact fnz (cj rTI @hl) | skip
    · rintro m e s' ⟨k, rfl, hk, h1, k0, k1, k5, ht, rfl⟩
      by_cases hk2 : k < b.length
      · have ha2 : k < a.length := by omega
        have f1 := hd_SL a k ha2
        have f2 := hd_SL b k hk2
        have f3 := str_ne (a.getD k []) (b.getD k []) (bl_at a ga k) (bl_at b gb k)
        unfold SV at f1 f2
        refine go (cj rTI (cj @h1 (cj @k0 @k5))) ?_
        refine ifs ?_ ?_ <;> first | exact nope | intro hb
        refine aw_skip ?_
        refine go rTI ?_
        refine aw_drw (.take 0 (.take 1 (.take 2 (.take 3 (.take 4 (.take 5 (.take 6 (.take 7 (.take 8 (.done)))))))))) [] (by kernel_rfl) (by kernel_rfl) fun K hK => ?_; refine dr (cj rTI (cj @h1 (cj @k0 (cj @k1 (cj @k5 (cj @f1 (cj @f2 @f3))))))) ?_; refine hK _ _ ?_; clear hK K
        by_cases q : a.getD k [] = b.getD k []
        · have ht2 := take_eq hl ha2 ht q
          rw [decide_eq_true q]
          refine ifs ?_ ?_ <;> first | exact nope | intro hb
          refine go (cj rTI (cj @h1 @k5)) ?_
          simp only [block_normal, loop_normal]
          refine ⟨b.length - (k + 1), by omega, k + 1, rfl, by omega, ?_, ?_, ?_, ?_, ht2, trivial⟩
          all_goals ((first | refine rn (cj @h1 (cj @k0 (cj @k1 @k5))) ?_ | exact rn0 (cj @h1 (cj @k0 (cj @k1 @k5)))))
          all_goals rfl
        · rw [decide_eq_false (ne_at q)]
          rw [decide_eq_false q]
          refine ifs ?_ ?_ <;> first | exact nope | intro hb
          exact go0 (cj rTI @h1)
      · obtain rfl : k = b.length := by omega
        rw [List.take_length, ← hl, List.take_length] at ht
        rw [decide_eq_true ht]
        refine go (cj rTI (cj @h1 (cj @k0 @k5))) ?_
        refine ifs ?_ ?_ <;> first | exact nope | intro hb
        exact go0 (cj rTI @h1)
  · rw [decide_eq_false fun h => hl (by rw [h])]
    have hl2 : ¬ ((a.length : Int) = (b.length : Int)) := by omega
    refine acall_of Tryz.func33 rfl rfl (by simp [Tryz.ntmps33]) ?_; rw [Tryz.ntmps33, Tryz.results33]
    refine go rTI ?_
    refine ifs ?_ ?_ <;> first | exact nope | intro hb
    exact go0 rTI
theorem sameN_ax (a b : List Num) (ha : a.length ≤ 9223372036854775807) (hb' : b.length ≤ 9223372036854775807) : PCall Tryz.prog 99 [NV a, NV b] (.v (.bool (decide (a = b)))) := by
  refine pcall_of fun s => ?_
  unfold NV
  by_cases hl : a.length = b.length
  · refine acall_of Tryz.func99 rfl rfl (by simp [Tryz.ntmps99]) ?_; rw [Tryz.ntmps99, Tryz.results99]
    refine go (cj rTI @hl) ?_
    refine ifs ?_ ?_ <;> first | exact nope | intro hb
    refine go (cj rTI @hl) ?_
    refine aw_loop (fun m e s' => ∃ k, m = b.length - k ∧ k ≤ b.length ∧ e.n = 26 ∧ e.m 0 = .sl b.length (NC a) ∧ e.m 1 = .sl b.length (NC b) ∧ e.m 5 = .v (.int .i64 (k : Nat)) ∧ a.take k = b.take k ∧ s' = s) b.length ?_ ?_
    · refine ⟨0, by omega, by omega, ?_⟩
      (repeat' refine And.intro ?_ ?_) <;> first | exact rfl | exact fnz (cj rTI @hl) | skip
    · rintro m e s' ⟨k, rfl, hk, h1, k0, k1, k5, ht, rfl⟩
      by_cases hk2 : k < b.length
      · have ha2 : k < a.length := by omega
        have f1 := nc_at a k ha2
        have f2 := nc_at b k hk2
        have f3 : 2 ≤ ((NC a).drop (k * 2)).length := by rw [List.length_drop, nc_len]; omega
        have f4 : 2 ≤ ((NC b).drop (k * 2)).length := by rw [List.length_drop, nc_len]; omega
        unfold iv at f1 f2
        have f5 : eqOk Tryz.prog 24 = true := by kernel_rfl
        have f6 : ((a.getD k (0, 0)).1 == (b.getD k (0, 0)).1 && (a.getD k (0, 0)).2 == (b.getD k (0, 0)).2) = decide (a.getD k (0, 0) = b.getD k (0, 0)) := by rw [Bool.eq_iff_iff, decide_eq_true_eq, Prod.ext_iff]; simp
        refine go (cj rTI (cj @h1 (cj @k0 @k5))) ?_
        refine ifs ?_ ?_ <;> first | exact nope | intro hb
        refine aw_skip ?_
        refine go rTI ?_
        refine aw_drw (.take 0 (.take 1 (.take 2 (.take 3 (.take 4 (.take 5 (.take 6 (.take 7 (.take 8 (.done)))))))))) [] (by kernel_rfl) (by kernel_rfl) fun K hK => ?_; refine dr (cj rTI (cj @h1 (cj @k0 (cj @k1 (cj @k5 (cj @f1 (cj @f2 (cj @f3 (cj @f4 (cj @f5 @f6)))))))))) ?_; refine hK _ _ ?_; clear hK K
        by_cases q : a.getD k (0, 0) = b.getD k (0, 0)
        · have ht2 := take_eq hl ha2 ht q
          rw [decide_eq_true q]
          refine ifs ?_ ?_ <;> first | exact nope | intro hb
          refine go (cj rTI (cj @h1 @k5)) ?_
          simp only [block_normal, loop_normal]
          refine ⟨b.length - (k + 1), by omega, k + 1, rfl, by omega, ?_, ?_, ?_, ?_, ht2, trivial⟩
          all_goals ((first | refine rn (cj @h1 (cj @k0 (cj @k1 @k5))) ?_ | exact rn0 (cj @h1 (cj @k0 (cj @k1 @k5)))))
          all_goals rfl
        · rw [decide_eq_false (ne_at q)]
          rw [decide_eq_false q]
          refine ifs ?_ ?_ <;> first | exact nope | intro hb
          exact go0 (cj rTI @h1)
      · obtain rfl : k = b.length := by omega
        rw [List.take_length, ← hl, List.take_length] at ht
        rw [decide_eq_true ht]
        refine go (cj rTI (cj @h1 (cj @k0 @k5))) ?_
        refine ifs ?_ ?_ <;> first | exact nope | intro hb
        exact go0 (cj rTI @h1)
  · rw [decide_eq_false fun h => hl (by rw [h])]
    have hl2 : ¬ ((a.length : Int) = (b.length : Int)) := by omega
    refine acall_of Tryz.func99 rfl rfl (by simp [Tryz.ntmps99]) ?_; rw [Tryz.ntmps99, Tryz.results99]
    refine go rTI ?_
    refine ifs ?_ ?_ <;> first | exact nope | intro hb
    exact go0 rTI
def sameM (a b : Mdl) : Bool := decide (a.name = b.name) && (decide (a.kind = b.kind) && (decide (a.g = b.g) && decide (a.v = b.v)))
theorem sameM_ax (a b : Mdl) (ga : By a.name) (gb : By b.name) (h1 : a.g.length ≤ 9223372036854775807) (h2 : b.g.length ≤ 9223372036854775807) (h3 : a.v.length ≤ 9223372036854775807) (h4 : b.v.length ≤ 9223372036854775807) :
    PCall Tryz.prog 46 [MA a, MA b] (.v (.bool (sameM a b))) := by
  refine pcall_of fun s => ?_
  have e1 := str_eq a.name b.name ga gb
  have hg := sameN_ax a.g b.g h1 h2
  have hv := sameN_ax a.v b.v h3 h4
  unfold sameM
  unfold MA SV NV at *
  by_cases q1 : a.name = b.name
  · rw [decide_eq_true q1] at e1
    rw [decide_eq_true q1, Bool.true_and]
    by_cases q2 : a.kind = b.kind
    · rw [decide_eq_true q2, Bool.true_and]
      generalize decide (a.g = b.g) = c1 at *
      generalize decide (a.v = b.v) = c2 at *
      cases c1 with
      | false =>
        rw [Bool.false_and]
        refine acall_of Tryz.func46 rfl rfl (by simp [Tryz.ntmps46]) ?_; rw [Tryz.ntmps46, Tryz.results46]
        refine go rTI ?_
        refine aw_reg fun K hK => ?_; refine rn (cj rTI (cj @e1 @q2)) ?_; refine cont_pure hg ?_; refine rn (cj rTI (cj @e1 @q2)) ?_; refine hK _ _ ?_; clear hK K
        refine go rTI ?_
        exact fun i hi => by rw [if_neg (by omega), if_neg (by omega)]
      | true =>
        rw [Bool.true_and]
        refine acall_of Tryz.func46 rfl rfl (by simp [Tryz.ntmps46]) ?_; rw [Tryz.ntmps46, Tryz.results46]
        refine go rTI ?_
        refine aw_reg fun K hK => ?_; refine rn (cj rTI (cj @e1 @q2)) ?_; refine cont_pure hg ?_; refine rn (cj rTI (cj @e1 @q2)) ?_; refine cont_pure hv ?_; refine rn (cj rTI (cj @e1 @q2)) ?_; refine hK _ _ ?_; clear hK K
        refine go rTI ?_
        exact fun i hi => by rw [if_neg (by omega), if_neg (by omega)]
    · rw [decide_eq_false q2, Bool.false_and]
      refine acall_of Tryz.func46 rfl rfl (by simp [Tryz.ntmps46]) ?_; rw [Tryz.ntmps46, Tryz.results46]
      refine go (cj rTI (cj @e1 @q2)) ?_
      exact fun i hi => by rw [if_neg (by omega), if_neg (by omega)]
  · rw [decide_eq_false q1] at e1
    rw [decide_eq_false q1, Bool.false_and]
    refine acall_of Tryz.func46 rfl rfl (by simp [Tryz.ntmps46]) ?_; rw [Tryz.ntmps46, Tryz.results46]
    refine go (cj rTI @e1) ?_
    exact fun i hi => by rw [if_neg (by omega), if_neg (by omega)]
end Go.Proofs.YtfjelkjlfcafgaaGreatDoor.CardR
end
section
/- Models: WriteModel. -/
namespace Go.Proofs.YtfjelkjlfcafgaaGreatDoor.CardM
open Go Go.RowKit Go.Proofs.YtfjelkjlfcafgaaGreatDoor.Ax Go.Proofs.YtfjelkjlfcafgaaGreatDoor.Ti Go.Proofs.YtfjelkjlfcafgaaGreatDoor.NumS Go.Proofs.YtfjelkjlfcafgaaGreatDoor.NumT Go.Proofs.YtfjelkjlfcafgaaGreatDoor.CardS Go.Proofs.YtfjelkjlfcafgaaGreatDoor.CardP Go.Proofs.YtfjelkjlfcafgaaGreatDoor.CardA Go.Proofs.YtfjelkjlfcafgaaGreatDoor.CardB Go.Proofs.YtfjelkjlfcafgaaGreatDoor.CardC Go.Proofs.YtfjelkjlfcafgaaGreatDoor.CardD Go.Proofs.YtfjelkjlfcafgaaGreatDoor.CardE Go.Proofs.YtfjelkjlfcafgaaGreatDoor.CardF Go.Proofs.YtfjelkjlfcafgaaGreatDoor.CardG Go.Proofs.YtfjelkjlfcafgaaGreatDoor.CardH Go.Proofs.YtfjelkjlfcafgaaGreatDoor.CardI Go.Proofs.YtfjelkjlfcafgaaGreatDoor.CardJ Go.Proofs.YtfjelkjlfcafgaaGreatDoor.CardK Go.Proofs.YtfjelkjlfcafgaaGreatDoor.CardL
open Go.Proofs.YtfjelkjlfcafgaaGreatDoor.NumA (NM)
set_option linter.unusedSimpArgs false
set_option linter.unusedVariables false
set_option maxRecDepth 4000
set_option maxHeartbeats 2000000
theorem rTI : type_of% (cj @ti3 (cj @ti4 (cj @ti9 (cj @ti5 (cj @ti2 (cj @ti116 (cj @ti36 (cj @ti63 (cj @ti62 (cj @ti24 (cj @ti82 (cj @ti25 (cj @Nat.zero_add (cj @tz0 (cj @tz1 (cj @tz3 (cj @Nat.mul_one @Int.toNat_natCast))))))))))))))))) := cj @ti3 (cj @ti4 (cj @ti9 (cj @ti5 (cj @ti2 (cj @ti116 (cj @ti36 (cj @ti63 (cj @ti62 (cj @ti24 (cj @ti82 (cj @ti25 (cj @Nat.zero_add (cj @tz0 (cj @tz1 (cj @tz3 (cj @Nat.mul_one @Int.toNat_natCast))))))))))))))))
theorem zipM_take : ∀ (vs gs : List Num) (j : Nat), j < vs.length → j < gs.length → zipM (vs.take (j + 1)) (gs.take (j + 1)) = zipM (vs.take j) (gs.take j) ++ [textN (vs.getD j (0, 0)), textN (gs.getD j (0, 0))]
  | [], _, _, h, _ => absurd h (Nat.not_lt_zero _)
  | _ :: _, [], _, _, h => absurd h (Nat.not_lt_zero _)
  | a :: S, b :: V, 0, _, _ => by
    simp [zipM]
  | a :: S, b :: V, j + 1, h1, h2 => by
    have := zipM_take S V j (Nat.lt_of_succ_lt_succ h1) (Nat.lt_of_succ_lt_succ h2)
    rw [List.take_succ_cons, List.take_succ_cons, List.take_succ_cons, List.take_succ_cons, List.getD_cons_succ, List.getD_cons_succ]
    show textN a :: textN b :: zipM _ _ = textN a :: textN b :: zipM _ _ ++ _
    rw [this]
    rfl
theorem zipM_le : ∀ (S V : List Num), (zipM S V).length ≤ 2 * S.length
  | [], _ => Nat.zero_le _
  | _ :: _, [] => Nat.zero_le _
  | a :: S, b :: V => by
    show (zipM S V).length + 1 + 1 ≤ _
    have := zipM_le S V
    rw [List.length_cons]
    omega
theorem ok_form (m : Mdl) (h : modelOk m = true) : (m.kind = 115 ∨ m.kind = 100) ∧ m.v.length + 1 = m.g.length ∧ m.g.length ≤ 4 := by
  obtain ⟨nm, k, G, V⟩ := m
  rw [modelOk_eq, Bool.and_eq_true] at h
  have h2 := h.2
  unfold kindM at h2
  by_cases q1 : k = 115
  · rw [if_pos q1, decide_eq_true_eq] at h2
    exact ⟨.inl q1, by show V.length + 1 = G.length; omega, by show G.length ≤ 4; omega⟩
  · rw [if_neg q1] at h2
    by_cases q2 : k = 100
    · rw [if_pos q2, Bool.and_eq_true, decide_eq_true_eq] at h2
      exact ⟨.inr q2, h2.1.2.2, h2.1.2.1⟩
    · rw [if_neg q2] at h2
      cases h2
theorem writeM_ax (m : Mdl) (hn : By m.name ∧ m.name.length ≤ 281474976710656) (hg : m.g.length ≤ 9223372036854775807) (hv : m.v.length ≤ 9223372036854775807) : PCall Tryz.prog 44 [MA m] (PA (writeM m)) := by
  have hva := mvalid_ax m hn hg hv
  unfold writeM
  cases hok : modelOk m with
  | false =>
    rw [hok] at hva
    rw [if_neg Bool.false_ne_true]
    refine pcall_le fun s => ?_
    unfold MA SV NV at *
    refine acall_of Tryz.func44 rfl rfl (by simp [Tryz.ntmps44]) ?_; rw [Tryz.ntmps44, Tryz.results44]
    refine go rTI ?_
    refine aw_reg fun K hK => ?_; refine rn rTI ?_; refine cont_pure hva ?_; refine rn rTI ?_; refine hK _ _ ?_; clear hK K
    refine ifs ?_ ?_ <;> first | exact nope | intro hb
    refine go rTI ?_
    exact ⟨pa_err 50, pa_idf _, fun i hi => if_neg (by omega)⟩
  | true =>
    rw [hok] at hva
    rw [if_pos rfl]
    obtain ⟨hk, hl1, hl2⟩ := ok_form m hok
    obtain ⟨nm, kd, G, V⟩ := m
    simp only at hn hg hv hk hl1 hl2
    match G, hl1 with
    | g0 :: gs, hl1 =>
    rw [List.length_cons] at hl1 hl2
    have hT : modelT ⟨nm, kd, g0 :: gs, V⟩ = sModel :: nm :: [kd.toNat] :: textN g0 :: zipM V gs := rfl
    rw [hT]
    have hp0 := ctext_ax g0
    have f1 : (NC (g0 :: gs)).take 2 = [iv g0.1, iv g0.2] := rfl
    have f2 : 2 ≤ (NC (g0 :: gs)).length := by rw [nc_len, List.length_cons]; omega
    have ht2 : (kd.toNat = 115 ∨ kd.toNat = 100) ∧ isByte (.v (.int .u8 kd)) = true ∧ bs [kd.toNat] = ByteArray.mk #[unbyte (.v (.int .u8 kd))] := by
      rcases hk with rfl | rfl
      · exact ⟨.inl rfl, rfl, rfl⟩
      · exact ⟨.inr rfl, rfl, rfl⟩
    obtain ⟨hk2, ib, ub⟩ := ht2
    refine pcall_own (pa_idf _) fun s => ?_
    unfold MA SV NV NM at *
    unfold iv at f1
    refine acall_of Tryz.func44 rfl rfl (by simp [Tryz.ntmps44]) ?_; rw [Tryz.ntmps44, Tryz.results44]
    refine go rTI ?_
    refine aw_reg fun K hK => ?_; refine rn rTI ?_; refine cont_pure hva ?_; refine rn rTI ?_; refine hK _ _ ?_; clear hK K
    refine ifs ?_ ?_ <;> first | exact nope | intro hb
    refine go rTI ?_
    refine aw_only (fun e' s' => e'.n = 44 ∧ e'.m 1 = .ptr s.nx 0 ∧ ∃ id, e'.m 4 = .own id 0 4 1 ∧ LI s s' [.v (.string (bs nm)), .v (.int .u8 kd), .sl (gs.length + 1) (NC (g0 :: gs)), .sl V.length (NC V)] id [sModel, nm, [kd.toNat], textN g0]) ?_ ?_
    · have hL : LI s (((s.push [.v (.string (bs nm)), .v (.int .u8 kd), .sl (gs.length + 1) (NC (g0 :: gs)), .sl V.length (NC V)]).push [.v (.int .u8 kd)]).push [SV sModel, SV nm, SV [kd.toNat], SV (textN g0)]) [.v (.string (bs nm)), .v (.int .u8 kd), .sl (gs.length + 1) (NC (g0 :: gs)), .sl V.length (NC V)] (s.nx + 1 + 1) [sModel, nm, [kd.toNat], textN g0] := by
        refine ⟨?_, St.push_same _ _, ⟨by omega, Nat.lt_succ_self _⟩, fun k hk => ?_⟩
        · rw [St.push_ne ((s.push _).push _) _ _ (show s.nx ≠ s.nx + 1 + 1 by omega), St.push_ne (s.push _) _ _ (show s.nx ≠ s.nx + 1 by omega)]
          exact St.push_same _ _
        · rw [St.push_ne ((s.push _).push _) _ _ (show k ≠ s.nx + 1 + 1 by omega), St.push_ne (s.push _) _ _ (show k ≠ s.nx + 1 by omega), St.push_ne s _ _ (by omega)]
      unfold SV at hL
      rw [ub] at hL
      refine aw_drw (.take 0 (.take 1 (.take 2 (.take 3 (.take 6 (.take 7 (.take 8 (.take 9 (.two 4 (.two 5 (.one 10 (.one 11 (.take 12 (.done)))) 10 (.one 5 (.one 11 (.take 12 (.done))))) 10 (.one 4 (.one 5 (.one 11 (.take 12 (.done)))))))))))))) [s.nx] (by kernel_rfl) (by kernel_rfl) fun K hK => ?_; refine dr (cj rTI (cj @f1 (cj @f2 @ib))) ?_; refine ⟨⟨cont_pure hp0 ?_, cont_pure hp0 ?_⟩, cont_pure hp0 ?_⟩; all_goals (refine dr (cj rTI (cj @f1 (cj @f2 @ib))) ?_); all_goals (refine hK _ _ ⟨rfl, ?_, ?_, s.nx + 1 + 1, ?_, hL⟩)
      all_goals (exact rn0 rTI)
      all_goals (first | trivial | rfl)
    · clear hva hp0 f1 f2 hok hT ib ub
      generalize [kd.toNat] = kw at *
      rintro e' s' ⟨h1, q1, id, q4, hL⟩
      have gb := hL.b
      refine go (cj rTI (cj @h1 (cj @q1 @gb))) ?_
      refine aw_loop (fun m e2 s2 => ∃ k id, m = V.length - k ∧ k ≤ V.length ∧ e2.n = 44 ∧ e2.m 1 = .ptr s.nx 0 ∧ e2.m 4 = .own id 0 ([sModel, nm, kw, textN g0] ++ zipM (V.take k) (gs.take k)).length 1 ∧ e2.m 23 = .sl V.length (NC V) ∧ e2.m 24 = .v (.int .i64 V.length) ∧ e2.m 25 = .v (.int .i64 (k : Nat)) ∧ LI s s2 [.v (.string (bs nm)), .v (.int .u8 kd), .sl (gs.length + 1) (NC (g0 :: gs)), .sl V.length (NC V)] id ([sModel, nm, kw, textN g0] ++ zipM (V.take k) (gs.take k))) V.length ?_ ?_
      · refine ⟨0, id, by omega, by omega, ?_, ?_, ?_, ?_, ?_, ?_, hL⟩
        all_goals ((first | refine rn (cj rTI (cj @h1 (cj @q1 @q4))) ?_ | exact rn0 (cj rTI (cj @h1 (cj @q1 @q4)))))
        all_goals (first | trivial | rfl)
      · clear h1 q1 q4 hL gb
        rintro m e2 s2 ⟨k, id, rfl, hkk, h1, q1, q4, q23, q24, q25, hL⟩
        have gb := hL.b
        obtain ⟨o1, o2⟩ := hL.o
        by_cases hk2 : k < V.length
        · have f1 := nc_at V k hk2
          have f2 : 2 ≤ ((NC V).drop (k * 2)).length := by rw [List.length_drop, nc_len]; omega
          have f3 := nc_at (g0 :: gs) (k + 1) (by rw [List.length_cons]; omega)
          have f4 : 2 ≤ ((NC (g0 :: gs)).drop ((k + 1) * 2)).length := by rw [List.length_drop, nc_len, List.length_cons]; omega
          rw [List.getD_cons_succ] at f3
          have ht := zipM_take V gs k hk2 (by omega)
          have hp := ctext_ax (V.getD k (0, 0))
          have hp2 := ctext_ax (gs.getD k (0, 0))
          have gl := hL.l
          have ll := sl_len ([sModel, nm, kw, textN g0] ++ zipM (V.take k) (gs.take k))
          have hb0 : ([sModel, nm, kw, textN g0] ++ zipM (V.take k) (gs.take k)).length ≤ 100 := by
            have := zipM_le (V.take k) (gs.take k)
            rw [List.length_take] at this
            rw [List.length_append]
            show 4 + _ ≤ _
            omega
          generalize V.getD k (0, 0) = n1 at *
          generalize gs.getD k (0, 0) = n2 at *
          have hA := hL.app (((s2.push [.v (.int .i64 0), .v (.int .i64 0)]).set s2.nx [.v (.int .i64 n1.1), .v (.int .i64 n1.2)]).push [SV (textN n1), SV (textN n2)]) (by show _ ≤ s2.nx + 1 + 1; omega) (fun k hk => by rw [St.push_ne ((s2.push _).set _ _) _ _ (show k ≠ s2.nx + 1 by omega), St.set_ne _ _ _ _ (by omega), St.push_ne s2 _ _ (by omega)]) [textN n1, textN n2]
          rw [List.append_assoc, ← ht] at hA
          have hln : ([sModel, nm, kw, textN g0] ++ zipM (V.take (k + 1)) (gs.take (k + 1))).length = ([sModel, nm, kw, textN g0] ++ zipM (V.take k) (gs.take k)).length + 2 := by rw [ht, ← List.append_assoc, List.length_append]; rfl
          generalize hL0 : [sModel, nm, kw, textN g0] ++ zipM (V.take k) (gs.take k) = L0 at *
          unfold iv at f1 f3
          unfold NM SV at hp hp2
          unfold SV at hA
          have hk3 : ((k : Int) + 1).toNat = k + 1 := by omega
          refine go (cj rTI (cj @h1 (cj @q24 @q25))) ?_
          refine ifs ?_ ?_ <;> first | exact nope | intro hb
          refine aw_skip ?_
          refine go (cj rTI (cj @h1 (cj @q23 (cj @q25 (cj @f1 @f2))))) ?_
          refine aw_drw (.take 0 (.take 1 (.take 3 (.take 4 (.take 5 (.take 6 (.take 7 (.take 8 (.one 2 (.one 9 (.one 10 (.one 11 (.take 12 (.done)))))))))))))) [s.nx, s2.nx] (by kernel_rfl) (by kernel_rfl) fun K hK => ?_; refine dr (cj rTI (cj @h1 (cj @q1 (cj @q4 (cj @gb (cj @gl (cj @ll (cj @f3 (cj @f4 @hk3))))))))) ?_; refine cont_pure hp ?_; refine dr (cj rTI (cj @h1 (cj @q1 (cj @q4 (cj @gb (cj @gl (cj @ll (cj @f3 (cj @f4 @hk3))))))))) ?_; refine cont_pure hp2 ?_; refine dr (cj rTI (cj @h1 (cj @q1 (cj @q4 (cj @gb (cj @gl (cj @ll (cj @f3 (cj @f4 @hk3))))))))) ?_; refine hK _ _ ?_; clear hK K
          refine go (cj rTI (cj @h1 @q25)) ?_
          simp only [block_normal, loop_normal]
          refine ⟨V.length - (k + 1), by omega, k + 1, s2.nx + 1 + 1, rfl, by omega, ?_, ?_, ?_, ?_, ?_, ?_, hA⟩
          all_goals ((first | refine rn (cj rTI (cj @h1 (cj @q1 (cj @q4 (cj @q23 (cj @q24 @q25)))))) ?_ | exact rn0 (cj rTI (cj @h1 (cj @q1 (cj @q4 (cj @q23 (cj @q24 @q25))))))))
          all_goals (first | rfl | trivial | rw [hln])
        · obtain rfl : k = V.length := by omega
          have hgl : gs.length = V.length := by omega
          rw [List.take_length, ← hgl, List.take_length] at hL q4
          clear hkk hk2 q23
          refine go (cj rTI (cj @h1 (cj @q24 @q25))) ?_
          refine ifs ?_ ?_ <;> first | exact nope | intro hb
          refine go (cj rTI (cj @h1 @q4)) ?_
          refine ⟨id, _, by omega, hL.l, ?_, hL.fr⟩
          show AV.tp [frz id _ (AV.own id 0 _ 1), AV.v (.int .i64 0)] = _
          rw [frz_SL]
          rfl
end Go.Proofs.YtfjelkjlfcafgaaGreatDoor.CardM
end
section
/- Models: ReadModel. -/
namespace Go.Proofs.YtfjelkjlfcafgaaGreatDoor.CardN
open Go Go.RowKit Go.Proofs.YtfjelkjlfcafgaaGreatDoor.Ax Go.Proofs.YtfjelkjlfcafgaaGreatDoor.Ti Go.Proofs.YtfjelkjlfcafgaaGreatDoor.NumS Go.Proofs.YtfjelkjlfcafgaaGreatDoor.NumT Go.Proofs.YtfjelkjlfcafgaaGreatDoor.CardS Go.Proofs.YtfjelkjlfcafgaaGreatDoor.CardP Go.Proofs.YtfjelkjlfcafgaaGreatDoor.CardA Go.Proofs.YtfjelkjlfcafgaaGreatDoor.CardB Go.Proofs.YtfjelkjlfcafgaaGreatDoor.CardC Go.Proofs.YtfjelkjlfcafgaaGreatDoor.CardD Go.Proofs.YtfjelkjlfcafgaaGreatDoor.CardE Go.Proofs.YtfjelkjlfcafgaaGreatDoor.CardF Go.Proofs.YtfjelkjlfcafgaaGreatDoor.CardG Go.Proofs.YtfjelkjlfcafgaaGreatDoor.CardH Go.Proofs.YtfjelkjlfcafgaaGreatDoor.CardI Go.Proofs.YtfjelkjlfcafgaaGreatDoor.CardJ Go.Proofs.YtfjelkjlfcafgaaGreatDoor.CardK Go.Proofs.YtfjelkjlfcafgaaGreatDoor.CardL
open Go.Proofs.YtfjelkjlfcafgaaGreatDoor.NumA (NM)
set_option linter.unusedSimpArgs false
set_option linter.unusedVariables false
set_option maxRecDepth 4000
set_option maxHeartbeats 2000000
theorem rTI : type_of% (cj @ti3 (cj @ti4 (cj @ti9 (cj @ti5 (cj @ti2 (cj @ti36 (cj @ti63 (cj @ti62 (cj @ti24 (cj @ti82 (cj @ti25 (cj @ti144 (cj @ti146 (cj @Nat.zero_add (cj @tz0 (cj @tz1 (cj @tz3 (cj @Nat.mul_one @Int.toNat_natCast)))))))))))))))))) := cj @ti3 (cj @ti4 (cj @ti9 (cj @ti5 (cj @ti2 (cj @ti36 (cj @ti63 (cj @ti62 (cj @ti24 (cj @ti82 (cj @ti25 (cj @ti144 (cj @ti146 (cj @Nat.zero_add (cj @tz0 (cj @tz1 (cj @tz3 (cj @Nat.mul_one @Int.toNat_natCast)))))))))))))))))
def RB (p : Mdl × Int) : AV := .tp [MA p.1, iv p.2]
theorem ma_idf (m : Mdl) : idf (MA m) = true := by
  show (true && (true && (idf.idfL (NC m.g) && (idf.idfL (NC m.v) && true)))) = true
  rw [nc_idf, nc_idf]
  rfl
theorem rb_idf (p : Mdl × Int) : idf (RB p) = true := by
  show (idf (MA p.1) && (true && true)) = true
  rw [ma_idf]
  rfl
def mz : List AV := [.v (.string ByteArray.empty), .v (.int .u8 0), nilS, nilS]
theorem rb_err (e : Int) : Le (.tp [.ag mz, .v (.int .i64 e)]) (RB (mdl0, e)) := by
  refine Le.tp rfl fun j x y hx hy => ?_
  match j with
  | 0 =>
    simp at hx hy; subst hx hy
    refine Le.ag rfl fun j x y hx hy => ?_
    match j with
    | 0 => simp [mz] at hx hy; subst hx hy; exact Le.refl _
    | 1 => simp [mz] at hx hy; subst hx hy; exact Le.refl _
    | 2 => simp [mz, nilS] at hx hy; subst hx hy; exact Le.nil 0 0 rfl
    | 3 => simp [mz, nilS] at hx hy; subst hx hy; exact Le.nil 0 0 rfl
    | j + 4 => simp [mz] at hx
  | 1 => simp at hx hy; subst hx hy; exact Le.refl _
  | j + 2 => simp at hx
theorem odds_cons : ∀ (x : Str) (q : List Str), q.length % 2 = 0 → evens (x :: q) = x :: odds q ∧ odds (x :: q) = evens q
  | x, [], _ => ⟨rfl, rfl⟩
  | x, [_], h => by simp at h
  | x, v :: g :: t, h => by
    obtain ⟨h1, h2⟩ := odds_cons g t (by simp only [List.length_cons] at h; omega)
    constructor
    · show x :: evens (g :: t) = x :: g :: odds t
      rw [h1]
    · show v :: odds (g :: t) = v :: evens t
      rw [h2]
structure MI (s s' : St) (id bm iG iV : Nat) (nm : Str) (kd : Int) (G V : List Num) (ws : List Str) (e : Int) : Prop where
  r : s'.get id = some (rdr ws e)
  b : s'.get bm = some [SV nm, .v (.int .u8 kd), .own iG 0 G.length 2, .own iV 0 V.length 2]
  g : s'.get iG = some (NC G)
  v : s'.get iV = some (NC V)
  z : s'.get s.nx = some mz
  o : s.nx < bm ∧ s.nx < id ∧ s.nx < iG ∧ s.nx < iV ∧ bm < s'.nx ∧ id < s'.nx ∧ iG < s'.nx ∧ iV < s'.nx ∧ bm ≠ id ∧ bm ≠ iG ∧ bm ≠ iV ∧ id ≠ iG ∧ id ≠ iV ∧ iG ≠ iV
  fr : ∀ k, k < s.nx → s'.get k = s.get k
theorem nc_app (V : List Num) (n : Num) : NC (V ++ [n]) = NC V ++ [iv n.1, iv n.2] := by simp [NC]
theorem MI.gg {s s' : St} {id bm iG iV : Nat} {nm : Str} {kd : Int} {G V : List Num} {ws : List Str} {e : Int} (h : MI s s' id bm iG iV nm kd G V ws e) (n : Num) (ws2 : List Str) (e2 : Int) :
    MI s (((((s'.set id (rdr ws2 e2)).push [iv n.1, iv n.2]).kill iG).push (NC G ++ [iv n.1, iv n.2])).set bm [SV nm, .v (.int .u8 kd), .own (s'.nx + 1) 0 (G.length + 1) 2, .own iV 0 V.length 2]) id bm (s'.nx + 1) iV nm kd (G ++ [n]) V ws2 e2 := by
  obtain ⟨o1, o2, o3, o4, o5, o6, o7, o8, o9, o10, o11, o12, o13, o14⟩ := h.o
  have hn : (((((s'.set id (rdr ws2 e2)).push [iv n.1, iv n.2]).kill iG).push (NC G ++ [iv n.1, iv n.2])).set bm [SV nm, .v (.int .u8 kd), .own (s'.nx + 1) 0 (G.length + 1) 2, .own iV 0 V.length 2]).nx = s'.nx + 2 := rfl
  have hg : ∀ k c, k ≠ bm → k ≠ s'.nx + 1 → k ≠ iG → k ≠ s'.nx → k ≠ id → s'.get k = c → (((((s'.set id (rdr ws2 e2)).push [iv n.1, iv n.2]).kill iG).push (NC G ++ [iv n.1, iv n.2])).set bm [SV nm, .v (.int .u8 kd), .own (s'.nx + 1) 0 (G.length + 1) 2, .own iV 0 V.length 2]).get k = c := fun k c h1 h2 h3 h4 h5 h6 => by
    rw [St.set_ne _ _ _ _ h1, St.push_ne _ _ _ h2, St.kill_ne _ _ _ h3, St.push_ne (s'.set id _) _ _ h4, St.set_ne _ _ _ _ h5]
    exact h6
  refine ⟨?_, ?_, ?_, hg _ _ (by omega) (by omega) (by omega) (by omega) (by omega) h.v, hg _ _ (by omega) (by omega) (by omega) (by omega) (by omega) h.z, ⟨o1, o2, by omega, o4, by omega, by omega, by omega, by omega, o9, by omega, o11, by omega, o13, by omega⟩, fun k h1 => hg _ _ (by omega) (by omega) (by omega) (by omega) (by omega) (h.fr k h1)⟩
  · rw [St.set_ne _ _ _ _ (by omega), St.push_ne _ _ _ (show id ≠ s'.nx + 1 by omega), St.kill_ne _ _ _ (by omega), St.push_ne (s'.set id _) _ _ (show id ≠ s'.nx by omega)]
    exact St.set_same _ _ _
  · rw [St.set_same, List.length_append]
    rfl
  · rw [St.set_ne _ _ _ _ (by omega), nc_app]
    exact St.push_same _ _
theorem MI.vv {s s' : St} {id bm iG iV : Nat} {nm : Str} {kd : Int} {G V : List Num} {ws : List Str} {e : Int} (h : MI s s' id bm iG iV nm kd G V ws e) (n : Num) (ws2 : List Str) (e2 : Int) :
    MI s (((((s'.set id (rdr ws2 e2)).push [iv n.1, iv n.2]).kill iV).push (NC V ++ [iv n.1, iv n.2])).set bm [SV nm, .v (.int .u8 kd), .own iG 0 G.length 2, .own (s'.nx + 1) 0 (V.length + 1) 2]) id bm iG (s'.nx + 1) nm kd G (V ++ [n]) ws2 e2 := by
  obtain ⟨o1, o2, o3, o4, o5, o6, o7, o8, o9, o10, o11, o12, o13, o14⟩ := h.o
  have hn : (((((s'.set id (rdr ws2 e2)).push [iv n.1, iv n.2]).kill iV).push (NC V ++ [iv n.1, iv n.2])).set bm [SV nm, .v (.int .u8 kd), .own iG 0 G.length 2, .own (s'.nx + 1) 0 (V.length + 1) 2]).nx = s'.nx + 2 := rfl
  have hg : ∀ k c, k ≠ bm → k ≠ s'.nx + 1 → k ≠ iV → k ≠ s'.nx → k ≠ id → s'.get k = c → (((((s'.set id (rdr ws2 e2)).push [iv n.1, iv n.2]).kill iV).push (NC V ++ [iv n.1, iv n.2])).set bm [SV nm, .v (.int .u8 kd), .own iG 0 G.length 2, .own (s'.nx + 1) 0 (V.length + 1) 2]).get k = c := fun k c h1 h2 h3 h4 h5 h6 => by
    rw [St.set_ne _ _ _ _ h1, St.push_ne _ _ _ h2, St.kill_ne _ _ _ h3, St.push_ne (s'.set id _) _ _ h4, St.set_ne _ _ _ _ h5]
    exact h6
  refine ⟨?_, ?_, hg _ _ (by omega) (by omega) (by omega) (by omega) (by omega) h.g, ?_, hg _ _ (by omega) (by omega) (by omega) (by omega) (by omega) h.z, ⟨o1, o2, o3, by omega, by omega, by omega, by omega, by omega, o9, o10, by omega, o12, by omega, by omega⟩, fun k h1 => hg _ _ (by omega) (by omega) (by omega) (by omega) (by omega) (h.fr k h1)⟩
  · rw [St.set_ne _ _ _ _ (by omega), St.push_ne _ _ _ (show id ≠ s'.nx + 1 by omega), St.kill_ne _ _ _ (by omega), St.push_ne (s'.set id _) _ _ (show id ≠ s'.nx by omega)]
    exact St.set_same _ _ _
  · rw [St.set_same, List.length_append]
    rfl
  · rw [St.set_ne _ _ _ _ (by omega), nc_app]
    exact St.push_same _ _
theorem MI.init (s : St) (nm : Str) (kd : Int) (D : List Str) (s1 s2 s3 : St) (h1 : s1 = (((s.push mz).push mz).set (s.nx + 1) [SV nm, .v (.int .u8 kd), nilS, nilS]).push (rdr D 0))
    (h2 : s2 = (s1.push []).set (s.nx + 1) ([SV nm, .v (.int .u8 kd), nilS, nilS].set 2 (.own s1.nx 0 0 2))) (h3 : s3 = (s2.push []).set (s.nx + 1) (([SV nm, .v (.int .u8 kd), nilS, nilS].set 2 (.own s1.nx 0 0 2)).set 3 (.own s2.nx 0 0 2))) :
    MI s s3 (s.nx + 2) (s.nx + 1) (s.nx + 3) (s.nx + 4) nm kd [] [] D 0 := by
  have n1 : s1.nx = s.nx + 3 := by rw [h1]; rfl
  have n2 : s2.nx = s.nx + 4 := by rw [h2]; show s1.nx + 1 = _; omega
  have n3 : s3.nx = s.nx + 5 := by rw [h3]; show s2.nx + 1 = _; omega
  have hg : ∀ k c, k ≠ s.nx + 1 → k ≠ s.nx + 3 → k ≠ s.nx + 4 → s1.get k = c → s3.get k = c := fun k c q1 q2 q3 q4 => by
    rw [h3, St.set_ne _ _ _ _ q1, St.push_ne s2 _ _ (by omega), h2, St.set_ne _ _ _ _ q1, St.push_ne s1 _ _ (by omega)]
    exact q4
  have hg1 : ∀ k c, k ≠ s.nx + 1 → k ≠ s.nx + 2 → (s.push mz).get k = c → s1.get k = c := fun k c q1 q2 q3 => by
    rw [h1, St.push_ne (((s.push mz).push mz).set _ _) _ _ (show k ≠ s.nx + 2 from q2), St.set_ne _ _ _ _ q1, St.push_ne (s.push mz) _ _ (show k ≠ s.nx + 1 from q1)]
    exact q3
  refine ⟨hg _ _ (by omega) (by omega) (by omega) ?_, ?_, ?_, ?_, hg _ _ (by omega) (by omega) (by omega) (hg1 _ _ (by omega) (by omega) (St.push_same s mz)), ⟨by omega, by omega, by omega, by omega, by omega, by omega, by omega, by omega, by omega, by omega, by omega, by omega, by omega, by omega⟩, fun k hk => hg _ _ (by omega) (by omega) (by omega) (hg1 _ _ (by omega) (by omega) (St.push_ne s _ _ (by omega)))⟩
  · rw [h1]
    exact St.push_same (((s.push mz).push mz).set _ _) _
  · rw [h3, St.set_same, n1, n2]
    rfl
  · rw [h3, St.set_ne _ _ _ _ (by omega), St.push_ne s2 _ _ (by omega), h2, St.set_ne _ _ _ _ (by omega)]
    have := St.push_same s1 []
    rw [n1] at this
    exact this
  · rw [h3, St.set_ne _ _ _ _ (by omega)]
    have := St.push_same s2 []
    rw [n2] at this
    exact this
theorem MI.lay {P : Program} {code : Code} {m0 : Nat} {e : Env} {Q : Exit → Env → St → Prop} {s s' : St} {id bm iG iV : Nat} {nm : Str} {kd : Int} {G V : List Num} {ws : List Str} {er : Int} (h : MI s s' id bm iG iV nm kd G V ws er)
    (k : ∀ e' s'', e'.n = e.n → (∀ t, e'.m t = frz iV (NC V) (frz iG (NC G) (e.m t))) → s''.get bm = some [SV nm, .v (.int .u8 kd), .sl G.length (NC G), .sl V.length (NC V)] → s''.get s.nx = some mz → (∀ k, k < s.nx → s''.get k = s.get k) → AW P code m0 e' s'' Q) : AW P code m0 e s' Q := by
  obtain ⟨o1, o2, o3, o4, o5, o6, o7, o8, o9, o10, o11, o12, o13, o14⟩ := h.o
  have e1 : (NC G).take (G.length * 2) = NC G := by rw [← nc_len, List.take_length]
  have e2 : (NC V).take (V.length * 2) = NC V := by rw [← nc_len, List.take_length]
  have e3 : frz.frzL iV (NC V) (NC G) = NC G := by
    apply List.ext_getElem?
    intro q
    rw [frzL_get]
    cases h : (NC G)[q]? with
    | none => rfl
    | some z =>
      rw [Option.map_some, frz_idf]
      exact (idfL_iff _).1 (nc_idf G) z (List.mem_of_getElem? h)
  refine aw_freeze2 iG (NC G) h.g (fun i => i == bm) fun e7 s7 f1 f2 f3 f4 => ?_
  have g7 : ∀ k c, k ≠ iG → k ≠ bm → s'.get k = c → s7.get k = c := fun k c q1 q2 q3 => by
    rw [f4, if_neg q1, if_neg (by simpa using q2)]
    exact q3
  have b7 : s7.get bm = some [SV nm, .v (.int .u8 kd), .sl G.length (NC G), .own iV 0 V.length 2] := by
    rw [f4, if_neg o10, if_pos (by simp), h.b, Option.map_some]
    have e4 : ¬ iV = iG := fun q => o14 q.symm
    simp only [frz, frz.frzL, SV, if_true, if_neg e4, List.drop_zero, e1]
  refine aw_freeze2 iV (NC V) (g7 _ _ (fun q => o14 q.symm) (fun q => o11 q.symm) h.v) (fun i => i == bm) fun e8 s8 f5 f6 f7 f8 => ?_
  have g8 : ∀ k c, k ≠ iV → k ≠ bm → s7.get k = c → s8.get k = c := fun k c q1 q2 q3 => by
    rw [f8, if_neg q1, if_neg (by simpa using q2)]
    exact q3
  refine k e8 s8 (f5.trans f1) (fun t => by rw [f6, f2]) ?_ (g8 _ _ (by omega) (by omega) (g7 _ _ (by omega) (by omega) h.z)) fun k hk => g8 _ _ (by omega) (by omega) (g7 _ _ (by omega) (by omega) (h.fr k hk))
  rw [f8, if_neg o11, if_pos (by simp), b7, Option.map_some]
  simp only [frz, frz.frzL, SV, if_true, List.drop_zero, e2, e3]
theorem aw_gen {P : Program} {code : Code} {m0 : Nat} {e : Env} {s : St} {Q : Exit → Env → St → Prop} (I : St → Prop) (h : I s) (k : ∀ s', I s' → AW P code m0 e s' Q) : AW P code m0 e s Q := k s h
theorem readM_ax (ws : List Str) (hw : BL ws) (hwl : ∀ w ∈ ws, w.length ≤ 281474976710656) (hl : ws.length ≤ 9223372036854775807) : PCall Tryz.prog 42 [TV ws] (RB (readM ws)) := by
  refine pcall_le fun s => ?_
  have hno : ¬ (4 ≤ ws.length ∧ ws.getD 0 [] = sModel ∧ (ws.getD 2 [] = [100] ∨ ws.getD 2 [] = [115]) ∧ ws.length % 2 = 0 ∧ ws.length ≤ 10 ∧ (ws.getD 2 [] = [115] → ws.length = 6)) → readM ws = (mdl0, 70) := fun q => by
    unfold readM
    simp only
    rw [if_neg q]
  unfold TV
  by_cases q0 : ws.length < 4
  · rw [hno (fun h => by omega)]
    refine acall_of Tryz.func42 rfl rfl (by simp [Tryz.ntmps42]) ?_; rw [Tryz.ntmps42, Tryz.results42]
    refine go rTI ?_
    refine ifs ?_ ?_ <;> first | exact nope | intro hb
    refine go rTI ?_
    exact ⟨rb_err 70, rb_idf _, fun i hi => if_neg (by omega)⟩
  · have i0 := hd_SL ws 0 (by omega)
    have i1 := hd_SL ws 1 (by omega)
    have i2 := hd_SL ws 2 (by omega)
    rw [List.drop_zero] at i0
    have b0 := bl_at ws hw 0
    have b1 := bl_at ws hw 1
    have b2 := bl_at ws hw 2
    have e1 := str_ne (ws.getD 0 []) sModel b0 (by_lit _ rfl)
    have e2 := str_ne (ws.getD 2 []) [100] b2 (by_lit _ rfl)
    have e3 := str_ne (ws.getD 2 []) [115] b2 (by_lit _ rfl)
    have e4 := str_eq (ws.getD 2 []) [115] b2 (by_lit _ rfl)
    rw [show bs sModel = ByteArray.mk #[46, 109, 111, 100, 101, 108] from rfl] at e1
    rw [show bs [100] = ByteArray.mk #[100] from rfl] at e2
    rw [show bs [115] = ByteArray.mk #[115] from rfl] at e3 e4
    have t2 : Int.toNat 2 = 2 := rfl
    unfold SV at i0 i1 i2
    by_cases hc : (4 ≤ ws.length ∧ ws.getD 0 [] = sModel ∧ (ws.getD 2 [] = [100] ∨ ws.getD 2 [] = [115]) ∧ ws.length % 2 = 0 ∧ ws.length ≤ 10 ∧ (ws.getD 2 [] = [115] → ws.length = 6))
    · have hrd : readM ws = if isName (ws.getD 1 []) = true then (if numsE (ws.drop 3) 0 ≠ 0 then (mdl0, numsE (ws.drop 3) 0) else if modelOk ⟨ws.getD 1 [], ((ws.getD 2 []).getD 0 0 : Nat), (evens (ws.drop 3)).map numV, (odds (ws.drop 3)).map numV⟩ = true then (⟨ws.getD 1 [], ((ws.getD 2 []).getD 0 0 : Nat), (evens (ws.drop 3)).map numV, (odds (ws.drop 3)).map numV⟩, 0) else (mdl0, 50)) else (mdl0, 71) := by
        unfold readM
        simp only
        rw [if_pos hc]
      rw [hrd]
      clear hrd hno
      obtain ⟨c0, c1, c2, c3, c4, c5⟩ := hc
      refine acall_of Tryz.func42 rfl rfl (by simp [Tryz.ntmps42]) ?_; rw [Tryz.ntmps42, Tryz.results42]
      refine go rTI ?_
      refine aw_only (fun e' s' => e'.n = 108 ∧ e'.m 0 = .sl ws.length (SL ws) ∧ e'.m 2 = .ptr s.nx 0 ∧ e'.m 47 = .v (.bool false) ∧ s' = s.push mz) ?_ ?_
      · have c6 : ((ws.length : Int) % 2) = 0 := by omega
        rw [decide_eq_true c1] at e1
        rcases c2 with c2 | c2
        · rw [c2, decide_eq_true rfl] at e2
          rw [c2, decide_eq_false (by decide)] at e4
          rw [c2] at i2
          refine go (cj rTI (cj @i0 (cj @i2 (cj @t2 (cj @e1 (cj @e2 (cj @e4 @c6))))))) ?_
          (repeat' refine And.intro ?_ ?_) <;> first | exact rfl | exact fnz rTI | skip
          all_goals (first | rfl | trivial)
        · have c7 : (ws.length : Int) = 6 := by have := c5 c2; omega
          have c8 : ws.length = 6 := by omega
          rw [c2, decide_eq_true rfl] at e3 e4
          rw [c2, decide_eq_false (by decide)] at e2
          rw [c2] at i2
          refine go (cj rTI (cj @i0 (cj @i2 (cj @t2 (cj @e1 (cj @e2 (cj @e3 (cj @e4 @c6)))))))) ?_
          (repeat' refine And.intro ?_ ?_) <;> first | exact rfl | exact fnz rTI | skip
          all_goals (first | rfl | trivial)
      · obtain ⟨kd, hkd, hkb⟩ : ∃ kd, ws.getD 2 [] = [kd] ∧ kd < 256 := by
          rcases c2 with c2 | c2
          · exact ⟨100, c2, by decide⟩
          · exact ⟨115, c2, by decide⟩
        rw [hkd] at i2 b2 ⊢
        have lS := bs_size [kd]
        have hg := bs_get [kd] b2 0
        rw [show ([kd] : Str).getD 0 0 = kd from rfl] at hg ⊢
        rw [show ([kd] : Str).length = 1 from rfl] at lS
        have htd := TV_drop ws 3
        have hbd : BL (ws.drop 3) := fun w h => hw w (List.mem_of_mem_drop h)
        have hDl : (ws.drop 3).length % 2 = 1 ∧ (ws.drop 3).length ≤ 10 := by rw [List.length_drop]; omega
        have hnm := cname_ax (ws.getD 1 []) b1 (by
          rw [List.getD_eq_getElem?_getD, List.getElem?_eq_getElem (show 1 < ws.length by omega)]
          exact Nat.le_trans (hwl _ (List.getElem_mem _)) (by decide))
        have hnl : (ws.getD 1 []).length ≤ 281474976710656 := by
          rw [List.getD_eq_getElem?_getD, List.getElem?_eq_getElem (show 1 < ws.length by omega)]
          exact hwl _ (List.getElem_mem _)
        unfold TV at htd
        clear e1 e2 e3 e4 c1 c2 c3 c5 hw hwl i0
        rintro e' s' ⟨h1, k0, k2, k47, rfl⟩
        rw [then_normal]
        refine aw_cond (b := false) k47 (fun h => by cases h) (fun _ => ?_)
        refine aw_skip ?_
        rw [then_normal]
        generalize ws.getD 1 [] = nm at *
        generalize ws.drop 3 = D at *
        have t3 : Int.toNat 3 = 3 := rfl
        have t1 : Int.toNat 1 = 1 := rfl
        unfold SV at hnm
        refine aw_seq ?_
        refine aw_drw (.take 0 (.take 1 (.take 2 (.take 3 (.take 4 (.take 5 (.take 6 (.take 7 (.one 8 (.one 9 (.done))))))))))) [] (by kernel_rfl) (by kernel_rfl) fun K hK => ?_; refine dr (cj rTI (cj @h1 (cj @k0 (cj @i1 (cj @i2 (cj @t1 (cj @t2 (cj @lS @hg)))))))) ?_; refine hK _ _ ?_; clear hK K
        rw [then_normal]
        refine aw_seq ?_
        refine aw_seq ?_
        cases hn : isName nm with
        | false =>
          rw [hn] at hnm
          rw [if_neg Bool.false_ne_true]
          refine aw_reg fun K hK => ?_; refine rn (cj rTI @h1) ?_; refine cont_pure hnm ?_; refine rn (cj rTI @h1) ?_; refine hK _ _ ?_; clear hK K
          refine ifs ?_ ?_ <;> first | exact nope | intro hb
          unfold mz nilS
          refine go (cj rTI (cj @h1 @k2)) ?_
          exact ⟨rb_err 71, rb_idf _, fun i hi => by rw [if_neg (by omega), if_neg (by omega)]⟩
        | true =>
          rw [hn] at hnm
          rw [if_pos rfl]
          refine aw_reg fun K hK => ?_; refine rn (cj rTI @h1) ?_; refine cont_pure hnm ?_; refine rn (cj rTI @h1) ?_; refine hK _ _ ?_; clear hK K
          refine ifs ?_ ?_ <;> first | exact nope | intro hb
          refine go (cj rTI (cj @h1 (cj @k0 (cj @t3 @htd)))) ?_
          match D, hDl with
          | [], q => simp at q
          | g0 :: q0, hDl =>
          rw [List.length_cons] at hDl
          obtain ⟨hev, hod⟩ := odds_cons g0 q0 (by omega)
          rw [hev, hod]
          refine aw_nil_box (s.nx + 1) 2 2 [.v (.string (bs nm)), .v (.int .u8 (kd : Nat)), .v (.slice none 0 0), .v (.slice none 0 0)] (by rw [St.push_ne _ _ _ (by show s.nx + 1 ≠ s.nx + 1 + 1; omega)]; exact St.set_same _ _ _) rfl ?_
          refine aw_nil_box (s.nx + 1) 3 2 _ (St.set_same _ _ _) rfl ?_
          have hM := MI.init s nm kd (g0 :: q0) _ _ _ rfl rfl rfl
          refine aw_gen (fun x => MI s x (s.nx + 2) (s.nx + 1) (s.nx + 3) (s.nx + 4) nm kd [] [] (g0 :: q0) 0) hM fun s4 hM => ?_
          clear htd i1 i2 hnm lS hg t1 t2 t3
          refine aw_only (fun e5 s5 => e5.n = 108 ∧ e5.m 2 = .ptr s.nx 0 ∧ e5.m 5 = .ptr (s.nx + 1) 0 ∧ e5.m 6 = .ptr (s.nx + 2) 0 ∧ ∃ iG, MI s s5 (s.nx + 2) (s.nx + 1) iG (s.nx + 4) nm kd [numV g0] [] q0 (numE g0 0)) ?_ ?_
          · have hnu := num_ax s4 (s.nx + 2) g0 q0 0 (hbd g0 (List.mem_cons_self ..)) hM.r hM.o.2.2.2.2.2.1 (by omega)
            have gb := hM.b
            have gg := hM.g
            have hG := hM.gg (numV g0) q0 (numE g0 0)
            obtain ⟨o1, o2, o3, o4, o5, o6, o7, o8, o9, o10, o11, o12, o13, o14⟩ := hM.o
            rw [show NC ([] : List Num) = [] from rfl, show ([] : List Num).length = 0 from rfl] at *
            unfold NM at hnu
            unfold SV iv at *
            refine aw_drwR (.take 0 (.take 1 (.take 2 (.one 3 (.one 4 (.one 5 (.done))))))) 6 [7] [s.nx + 1] (by kernel_rfl) (by kernel_rfl) fun K hK => ?_; refine dt (cj rTI (cj @h1 (cj @gb (cj @gg @zr2)))) ?_; refine cont_go hnu ?_; rintro _ s5 ⟨rfl, rfl⟩; refine dt (cj rTI (cj @h1 (cj @gb (cj @gg @zr2)))) ?_; refine hK _ _ ?_; clear hK K
            refine ⟨rfl, ?_, ?_, ?_, ?_, s4.nx + 1, hG⟩
            all_goals (exact rn0 (cj rTI (cj @h1 @k2)))
            all_goals (first | trivial | rfl)
          · clear h1 k0 k2 k47 hM hod hev
            clear hM
            have hbq : BL q0 := fun w h => hbd w (List.mem_cons_of_mem _ h)
            have hE0 : numsE (g0 :: q0) 0 = numsE q0 (numE g0 0) := rfl
            rw [hE0, List.map_cons]
            generalize numE g0 0 = e0
            generalize numV g0 = v0
            generalize s.nx + 4 = iV
            rintro e5 s5 ⟨h1, k2, k5, k6, iG, hM⟩
            rw [then_normal]
            refine aw_seq ?_
            refine aw_block ?_
            refine aw_loop (fun m e6 s6 => ∃ q er G V iG iV, m = q.length ∧ e6.n = 108 ∧ e6.m 2 = .ptr s.nx 0 ∧ e6.m 5 = .ptr (s.nx + 1) 0 ∧ e6.m 6 = .ptr (s.nx + 2) 0 ∧ MI s s6 (s.nx + 2) (s.nx + 1) iG iV nm kd G V q er ∧ numsE q0 e0 = numsE q er ∧ v0 :: (odds q0).map numV = G ++ (odds q).map numV ∧ (evens q0).map numV = V ++ (evens q).map numV ∧ q.length % 2 = 0 ∧ q.length ≤ 10 ∧ G.length + q.length ≤ 20 ∧ V.length + q.length ≤ 20 ∧ ∀ w ∈ q, w ∈ q0) q0.length ?_ ?_
            · refine ⟨q0, e0, [v0], [], iG, iV, rfl, ?_, ?_, ?_, ?_, hM, rfl, rfl, rfl, by omega, by omega, by rw [List.length_cons, List.length_nil]; omega, by rw [List.length_nil]; omega, fun _ h => h⟩
              all_goals (exact rn0 (cj rTI (cj @h1 (cj @k2 (cj @k5 @k6)))))
            · clear h1 k2 k5 k6 hM
              rintro m e6 s6 ⟨q, er, G, V, iG, iV, rfl, h1, k2, k5, k6, hM, hE, hG, hV, hq1, hq2, hq3, hq4, hm⟩
              have gr := hM.r
              match q with
              | [] =>
                unfold rdr TV iv at gr
                have z0 : (([] : List Str).length : Int) = 0 := rfl
                refine go (cj rTI (cj @h1 (cj @k6 (cj @gr @z0)))) ?_
                refine ifs ?_ ?_ <;> first | exact nope | intro hb
                refine go (cj rTI @h1) ?_
                have hE2 : numsE q0 e0 = er := hE
                have hG2 : v0 :: (odds q0).map numV = G := by rw [hG]; exact List.append_nil _
                have hV2 : (evens q0).map numV = V := by rw [hV]; exact List.append_nil _
                rw [hE2, hG2, hV2]
                rw [List.length_nil] at hq3 hq4
                have fr := hM.fr
                have gz := hM.z
                obtain ⟨o1, o2, o3, o4, o5, o6, o7, o8, o9, o10, o11, o12, o13, o14⟩ := hM.o
                by_cases he0 : er = 0
                · rw [if_neg (fun h => h he0)]
                  refine go (cj rTI (cj @h1 (cj @k6 (cj @gr @he0)))) ?_
                  refine ifs ?_ ?_ <;> first | exact nope | intro hb
                  refine aw_skip ?_
                  rw [then_normal]
                  refine hM.lay fun e8 s8 f1 f2 gb gz fr => ?_
                  have m1 : e8.n = 108 := f1.trans h1
                  have m2 : e8.m 2 = .ptr s.nx 0 := by
                    rw [f2]
                    exact rn0 @k2
                  have m5 : e8.m 5 = .ptr (s.nx + 1) 0 := by
                    rw [f2]
                    exact rn0 @k5
                  have hva := mvalid_ax ⟨nm, kd, G, V⟩ ⟨b1, hnl⟩ (by show G.length ≤ _; omega) (by show V.length ≤ _; omega)
                  unfold MA SV NV at hva
                  unfold SV at gb
                  unfold mz nilS at gz
                  simp only at hva
                  clear f1 f2 h1 k2 k5 k6 hM gr
                  refine aw_seq ?_
                  refine aw_seq ?_
                  cases hok : modelOk ⟨nm, kd, G, V⟩ with
                  | false =>
                    rw [hok] at hva
                    rw [if_neg Bool.false_ne_true]
                    refine aw_reg fun K hK => ?_; refine rn (cj rTI (cj @m1 (cj @m5 @gb))) ?_; refine cont_pure hva ?_; refine rn (cj rTI (cj @m1 (cj @m5 @gb))) ?_; refine hK _ _ ?_; clear hK K
                    refine ifs ?_ ?_ <;> first | exact nope | intro hb
                    refine go (cj rTI (cj @m1 (cj @m2 @gz))) ?_
                    exact ⟨rb_err 50, rb_idf _, fun i hi => by rw [if_neg (by omega)]; exact fr i hi⟩
                  | true =>
                    rw [hok] at hva
                    rw [if_pos rfl]
                    refine aw_reg fun K hK => ?_; refine rn (cj rTI (cj @m1 (cj @m5 @gb))) ?_; refine cont_pure hva ?_; refine rn (cj rTI (cj @m1 (cj @m5 @gb))) ?_; refine hK _ _ ?_; clear hK K
                    refine ifs ?_ ?_ <;> first | exact nope | intro hb
                    refine go (cj rTI (cj @m1 (cj @m2 (cj @m5 (cj @gb @gz))))) ?_
                    exact ⟨Le.refl _, rb_idf _, fun i hi => by rw [if_neg (by omega)]; exact fr i hi⟩
                · rw [if_pos he0]
                  unfold mz nilS at gz
                  refine go (cj rTI (cj @h1 (cj @k6 (cj @gr @he0)))) ?_
                  refine ifs ?_ ?_ <;> first | exact nope | intro hb
                  refine aw_seq ?_
                  refine aw_drw (.take 0 (.take 1 (.take 2 (.take 3 (.take 4 (.one 5 (.take 6 (.done)))))))) [s.nx + 2] (by kernel_rfl) (by kernel_rfl) fun K hK => ?_; refine dr (cj rTI (cj @h1 (cj @k2 (cj @k6 (cj @gr @gz))))) ?_; refine hK _ _ ?_; clear hK K
                  rw [then_normal]
                  refine go (cj rTI (cj @h1 (cj @k2 @gz))) ?_
                  exact ⟨rb_err er, rb_idf _, fun i hi => by rw [if_neg (by omega)]; exact fr i hi⟩
              | [x] => simp at hq1
              | a :: b :: q' =>
                rw [List.length_cons, List.length_cons] at hq1 hq2 hq3 hq4
                have hE3 : numsE (a :: b :: q') er = numsE q' (numE b (numE a er)) := rfl
                have hG3 : G ++ (odds (a :: b :: q')).map numV = (G ++ [numV b]) ++ (odds q').map numV := by
                  show G ++ (numV b :: (odds q').map numV) = _
                  simp
                have hV3 : V ++ (evens (a :: b :: q')).map numV = (V ++ [numV a]) ++ (evens q').map numV := by
                  show V ++ (numV a :: (evens q').map numV) = _
                  simp
                rw [hE3] at hE
                rw [hG3] at hG
                rw [hV3] at hV
                clear hE3 hG3 hV3
                obtain ⟨o1, o2, o3, o4, o5, o6, o7, o8, o9, o10, o11, o12, o13, o14⟩ := hM.o
                have hna := num_ax s6 (s.nx + 2) a (b :: q') er (hbq a (hm a (List.mem_cons_self ..))) hM.r o6 (by rw [List.length_cons]; omega)
                have gb := hM.b
                have gv := hM.v
                have nl := nc_len V
                have hM2 := hM.vv (numV a) (b :: q') (numE a er)
                have z1 : ((a :: b :: q').length : Int) = ((q'.length + 2 : Nat) : Int) := rfl
                generalize numE a er = ea at *
                generalize numV a = na at *
                unfold rdr TV iv at gr
                unfold NM at hna
                unfold SV at gb
                refine go (cj rTI (cj @h1 (cj @k6 (cj @gr @z1)))) ?_
                refine ifs ?_ ?_ <;> first | exact nope | intro hb
                refine aw_skip ?_
                rw [then_normal]
                refine aw_block ?_
                refine aw_seq ?_
                refine aw_only (fun e7 s7 => e7.n = 108 ∧ e7.m 2 = .ptr s.nx 0 ∧ e7.m 5 = .ptr (s.nx + 1) 0 ∧ e7.m 6 = .ptr (s.nx + 2) 0 ∧ ∃ iV, MI s s7 (s.nx + 2) (s.nx + 1) iG iV nm kd G (V ++ [na]) (b :: q') ea) ?_ ?_
                · unfold iv at *
                  refine aw_drwR (.take 0 (.take 1 (.take 2 (.one 3 (.one 4 (.one 5 (.done))))))) 6 [7] [s.nx + 1] (by kernel_rfl) (by kernel_rfl) fun K hK => ?_; refine dt (cj rTI (cj @h1 (cj @k5 (cj @k6 (cj @gb (cj @gv (cj @nl @zr2))))))) ?_; refine cont_go hna ?_; rintro _ s7 ⟨rfl, rfl⟩; refine dt (cj rTI (cj @h1 (cj @k5 (cj @k6 (cj @gb (cj @gv (cj @nl @zr2))))))) ?_; refine hK _ _ ?_; clear hK K
                  refine ⟨rfl, ?_, ?_, ?_, ?_, s6.nx + 1, hM2⟩
                  all_goals (exact rn0 (cj rTI (cj @h1 (cj @k2 (cj @k5 @k6)))))
                  all_goals (first | trivial | rfl)
                · clear h1 k2 k5 k6 hM hM2 hna gb gv nl z1 gr o1 o2 o3 o4 o5 o6 o7 o8 o9 o10 o11 o12 o13 o14
                  rintro e7 s7 ⟨h1, k2, k5, k6, iV, hM⟩
                  rw [then_normal]
                  obtain ⟨o1, o2, o3, o4, o5, o6, o7, o8, o9, o10, o11, o12, o13, o14⟩ := hM.o
                  have hnb := num_ax s7 (s.nx + 2) b q' ea (hbq b (hm b (by simp))) hM.r o6 (by omega)
                  have gb := hM.b
                  have gg := hM.g
                  have nl := nc_len G
                  have hM2 := hM.gg (numV b) q' (numE b ea)
                  generalize numE b ea = eb at *
                  generalize numV b = nb at *
                  unfold NM at hnb
                  unfold SV at gb
                  have hMM := hM2
                  unfold iv at *
                  refine aw_drwR (.take 0 (.take 1 (.take 2 (.one 3 (.one 4 (.one 5 (.done))))))) 6 [7] [s.nx + 1] (by kernel_rfl) (by kernel_rfl) fun K hK => ?_; refine dt (cj rTI (cj @h1 (cj @k5 (cj @k6 (cj @gb (cj @gg (cj @nl @zr2))))))) ?_; refine cont_go hnb ?_; rintro _ s8 ⟨rfl, rfl⟩; refine dt (cj rTI (cj @h1 (cj @k5 (cj @k6 (cj @gb (cj @gg (cj @nl @zr2))))))) ?_; refine hK _ _ ?_; clear hK K
                  try simp only [block_normal, loop_normal]
                  refine ⟨q'.length, by rw [List.length_cons, List.length_cons]; omega, q', eb, G ++ [nb], V ++ [na], s7.nx + 1, iV, rfl, ?_, ?_, ?_, ?_, hMM, hE, hG, hV, by omega, by omega, by rw [List.length_append, List.length_cons, List.length_nil]; omega, by rw [List.length_append, List.length_cons, List.length_nil]; omega, fun w hw => hm w (by simp [hw])⟩
                  all_goals (exact rn0 (cj rTI (cj @h1 (cj @k2 (cj @k5 @k6)))))
                  all_goals (first | trivial | rfl)
    · rw [hno hc]
      by_cases q1 : ws.getD 0 [] = sModel
      · rw [decide_eq_true q1] at e1
        by_cases q2 : ws.getD 2 [] = [100] ∨ ws.getD 2 [] = [115]
        · have hx : (!decide (ws.getD 2 [] = [100]) && !decide (ws.getD 2 [] = [115])) = false := by
            rcases q2 with q2 | q2
            · rw [decide_eq_true q2]; rfl
            · rw [decide_eq_true q2, Bool.and_comm]; rfl
          by_cases q3 : ws.length % 2 = 0
          · have q4 : ((ws.length : Int) % 2) = 0 := by omega
            by_cases q5 : ws.length ≤ 10
            · have q6 : ws.getD 2 [] = [115] ∧ ¬ ws.length = 6 := by
                refine ⟨Classical.byContradiction fun h => hc ⟨by omega, q1, q2, q3, q5, fun x => absurd x h⟩, fun h => hc ⟨by omega, q1, q2, q3, q5, fun _ => h⟩⟩
              have q7 : ¬ (ws.length : Int) = 6 := by omega
              rw [q6.1, decide_eq_false (by decide)] at e2
              rw [q6.1, decide_eq_true rfl] at e3 e4
              rw [q6.1] at i2
              refine acall_of Tryz.func42 rfl rfl (by simp [Tryz.ntmps42]) ?_; rw [Tryz.ntmps42, Tryz.results42]
              refine go rTI ?_
              refine go (cj rTI (cj @i0 (cj @i2 (cj @t2 (cj @e1 (cj @e2 (cj @e3 (cj @e4 (cj @q4 @q7))))))))) ?_
              refine ifs ?_ ?_ <;> first | exact nope | intro hb
              refine go rTI ?_
              exact ⟨rb_err 70, rb_idf _, fun i hi => if_neg (by omega)⟩
            · rcases q2 with q2 | q2
              · rw [q2, decide_eq_true rfl] at e2
                rw [q2] at i2
                refine acall_of Tryz.func42 rfl rfl (by simp [Tryz.ntmps42]) ?_; rw [Tryz.ntmps42, Tryz.results42]
                refine go rTI ?_
                refine go (cj rTI (cj @i0 (cj @i2 (cj @t2 (cj @e1 (cj @e2 (cj @e3 (cj @e4 @q4)))))))) ?_
                refine ifs ?_ ?_ <;> first | exact nope | intro hb
                refine go rTI ?_
                exact ⟨rb_err 70, rb_idf _, fun i hi => if_neg (by omega)⟩
              · rw [q2, decide_eq_false (by decide)] at e2
                rw [q2, decide_eq_true rfl] at e3
                rw [q2] at i2
                refine acall_of Tryz.func42 rfl rfl (by simp [Tryz.ntmps42]) ?_; rw [Tryz.ntmps42, Tryz.results42]
                refine go rTI ?_
                refine go (cj rTI (cj @i0 (cj @i2 (cj @t2 (cj @e1 (cj @e2 (cj @e3 (cj @e4 @q4)))))))) ?_
                refine ifs ?_ ?_ <;> first | exact nope | intro hb
                refine go rTI ?_
                exact ⟨rb_err 70, rb_idf _, fun i hi => if_neg (by omega)⟩
          · have q4 : ((ws.length : Int) % 2) = 1 := by omega
            rcases q2 with q2 | q2
            · rw [q2, decide_eq_true rfl] at e2
              rw [q2] at i2
              refine acall_of Tryz.func42 rfl rfl (by simp [Tryz.ntmps42]) ?_; rw [Tryz.ntmps42, Tryz.results42]
              refine go rTI ?_
              refine go (cj rTI (cj @i0 (cj @i2 (cj @t2 (cj @e1 (cj @e2 (cj @e3 (cj @e4 @q4)))))))) ?_
              refine ifs ?_ ?_ <;> first | exact nope | intro hb
              refine go rTI ?_
              exact ⟨rb_err 70, rb_idf _, fun i hi => if_neg (by omega)⟩
            · rw [q2, decide_eq_false (by decide)] at e2
              rw [q2, decide_eq_true rfl] at e3
              rw [q2] at i2
              refine acall_of Tryz.func42 rfl rfl (by simp [Tryz.ntmps42]) ?_; rw [Tryz.ntmps42, Tryz.results42]
              refine go rTI ?_
              refine go (cj rTI (cj @i0 (cj @i2 (cj @t2 (cj @e1 (cj @e2 (cj @e3 (cj @e4 @q4)))))))) ?_
              refine ifs ?_ ?_ <;> first | exact nope | intro hb
              refine go rTI ?_
              exact ⟨rb_err 70, rb_idf _, fun i hi => if_neg (by omega)⟩
        · rw [decide_eq_false (fun h => q2 (.inl h))] at e2
          rw [decide_eq_false (fun h => q2 (.inr h))] at e3
          refine acall_of Tryz.func42 rfl rfl (by simp [Tryz.ntmps42]) ?_; rw [Tryz.ntmps42, Tryz.results42]
          refine go rTI ?_
          refine go (cj rTI (cj @i0 (cj @i2 (cj @t2 (cj @e1 (cj @e2 @e3)))))) ?_
          refine ifs ?_ ?_ <;> first | exact nope | intro hb
          refine go rTI ?_
          exact ⟨rb_err 70, rb_idf _, fun i hi => if_neg (by omega)⟩
      · rw [decide_eq_false q1] at e1
        refine acall_of Tryz.func42 rfl rfl (by simp [Tryz.ntmps42]) ?_; rw [Tryz.ntmps42, Tryz.results42]
        refine go rTI ?_
        refine go (cj rTI (cj @i0 (cj @i2 (cj @t2 (cj @e1 (cj @e2 (cj @e3 @e4))))))) ?_
        refine ifs ?_ ?_ <;> first | exact nope | intro hb
        refine go rTI ?_
        exact ⟨rb_err 70, rb_idf _, fun i hi => if_neg (by omega)⟩
end Go.Proofs.YtfjelkjlfcafgaaGreatDoor.CardN
end
section
/- The laws' first fact: a resistor is read and written, a model is read. -/
namespace Go.Proofs.YtfjelkjlfcafgaaGreatDoor.CardU
open Go Go.RowKit Go.Proofs.YtfjelkjlfcafgaaGreatDoor.Ax Go.Proofs.YtfjelkjlfcafgaaGreatDoor.Ti Go.Proofs.YtfjelkjlfcafgaaGreatDoor.NumS Go.Proofs.YtfjelkjlfcafgaaGreatDoor.NumT Go.Proofs.YtfjelkjlfcafgaaGreatDoor.CardS Go.Proofs.YtfjelkjlfcafgaaGreatDoor.CardP Go.Proofs.YtfjelkjlfcafgaaGreatDoor.CardA Go.Proofs.YtfjelkjlfcafgaaGreatDoor.CardB Go.Proofs.YtfjelkjlfcafgaaGreatDoor.CardC Go.Proofs.YtfjelkjlfcafgaaGreatDoor.CardD Go.Proofs.YtfjelkjlfcafgaaGreatDoor.CardE Go.Proofs.YtfjelkjlfcafgaaGreatDoor.CardF Go.Proofs.YtfjelkjlfcafgaaGreatDoor.CardG Go.Proofs.YtfjelkjlfcafgaaGreatDoor.CardH Go.Proofs.YtfjelkjlfcafgaaGreatDoor.CardI Go.Proofs.YtfjelkjlfcafgaaGreatDoor.CardK Go.Proofs.YtfjelkjlfcafgaaGreatDoor.CardL Go.Proofs.YtfjelkjlfcafgaaGreatDoor.CardN Go.Proofs.YtfjelkjlfcafgaaGreatDoor.CardR
open Go.Proofs.YtfjelkjlfcafgaaGreatDoor.NumA (NM)
set_option linter.unusedSimpArgs false
set_option linter.unusedVariables false
set_option maxRecDepth 4000
set_option maxHeartbeats 2000000
theorem rTI : type_of% (cj @ti3 (cj @ti4 (cj @ti9 (cj @ti5 (cj @ti2 (cj @ti36 (cj @ti63 (cj @ti62 (cj @ti24 (cj @ti65 (cj @ti67 (cj @ti82 (cj @ti25 (cj @Nat.zero_add (cj @tz0 (cj @tz1 (cj @tz3 (cj @Nat.mul_one @Int.toNat_natCast)))))))))))))))))) := cj @ti3 (cj @ti4 (cj @ti9 (cj @ti5 (cj @ti2 (cj @ti36 (cj @ti63 (cj @ti62 (cj @ti24 (cj @ti65 (cj @ti67 (cj @ti82 (cj @ti25 (cj @Nat.zero_add (cj @tz0 (cj @tz1 (cj @tz3 (cj @Nat.mul_one @Int.toNat_natCast)))))))))))))))))
theorem cont_box {P : Program} {f : FuncId} {n : Nat} {r : AV} {s : St} {K : Env → St → Prop} {e : Env} {d : Option Nat} (id : Nat) (c : List AV) (sz : Nat) (hi : s.get id = some c) (hc : PCall P f [.sl n ((c.drop 0).take (n * sz))] r)
    (h : ∀ s', s'.nx = s.nx → (∀ j, j ≠ id → s'.get j = s.get j) → K (e.put d r) s') : ACall P f [.own id 0 n sz] s (ContS K e d) := by
  refine acall_frz id c hi (fun _ => false) ?_
  rw [List.map_cons, List.map_nil, frz_own]
  exact cont_pure hc (h _ rfl fun j hj => frz_false _ _ _ _ hj)
theorem cont_box2 {P : Program} {f : FuncId} {n : Nat} {x r : AV} {s : St} {K : Env → St → Prop} {e : Env} {d : Option Nat} (id : Nat) (c : List AV) (sz : Nat) (hi : s.get id = some c) (hx : idf x = true) (hc : PCall P f [x, .sl n ((c.drop 0).take (n * sz))] r)
    (h : ∀ s', s'.nx = s.nx → (∀ j, j ≠ id → s'.get j = s.get j) → K (e.put d r) s') : ACall P f [x, .own id 0 n sz] s (ContS K e d) := by
  refine acall_frz id c hi (fun _ => false) ?_
  rw [List.map_cons, List.map_cons, List.map_nil, frz_own, frz_idf _ _ x hx]
  exact cont_pure hc (h _ rfl fun j hj => frz_false _ _ _ _ hj)
def aw1 : List Str := [[114, 49], [97], [48], [52, 46, 55, 107]]
def aw2 : List Str := [[46, 109, 111, 100, 101, 108], [100, 49], [100], [49, 117], [48, 46, 55], [49, 48, 48, 109]]
def awC : Crd := ⟨[114, 49], [[97], [48]], [], (47, 2), wv0⟩
def awM : Mdl := ⟨[100, 49], 100, [(1, -6), (1, -1)], [(7, -1)]⟩
theorem aw_r : readC aw1 = (awC, 0) := by kernel_rfl
theorem aw_w : writeC awC = ([[114, 49], [97], [48], [52, 55, 48, 48]], 0) := by kernel_rfl
theorem aw_m : readM aw2 = (awM, 0) := by kernel_rfl
theorem aw_by1 : BL aw1 ∧ ∀ w ∈ aw1, w.length ≤ 281474976710656 := by
  constructor <;> intro w hw <;> simp only [aw1, List.mem_cons, List.not_mem_nil, or_false] at hw <;> rcases hw with rfl | rfl | rfl | rfl <;> first | exact by_lit _ rfl | decide
theorem aw_by2 : BL aw2 ∧ ∀ w ∈ aw2, w.length ≤ 281474976710656 := by
  constructor <;> intro w hw <;> simp only [aw2, List.mem_cons, List.not_mem_nil, or_false] at hw <;> rcases hw with rfl | rfl | rfl | rfl | rfl | rfl <;> first | exact by_lit _ rfl | decide
theorem aw_by3 : BL [[114, 49], [97], [48], [52, 55, 48, 48]] := by
  intro w hw; simp only [List.mem_cons, List.not_mem_nil, or_false] at hw; rcases hw with rfl | rfl | rfl | rfl <;> exact by_lit _ rfl
theorem aw_cw : CW awC := by
  refine ⟨⟨by_lit _ rfl, by decide⟩, ⟨?_, ?_, by decide⟩, ⟨by_lit _ rfl, by decide⟩, by decide, by decide, fun z hz => by cases hz⟩
  · intro w hw; simp only [awC, List.mem_cons, List.not_mem_nil, or_false] at hw; rcases hw with rfl | rfl <;> exact by_lit _ rfl
  · intro w hw; simp only [awC, List.mem_cons, List.not_mem_nil, or_false] at hw; rcases hw with rfl | rfl <;> decide
theorem awake_ax : PCall Tryz.prog 29 [] (.v (.bool true)) := by
  refine pcall_of fun s => ?_
  have p1 := read_ax aw1 aw_by1.1 aw_by1.2 (by decide)
  rw [aw_r] at p1
  have p2 := write_ax awC aw_cw
  rw [aw_w] at p2
  have p3 := readM_ax aw2 aw_by2.1 aw_by2.2 (by decide)
  rw [aw_m] at p3
  have p4 := texts_ax [[114, 49], [97], [48], [52, 55, 48, 48]] [[114, 49], [97], [48], [52, 55, 48, 48]] aw_by3 aw_by3 (by decide) (by decide)
  rw [decide_eq_true rfl] at p4
  have f5 : eqOk Tryz.prog 24 = true := by kernel_rfl
  unfold RA CA SV TV NV IV iv at p1
  unfold PA CA SV TV NV IV iv at p2
  unfold RB MA SV TV NV iv at p3
  unfold TV at p4
  refine acall_of Tryz.func29 rfl rfl (by simp [Tryz.ntmps29]) ?_; rw [Tryz.ntmps29, Tryz.results29]
  refine go rTI ?_
  refine aw_reg fun K hK => ?_; refine rn rTI ?_; refine cont_box s.nx _ 1 (St.push_same _ _) p1 fun s1 n1 g1 => ?_; refine rn rTI ?_; refine hK _ _ ?_; clear hK K
  have m1 : s1.nx = s.nx + 1 := n1
  have r1 : ∀ j, j < s.nx → s1.get j = s.get j := fun j hj => (g1 j (by omega)).trans (St.push_ne s _ _ (by omega))
  clear n1 g1
  refine go rTI ?_
  refine aw_reg fun K hK => ?_; refine rn rTI ?_; refine cont_pure p2 ?_; refine rn rTI ?_; refine hK _ _ ?_; clear hK K
  refine go rTI ?_
  refine aw_reg fun K hK => ?_; refine rn rTI ?_; refine cont_box (s1.nx + 1) _ 1 (St.push_same _ _) p3 fun s2 n2 g2 => ?_; refine rn rTI ?_; refine hK _ _ ?_; clear hK K
  have m2 : s2.nx = s1.nx + 2 := n2
  have r2 : ∀ j, j < s.nx → s2.get j = s.get j := fun j hj => by
    rw [g2 j (by omega), St.push_ne _ _ _ (show j ≠ s1.nx + 1 by omega), St.set_ne _ _ _ _ (by omega), St.push_ne s1 _ _ (by omega)]
    exact r1 j hj
  have c2 : s2.get s1.nx = some [.v (.string (bs awC.name)), .sl awC.nodes.length (SL awC.nodes), .v (.string (bs awC.ref)), .v (.int .i64 awC.value.1), .v (.int .i64 awC.value.2), .v (.int .i64 awC.wave.kind), .sl awC.wave.vals.length (NC awC.wave.vals), .sl awC.wave.steps.length (IL awC.wave.steps)] := by
    rw [g2 s1.nx (by omega), St.push_ne _ _ _ (show s1.nx ≠ s1.nx + 1 by omega)]
    exact St.set_same _ _ _
  clear n2 g2
  refine go rTI ?_
  have v1 : awC.value.1 = 47 := rfl
  have v2 : awC.value.2 = 2 := rfl
  have v3 : (awM.g.length : Int) = 2 := rfl
  have v4 : awM.kind = 100 := rfl
  refine aw_reg fun K hK => ?_
  refine rn (cj rTI (cj @c2 (cj @f5 (cj @v1 (cj @v2 (cj @v3 @v4)))))) ?_
  refine cont_box2 (s2.nx + 1) _ 1 (St.push_same _ _) (tv_idf [[114, 49], [97], [48], [52, 55, 48, 48]]) p4 fun s3 n3 g3 => ?_
  have c3 : s3.get s2.nx = some [.v (.string (bs awM.name)), .v (.int .u8 awM.kind), .sl awM.g.length (NC awM.g), .sl awM.v.length (NC awM.v)] := (g3 _ (by omega)).trans ((St.push_ne _ _ _ (show s2.nx ≠ s2.nx + 1 by omega)).trans (St.set_same _ _ _))
  refine rn (cj rTI (cj @c3 (cj @v3 @v4))) ?_
  refine hK _ _ ?_
  clear hK K
  refine go rTI ?_
  intro i hi
  rw [g3 i (by omega), St.push_ne _ _ _ (show i ≠ s2.nx + 1 by omega), St.set_ne _ _ _ _ (by omega), St.push_ne s2 _ _ (by omega)]
  exact r2 i hi
end Go.Proofs.YtfjelkjlfcafgaaGreatDoor.CardU
end
section
/- The document on models: Valid. -/
namespace Go.Proofs.YtfjelkjlfcafgaaGreatDoor.CardT
open Go Go.RowKit Go.Proofs.YtfjelkjlfcafgaaGreatDoor.Ax Go.Proofs.YtfjelkjlfcafgaaGreatDoor.Ti Go.Proofs.YtfjelkjlfcafgaaGreatDoor.NumS Go.Proofs.YtfjelkjlfcafgaaGreatDoor.NumT Go.Proofs.YtfjelkjlfcafgaaGreatDoor.CardS Go.Proofs.YtfjelkjlfcafgaaGreatDoor.CardP Go.Proofs.YtfjelkjlfcafgaaGreatDoor.CardA Go.Proofs.YtfjelkjlfcafgaaGreatDoor.CardB Go.Proofs.YtfjelkjlfcafgaaGreatDoor.CardC Go.Proofs.YtfjelkjlfcafgaaGreatDoor.CardD Go.Proofs.YtfjelkjlfcafgaaGreatDoor.CardE Go.Proofs.YtfjelkjlfcafgaaGreatDoor.CardF Go.Proofs.YtfjelkjlfcafgaaGreatDoor.CardG Go.Proofs.YtfjelkjlfcafgaaGreatDoor.CardH Go.Proofs.YtfjelkjlfcafgaaGreatDoor.CardL
open Go.Proofs.YtfjelkjlfcafgaaGreatDoor.NumA (NM)
open Go.Proofs.YtfjelkjlfcafgaaGreatDoor.RefK (FA)
set_option linter.unusedSimpArgs false
set_option linter.unusedVariables false
set_option maxRecDepth 4000
set_option maxHeartbeats 2000000
theorem rTI : type_of% (cj @ti3 (cj @ti4 (cj @ti9 (cj @ti5 (cj @ti2 (cj @ti36 (cj @ti63 (cj @ti62 (cj @ti24 (cj @ti82 (cj @Nat.zero_add (cj @tz0 (cj @tz1 (cj @tz3 (cj @Nat.mul_one @Int.toNat_natCast))))))))))))))) := cj @ti3 (cj @ti4 (cj @ti9 (cj @ti5 (cj @ti2 (cj @ti36 (cj @ti63 (cj @ti62 (cj @ti24 (cj @ti82 (cj @Nat.zero_add (cj @tz0 (cj @tz1 (cj @tz3 (cj @Nat.mul_one @Int.toNat_natCast))))))))))))))
theorem aw_gen {P : Program} {code : Code} {m0 : Nat} {e : Env} {s : St} {Q : Exit → Env → St → Prop} (I : St → Prop) (h : I s) (k : ∀ s', I s' → AW P code m0 e s' Q) : AW P code m0 e s Q := k s h
theorem less_calls (a b : Num) (ha : valid a = true) (hb : valid b = true) : ∃ x y z, PCall Tryz.prog 70 [NM a.1 a.2] x ∧ PCall Tryz.prog 70 [NM b.1 b.2] y ∧ PCall Tryz.prog 77 [x, y] (.v (.int .i64 z)) ∧ sLess a b = decide (z < 0) := by
  obtain ⟨m1, m2, k1', k2'⟩ := RefM.validN_m _ _ ha
  obtain ⟨m3, m4, k3', k4'⟩ := RefM.validN_m _ _ hb
  have p2 := RefM.ofN_ax a.1 a.2 (by omega) (by omega) (by omega) (by omega)
  have p3 := RefM.ofN_ax b.1 b.2 (by omega) (by omega) (by omega) (by omega)
  obtain ⟨l1, l2⟩ := RefM.ofN_lz a.1 a.2 (by omega) (by omega) (by omega) (by omega)
  obtain ⟨l3, l4⟩ := RefM.ofN_lz b.1 b.2 (by omega) (by omega) (by omega) (by omega)
  exact ⟨_, _, _, p2, p3, RefK.heldF_ax _ _ _ _ (by omega) (by omega) (by omega) (by omega), rfl⟩
theorem rmvalid_ax (m : Mdl) (hn : By m.name ∧ m.name.length ≤ 281474976710656) (hg : m.g.length ≤ 9223372036854775807) (hv : m.v.length ≤ 9223372036854775806) : PCall Tryz.prog 47 [MA m] (.v (.bool (modelOk m))) := by
  refine pcall_of fun s => ?_
  obtain ⟨nm, kd, G, V⟩ := m
  rw [modelOk_eq]
  simp only at hn hg hv
  have hnm := rname_ax nm hn.1 (by have := hn.2; omega)
  unfold MA NV
  unfold SV at hnm ⊢
  simp only
  cases hc : isName nm with
  | false =>
    rw [hc] at hnm
    rw [Bool.false_and, Bool.false_and, Bool.false_and]
    refine acall_of Tryz.func47 rfl rfl (by simp [Tryz.ntmps47]) ?_; rw [Tryz.ntmps47, Tryz.results47]
    refine go rTI ?_
    refine aw_reg fun K hK => ?_; refine rn rTI ?_; refine cont_pure hnm ?_; refine rn rTI ?_; refine hK _ _ ?_; clear hK K
    refine ifs ?_ ?_ <;> first | exact nope | intro hb
    refine go rTI ?_
    exact fun i hi => if_neg (by omega)
  | true =>
    rw [hc] at hnm
    rw [Bool.true_and]
    refine acall_of Tryz.func47 rfl rfl (by simp [Tryz.ntmps47]) ?_; rw [Tryz.ntmps47, Tryz.results47]
    refine go rTI ?_
    refine aw_reg fun K hK => ?_; refine rn rTI ?_; refine cont_pure hnm ?_; refine rn rTI ?_; refine hK _ _ ?_; clear hK K
    refine ifs ?_ ?_ <;> first | exact nope | intro hb
    refine go rTI ?_
    refine aw_gen (fun x => x.get s.nx = some [.v (.string (bs nm)), .v (.int .u8 kd), .sl G.length (NC G), .sl V.length (NC V)] ∧ (∀ i, i < s.nx → x.get i = s.get i)) ⟨St.push_same _ _, fun i hi => St.push_ne s _ _ (by omega)⟩ fun s1 hs1 => ?_
    obtain ⟨gb, fr⟩ := hs1
    refine aw_loop (fun m e s' => ∃ k, m = G.length - k ∧ k ≤ G.length ∧ e.n = 99 ∧ e.m 1 = .ptr s.nx 0 ∧ e.m 3 = .v (.int .i64 (k : Nat)) ∧ (G.take k).all valid = true ∧ s' = s1) G.length ?_ ?_
    · refine ⟨0, by omega, by omega, ?_, ?_, ?_, rfl, rfl⟩
      all_goals ((first | refine rn rTI ?_ | exact rn0 rTI))
      all_goals (first | rfl | trivial)
    · rintro m e s' ⟨k, rfl, hk, h1, k1, k3, ha, rfl⟩
      by_cases hk2 : k < G.length
      · have f1 := nc_at G k hk2
        have f2 : 2 ≤ ((NC G).drop (k * 2)).length := by rw [List.length_drop, nc_len]; omega
        have hp : PCall Tryz.prog 16 [NM (G.getD k (0, 0)).1 (G.getD k (0, 0)).2] (.v (.bool (valid (G.getD k (0, 0))))) := RefM.valid_ax _ _
        have ht := take_all valid G (0, 0) k hk2 ha
        have hf := all_not valid G (0, 0) k hk2
        unfold iv at f1
        unfold NM at hp
        generalize G.getD k (0, 0) = n at *
        refine go (cj rTI (cj @h1 (cj @k1 (cj @k3 @gb)))) ?_
        refine ifs ?_ ?_ <;> first | exact nope | intro hb
        refine aw_skip ?_
        refine go rTI ?_
        refine aw_reg fun K hK => ?_; refine rn (cj rTI (cj @h1 (cj @k1 (cj @k3 (cj @gb (cj @f1 @f2)))))) ?_; refine cont_pure hp ?_; refine rn (cj rTI (cj @h1 (cj @k1 (cj @k3 (cj @gb (cj @f1 @f2)))))) ?_; refine hK _ _ ?_; clear hK K
        cases hc : valid n with
        | false =>
          rw [hf hc, Bool.false_and, Bool.false_and]
          refine ifs ?_ ?_ <;> first | exact nope | intro hb
          refine go (cj rTI @h1) ?_
          exact fr
        | true =>
          rw [hc] at ht
          refine ifs ?_ ?_ <;> first | exact nope | intro hb
          refine go (cj rTI (cj @h1 @k3)) ?_
          simp only [block_normal, loop_normal]
          refine ⟨G.length - (k + 1), by omega, k + 1, rfl, by omega, ?_, ?_, ?_, ht, trivial⟩
          all_goals ((first | refine rn (cj rTI (cj @h1 (cj @k1 @k3))) ?_ | exact rn0 (cj rTI (cj @h1 (cj @k1 @k3)))))
          all_goals (first | rfl | trivial)
      · obtain rfl : k = G.length := by omega
        rw [List.take_length] at ha
        rw [ha, Bool.true_and]
        clear ha hk hk2
        refine go (cj rTI (cj @h1 (cj @k1 (cj @k3 @gb)))) ?_
        refine ifs ?_ ?_ <;> first | exact nope | intro hb
        refine go (cj rTI (cj @h1 @k1)) ?_
        refine aw_loop (fun m e2 s2 => ∃ k, m = V.length - k ∧ k ≤ V.length ∧ e2.n = 99 ∧ e2.m 1 = .ptr s.nx 0 ∧ e2.m 4 = .v (.int .i64 (k : Nat)) ∧ (V.take k).all valid = true ∧ (kd = 100 → ∀ i, i + 1 < k → sLess (V.getD i (0, 0)) (V.getD (i + 1) (0, 0)) = true) ∧ s2 = s') V.length ?_ ?_
        · refine ⟨0, by omega, by omega, ?_, ?_, ?_, rfl, fun _ i hi => by omega, rfl⟩
          all_goals ((first | refine rn (cj rTI (cj @h1 @k1)) ?_ | exact rn0 (cj rTI (cj @h1 @k1))))
          all_goals (first | rfl | trivial)
        · clear h1 k1 k3
          rintro m e2 s2 ⟨k, rfl, hk, h1, k1, k4, ha, hr, rfl⟩
          by_cases hk2 : k < V.length
          · have f1 := nc_at V k hk2
            have f2 : 2 ≤ ((NC V).drop (k * 2)).length := by rw [List.length_drop, nc_len]; omega
            have hp : PCall Tryz.prog 16 [NM (V.getD k (0, 0)).1 (V.getD k (0, 0)).2] (.v (.bool (valid (V.getD k (0, 0))))) := RefM.valid_ax _ _
            have ht := take_all valid V (0, 0) k hk2 ha
            have hf := all_not valid V (0, 0) k hk2
            unfold iv at f1
            unfold NM at hp
            refine go (cj rTI (cj @h1 (cj @k1 (cj @k4 @gb)))) ?_
            refine ifs ?_ ?_ <;> first | exact nope | intro hb
            refine aw_skip ?_
            refine go rTI ?_
            refine aw_reg fun K hK => ?_; refine rn (cj rTI (cj @h1 (cj @k1 (cj @k4 (cj @gb (cj @f1 @f2)))))) ?_; refine cont_pure hp ?_; refine rn (cj rTI (cj @h1 (cj @k1 (cj @k4 (cj @gb (cj @f1 @f2)))))) ?_; refine hK _ _ ?_; clear hK K
            cases hc : valid (V.getD k (0, 0)) with
            | false =>
              rw [hf hc, Bool.false_and]
              refine ifs ?_ ?_ <;> first | exact nope | intro hb
              refine go (cj rTI @h1) ?_
              exact fr
            | true =>
              rw [hc] at ht
              refine ifs ?_ ?_ <;> first | exact nope | intro hb
              refine go (cj rTI @h1) ?_
              by_cases q1 : kd = 100
              · subst q1
                by_cases q2 : 0 < k
                · have f3 := nc_at V (k - 1) (by omega)
                  have f4 : 2 ≤ ((NC V).drop ((k - 1) * 2)).length := by rw [List.length_drop, nc_len]; omega
                  have hva : valid (V.getD (k - 1) (0, 0)) = true := by
                    rw [List.getD_eq_getElem?_getD, List.getElem?_eq_getElem (show k - 1 < V.length by omega)]
                    refine List.all_eq_true.1 ha _ ?_
                    have : (V.take k)[k - 1]? = some V[k - 1] := by rw [List.getElem?_take, if_pos (by omega), List.getElem?_eq_getElem]
                    exact List.mem_of_getElem? this
                  obtain ⟨x, y, z, p1, p2, p3, hz⟩ := less_calls (V.getD (k - 1) (0, 0)) (V.getD k (0, 0)) hva hc
                  have hnr := risingN_not V (k - 1) (by omega)
                  rw [show k - 1 + 1 = k by omega, hz] at hnr
                  have hpr : z < 0 → ((100 : Int) = 100 → ∀ i, i + 1 < k + 1 → sLess (V.getD i (0, 0)) (V.getD (i + 1) (0, 0)) = true) := fun h _ i hi => by
                    by_cases q : i = k - 1
                    · subst q
                      rw [show k - 1 + 1 = k by omega, hz]
                      exact decide_eq_true h
                    · exact hr rfl i (by omega)
                  have hj3 : (k : Int) - 1 = ((k - 1 : Nat) : Int) := by omega
                  unfold NM at p1 p2
                  unfold iv at f3
                  clear hp hf hr hz hva
                  refine aw_drw (.take 0 (.take 1 (.take 2 (.take 3 (.take 4 (.take 5 (.take 6 (.take 7 (.take 8 (.take 9 (.take 10 (.take 11 (.take 12 (.take 13 (.take 15 (.take 16 (.take 17 (.take 18 (.take 19 (.one 14 (.one 20 (.one 21 (.take 22 (.take 23 (.done))))))))))))))))))))))))) [s.nx] (by kernel_rfl) (by kernel_rfl) fun K hK => ?_; refine dr (cj rTI (cj @h1 (cj @k1 (cj @k4 (cj @gb (cj @f1 (cj @f2 (cj @f3 (cj @f4 @hj3))))))))) ?_; refine cont_pure p1 ?_; refine dr (cj rTI (cj @h1 (cj @k1 (cj @k4 (cj @gb (cj @f1 (cj @f2 (cj @f3 (cj @f4 @hj3))))))))) ?_; refine cont_pure p2 ?_; refine dr (cj rTI (cj @h1 (cj @k1 (cj @k4 (cj @gb (cj @f1 (cj @f2 (cj @f3 (cj @f4 @hj3))))))))) ?_; refine cont_pure p3 ?_; refine dr (cj rTI (cj @h1 (cj @k1 (cj @k4 (cj @gb (cj @f1 (cj @f2 (cj @f3 (cj @f4 @hj3))))))))) ?_; refine hK _ _ ?_; clear hK K
                  by_cases c : z < 0
                  · rw [then_normal]
                    refine ifs ?_ ?_ <;> first | exact nope | intro hb
                    refine go (cj rTI (cj @h1 @k4)) ?_
                    simp only [block_normal, loop_normal]
                    refine ⟨V.length - (k + 1), by omega, k + 1, rfl, by omega, ?_, ?_, ?_, ht, hpr c rfl, trivial⟩
                    all_goals ((first | refine rn (cj rTI (cj @h1 (cj @k1 @k4))) ?_ | exact rn0 (cj rTI (cj @h1 (cj @k1 @k4)))))
                    all_goals (first | rfl | trivial)
                  · rw [then_normal]
                    refine ifs ?_ ?_ <;> first | exact nope | intro hb
                    have hkm : kindM 100 G V = false := by
                      unfold kindM
                      rw [if_neg (by decide), if_pos rfl, hnr (decide_eq_false c), Bool.and_false]
                    rw [hkm, Bool.and_false]
                    refine go (cj rTI @h1) ?_
                    exact fr
                · have q3 : (k : Int) = 0 := by omega
                  refine aw_drw (.take 0 (.take 1 (.take 2 (.take 3 (.take 4 (.take 5 (.take 6 (.take 7 (.take 8 (.take 9 (.take 10 (.take 11 (.take 12 (.take 13 (.take 15 (.take 16 (.take 17 (.take 18 (.take 19 (.one 14 (.one 20 (.one 21 (.take 22 (.take 23 (.done))))))))))))))))))))))))) [s.nx] (by kernel_rfl) (by kernel_rfl) fun K hK => ?_; refine dr (cj rTI (cj @h1 (cj @k1 (cj @k4 @gb)))) ?_; refine hK _ _ ?_; clear hK K
                  rw [then_normal]
                  refine ifs ?_ ?_ <;> first | exact nope | intro hb
                  refine go (cj rTI (cj @h1 @k4)) ?_
                  simp only [block_normal, loop_normal]
                  refine ⟨V.length - (k + 1), by omega, k + 1, rfl, by omega, ?_, ?_, ?_, ht, fun i hi => by omega, trivial⟩
                  all_goals ((first | refine rn (cj rTI (cj @h1 (cj @k1 @k4))) ?_ | exact rn0 (cj rTI (cj @h1 (cj @k1 @k4)))))
                  all_goals (first | rfl | trivial)
              · refine aw_drw (.take 0 (.take 1 (.take 2 (.take 3 (.take 4 (.take 5 (.take 6 (.take 7 (.take 8 (.take 9 (.take 10 (.take 11 (.take 12 (.take 13 (.take 15 (.take 16 (.take 17 (.take 18 (.take 19 (.one 14 (.one 20 (.one 21 (.take 22 (.take 23 (.done))))))))))))))))))))))))) [s.nx] (by kernel_rfl) (by kernel_rfl) fun K hK => ?_; refine dr (cj rTI (cj @h1 (cj @k1 (cj @k4 (cj @gb @q1))))) ?_; refine hK _ _ ?_; clear hK K
                rw [then_normal]
                refine ifs ?_ ?_ <;> first | exact nope | intro hb
                refine go (cj rTI (cj @h1 @k4)) ?_
                simp only [block_normal, loop_normal]
                refine ⟨V.length - (k + 1), by omega, k + 1, rfl, by omega, ?_, ?_, ?_, ht, fun h => absurd h q1, trivial⟩
                all_goals ((first | refine rn (cj rTI (cj @h1 (cj @k1 @k4))) ?_ | exact rn0 (cj rTI (cj @h1 (cj @k1 @k4)))))
                all_goals (first | rfl | trivial)
          · obtain rfl : k = V.length := by omega
            rw [List.take_length] at ha
            rw [ha, Bool.true_and]
            unfold kindM
            by_cases q1 : kd = 115
            · rw [if_pos q1]
              subst q1
              rw [show decide (G.length = 2 ∧ V.length = 1) = (decide (G.length = 2) && decide (V.length = 1)) by rw [Bool.decide_and]]
              refine go (cj rTI (cj @h1 (cj @k1 (cj @k4 @gb)))) ?_
              refine ifs ?_ ?_ <;> first | exact nope | intro hb
              refine go (cj rTI (cj @h1 (cj @k1 @gb))) ?_
              refine ifs ?_ ?_ <;> first | exact nope | intro hb
              by_cases c1 : G.length = 2
              · by_cases c2 : V.length = 1
                · rw [decide_eq_true c1, decide_eq_true c2]
                  refine go (cj rTI (cj @h1 (cj @k1 @gb))) ?_
                  exact fr
                · rw [decide_eq_true c1, decide_eq_false c2]
                  refine go (cj rTI (cj @h1 (cj @k1 @gb))) ?_
                  exact fr
              · rw [decide_eq_false c1, Bool.false_and]
                refine go (cj rTI (cj @h1 (cj @k1 @gb))) ?_
                exact fr
            rw [if_neg q1]
            by_cases q2 : kd = 100
            · rw [if_pos q2]
              have hR : risingN V = true := risingN_of V fun i hi => hr q2 i hi
              rw [hR, Bool.and_true]
              subst q2
              rcases (by omega : G.length < 1 ∨ (1 ≤ G.length ∧ 4 < G.length) ∨ (1 ≤ G.length ∧ G.length ≤ 4 ∧ ¬ V.length + 1 = G.length) ∨ (1 ≤ G.length ∧ G.length ≤ 4 ∧ V.length + 1 = G.length)) with c | ⟨c1, c2⟩ | ⟨c1, c2, c3⟩ | ⟨c1, c2, c3⟩
              · rw [decide_eq_false (fun h => by omega)]
                refine go (cj rTI (cj @h1 (cj @k1 (cj @k4 @gb)))) ?_
                refine ifs ?_ ?_ <;> first | exact nope | intro hb
                refine go (cj rTI (cj @h1 (cj @k1 @gb))) ?_
                refine ifs ?_ ?_ <;> first | exact nope | intro hb
                refine go (cj rTI (cj @h1 (cj @k1 @gb))) ?_
                exact fr
              · rw [decide_eq_false (fun h => by omega)]
                refine go (cj rTI (cj @h1 (cj @k1 (cj @k4 @gb)))) ?_
                refine ifs ?_ ?_ <;> first | exact nope | intro hb
                refine go (cj rTI (cj @h1 (cj @k1 @gb))) ?_
                refine ifs ?_ ?_ <;> first | exact nope | intro hb
                refine go (cj rTI (cj @h1 (cj @k1 @gb))) ?_
                exact fr
              · rw [decide_eq_false (fun h => by omega)]
                refine go (cj rTI (cj @h1 (cj @k1 (cj @k4 @gb)))) ?_
                refine ifs ?_ ?_ <;> first | exact nope | intro hb
                refine go (cj rTI (cj @h1 (cj @k1 @gb))) ?_
                refine ifs ?_ ?_ <;> first | exact nope | intro hb
                refine go (cj rTI (cj @h1 (cj @k1 @gb))) ?_
                exact fr
              · rw [decide_eq_true ⟨c1, c2, c3⟩]
                refine go (cj rTI (cj @h1 (cj @k1 (cj @k4 @gb)))) ?_
                refine ifs ?_ ?_ <;> first | exact nope | intro hb
                refine go (cj rTI (cj @h1 (cj @k1 @gb))) ?_
                refine ifs ?_ ?_ <;> first | exact nope | intro hb
                refine go (cj rTI (cj @h1 (cj @k1 @gb))) ?_
                exact fr
            · rw [if_neg q2]
              refine go (cj rTI (cj @h1 (cj @k1 (cj @k4 @gb)))) ?_
              refine ifs ?_ ?_ <;> first | exact nope | intro hb
              refine go (cj rTI (cj @h1 (cj @k1 @gb))) ?_
              refine ifs ?_ ?_ <;> first | exact nope | intro hb
              refine go (cj rTI (cj @h1 (cj @k1 @gb))) ?_
              exact fr
end Go.Proofs.YtfjelkjlfcafgaaGreatDoor.CardT
end
section
/- The law NumCalls, walked. -/
namespace Go.Proofs.YtfjelkjlfcafgaaGreatDoor.NumI
open Go Go.RowKit Go.Proofs.YtfjelkjlfcafgaaGreatDoor.Ax Go.Proofs.YtfjelkjlfcafgaaGreatDoor.Ti Go.Proofs.YtfjelkjlfcafgaaGreatDoor.BigM Go.Proofs.YtfjelkjlfcafgaaGreatDoor.NumS Go.Proofs.YtfjelkjlfcafgaaGreatDoor.NumA Go.Proofs.YtfjelkjlfcafgaaGreatDoor.NumB Go.Proofs.YtfjelkjlfcafgaaGreatDoor.NumT Go.Proofs.YtfjelkjlfcafgaaGreatDoor.NumU Go.Proofs.YtfjelkjlfcafgaaGreatDoor.NumL Go.Proofs.YtfjelkjlfcafgaaGreatDoor.NumW Go.Proofs.YtfjelkjlfcafgaaGreatDoor.NumX Go.Proofs.YtfjelkjlfcafgaaGreatDoor.NumY Go.Proofs.YtfjelkjlfcafgaaGreatDoor.NumE Go.Proofs.YtfjelkjlfcafgaaGreatDoor.NumG
set_option linter.unusedSimpArgs false
set_option linter.unusedVariables false
set_option maxRecDepth 4000
set_option maxHeartbeats 2000000
theorem acall_args {P : Program} {f : FuncId} {zs zs' : List AV} {s : St} {R : AV → St → Prop} (hl : zs'.length = zs.length) (hz : ∀ (j : Nat) (x y : AV), zs[j]? = some x → zs'[j]? = some y → Le x y) (h : ACall P f zs' s R) : ACall P f zs s R :=
  ⟨h.1, fun w0 k w vs hs hv => h.2 w0 k w vs hs ⟨hv.1.trans hl.symm, fun j z u hz' hu => by
    have hj : j < zs.length := by rw [← hl]; exact (List.getElem?_eq_some_iff.1 hz').1
    exact hz j _ z (List.getElem?_eq_getElem hj) hz' k u (hv.2 j _ u (List.getElem?_eq_getElem hj) hu)⟩⟩
end Go.Proofs.YtfjelkjlfcafgaaGreatDoor.NumI
end
section
/- The abstract machine, part Q: boxes lent to a call that only reads. -/
set_option linter.unusedVariables false
set_option linter.unusedSimpArgs false
namespace Go.Proofs.YtfjelkjlfcafgaaGreatDoor.Ax
open Go Go.RowKit
variable {P : Program}

inductive Lies (s : St) : AV → AV → Prop
  | same (z : AV) (h : idf z = true) : Lies s z z
  | nil (cap : Nat) : Lies s (.v (.slice none 0 cap)) (.sl 0 [])
  | own (id off n sz : Nat) (c c' : List AV) (hi : s.get id = some c) (hl : c'.length = n * sz) (hc : off + n * sz ≤ c.length) (h : ∀ (j : Nat) (z z' : AV), (c.drop off)[j]? = some z → c'[j]? = some z' → Lies s z z') : Lies s (.own id off n sz) (.sl n c')
  | ptr (id off : Nat) (c c' : List AV) (hi : s.get id = some c) (hl : c'.length = (c.drop off).length) (h : ∀ (j : Nat) (z z' : AV), (c.drop off)[j]? = some z → c'[j]? = some z' → Lies s z z') : Lies s (.ptr id off) (.rf c')
  | sl (n : Nat) (c c' : List AV) (hl : c'.length = c.length) (h : ∀ (j : Nat) (z z' : AV), c[j]? = some z → c'[j]? = some z' → Lies s z z') : Lies s (.sl n c) (.sl n c')
  | rf (c c' : List AV) (hl : c'.length = c.length) (h : ∀ (j : Nat) (z z' : AV), c[j]? = some z → c'[j]? = some z' → Lies s z z') : Lies s (.rf c) (.rf c')
  | ag (c c' : List AV) (hl : c'.length = c.length) (h : ∀ (j : Nat) (z z' : AV), c[j]? = some z → c'[j]? = some z' → Lies s z z') : Lies s (.ag c) (.ag c')
def LiesL (s : St) (c c' : List AV) : Prop := c'.length = c.length ∧ ∀ (j : Nat) (z z' : AV), c[j]? = some z → c'[j]? = some z' → Lies s z z'
theorem LiesL.nil (s : St) : LiesL s [] [] := ⟨rfl, fun j z z' h => by cases h⟩
theorem LiesL.cons {s : St} {z z' : AV} {c c' : List AV} (h : Lies s z z') (g : LiesL s c c') : LiesL s (z :: c) (z' :: c') := ⟨by rw [List.length_cons, List.length_cons, g.1], fun j x y hx hy => by
  cases j with
  | zero => simp at hx hy; subst hx hy; exact h
  | succ j => exact g.2 j x y (by simpa using hx) (by simpa using hy)⟩
theorem LiesL.app {s : St} {a b a' b' : List AV} (h : LiesL s a a') (g : LiesL s b b') : LiesL s (a ++ b) (a' ++ b') := ⟨by rw [List.length_append, List.length_append, h.1, g.1], fun j x y hx hy => by
  by_cases hj : j < a.length
  · rw [List.getElem?_append_left hj] at hx
    rw [List.getElem?_append_left (by rw [h.1]; exact hj)] at hy
    exact h.2 j x y hx hy
  · rw [List.getElem?_append_right (by omega)] at hx
    rw [List.getElem?_append_right (by rw [h.1]; omega), h.1] at hy
    exact g.2 _ x y hx hy⟩
theorem Lies.whole {s : St} {id n sz : Nat} {c c' : List AV} (hi : s.get id = some c) (hl : c.length = n * sz) (h : LiesL s c c') : Lies s (.own id 0 n sz) (.sl n c') :=
  .own id 0 n sz c c' hi (h.1.trans hl) (by omega) fun j z z' hz hz' => h.2 j z z' (by simpa using hz) hz'
theorem Lies.box {s : St} {id : Nat} {c c' : List AV} (hi : s.get id = some c) (h : LiesL s c c') : Lies s (.ptr id 0) (.rf c') :=
  .ptr id 0 c c' hi h.1 fun j z z' hz hz' => h.2 j z z' (by simpa using hz) hz'
theorem Lies.agg {s : St} {c c' : List AV} (h : LiesL s c c') : Lies s (.ag c) (.ag c') := .ag c c' h.1 h.2
def still (w : World) (h : Tabs w.cell?) : KW := ⟨fun _ => ⟨0, 0, 0⟩, 0, w.cell?, h⟩
end Go.Proofs.YtfjelkjlfcafgaaGreatDoor.Ax
end
section
/- Data at a call's beginning, read as the abstract machine reads it. -/
namespace Go.Proofs.YtfjelkjlfcafgaaGreatDoor.Open
open Go Go.RowKit Go.Proofs.YtfjelkjlfcafgaaGreatDoor.Ax
set_option linter.unusedVariables false
variable {H : Type} {enc : TypeId × Value → H} {P : Program} {w : World} {base : Nat} {spare : Nat → Bool} {held : Bool}
def Op (enc : TypeId × Value → H) (P : Program) (w : World) (base : Nat) (spare : Nat → Bool) (held : Bool) (t : TypeId) (D : Type) (cell : D → List AV) : Prop :=
  ∀ (ht : Tabs w.cell?) fuel cs x, DataW.trod enc P w base spare held fuel t cs = some x → (∀ n ∈ x.1.weights P t, n ≤ reachBytes) → ∃ d, RelL (still w ht) (cell d) cs
def OpF (enc : TypeId × Value → H) (P : Program) (w : World) (base : Nat) (spare : Nat → Bool) (held : Bool) (N : Nat) (fs : List Field) (o : Nat) (D : Type) (cell : D → List AV) : Prop :=
  ∀ (ht : Tabs w.cell?) fuel (cs : List Value) xs, cs.length = N → (fs.mapM fun f => DataW.trod enc P w base spare held fuel f.type ((cs.drop f.offset).take (P.cellsOf f.type))) = some xs → (∀ n ∈ DataW.weightsEach P (fs.map (·.type)) (xs.map (·.1)), n ≤ reachBytes) → ∃ d, RelL (still w ht) (cell d) (cs.drop o)
theorem relL_one {k : KW} {z : AV} {u : Value} (h : Rel k z u) : RelL k [z] [u] := ⟨rfl, fun j y x hy hx => by
  cases j with
  | zero => simp at hy hx; subst hy hx; exact h
  | succ j => simp at hy⟩
theorem op_int {t : TypeId} {k : IntKind} (ht : P.underlying t = some (.int k)) : Op enc P w base spare held t { n : Int // (Lit.int k n).wf = true } (fun n => [.v (.int k n.1)]) := by
  intro hT fuel cs x h _
  obtain ⟨n, rfl, h1, h2⟩ := DataW.trod_int ht h
  exact ⟨⟨n, h2⟩, relL_one (.v _)⟩
theorem op_str {t : TypeId} (ht : P.underlying t = some .string) : Op enc P w base spare held t { b : ByteArray // b.size ≤ reachBytes } (fun b => [.v (.string b.1)]) := by
  intro hT fuel cs x h hw
  cases fuel with
  | zero => simp [DataW.trod] at h
  | succ fuel =>
    match cs with
    | [] => simp [DataW.trod, ht] at h
    | _ :: _ :: _ => simp [DataW.trod, ht] at h
    | [y] =>
      cases y
      case string b =>
        simp only [DataW.trod, ht] at h
        split at h
        · rename_i hb
          injection h with h
          subst h
          exact ⟨⟨b, hw _ (by simp [DataW.weights])⟩, relL_one (.v _)⟩
        · cases h
      all_goals simp [DataW.trod, ht] at h
theorem mapM_each {α β : Type} {f : α → Option β} : ∀ {l : List α} {ys : List β}, l.mapM f = some ys → ∀ a ∈ l, ∃ b ∈ ys, f a = some b
  | [], ys, h, a, ha => by cases ha
  | x :: l, ys, h, a, ha => by
    rw [List.mapM_cons] at h
    cases hx : f x with
    | none => rw [hx] at h; cases h
    | some b =>
      rw [hx] at h
      cases hl : l.mapM f with
      | none => rw [hl] at h; cases h
      | some bs =>
        rw [hl] at h
        injection h with h
        subst h
        rcases List.mem_cons.1 ha with rfl | ha
        · exact ⟨b, List.mem_cons_self .., hx⟩
        · obtain ⟨c, hc, e⟩ := mapM_each hl a ha
          exact ⟨c, List.mem_cons_of_mem _ hc, e⟩
theorem mapM_len {α β : Type} {f : α → Option β} : ∀ {l : List α} {ys : List β}, l.mapM f = some ys → ys.length = l.length
  | [], ys, h => by simp at h; subst h; rfl
  | x :: l, ys, h => by
    rw [List.mapM_cons] at h
    cases hx : f x with
    | none => rw [hx] at h; cases h
    | some b =>
      rw [hx] at h
      cases hl : l.mapM f with
      | none => rw [hl] at h; cases h
      | some bs =>
        rw [hl] at h
        injection h with h
        subst h
        show bs.length + 1 = l.length + 1
        rw [mapM_len hl]
theorem weights_all {H : Type} {P : Program} {e : TypeId} : ∀ {l : List (DataW H)} {d : DataW H} {n : Nat}, d ∈ l → n ∈ d.weights P e → n ∈ DataW.weightsAll P e l
  | [], d, n, h, _ => by cases h
  | x :: l, d, n, h, hn => by
    rw [DataW.weightsAll, List.mem_append]
    rcases List.mem_cons.1 h with rfl | h
    · exact .inl hn
    · exact .inr (weights_all h hn)
theorem cells_reads {a : Addr} {n : Nat} {cs : List Value} (h : w.cells? base a n = some cs) : cs.length = n ∧ ∀ j, j < n → w.cell? (a.add j) = cs[j]? := by
  unfold World.cells? at h
  split at h
  · have key : ∀ (l : List Nat) (cs : List Value), l.mapM (fun i => w.cell? (a.add i)) = some cs → cs.length = l.length ∧ ∀ j, j < l.length → w.cell? (a.add (l.getD j 0)) = cs[j]? := by
      intro l
      induction l with
      | nil => intro cs h; simp at h; subst h; exact ⟨rfl, fun j hj => absurd hj (Nat.not_lt_zero _)⟩
      | cons x l ih =>
        intro cs h
        rw [List.mapM_cons] at h
        cases hx : w.cell? (a.add x) with
        | none => rw [hx] at h; cases h
        | some b =>
          rw [hx] at h
          cases hl : l.mapM (fun i => w.cell? (a.add i)) with
          | none => rw [hl] at h; cases h
          | some bs =>
            rw [hl] at h
            injection h with h
            subst h
            obtain ⟨h1, h2⟩ := ih bs hl
            refine ⟨by simp [h1], fun j hj => ?_⟩
            cases j with
            | zero => simpa using hx
            | succ j => simpa using h2 j (by simpa using hj)
    obtain ⟨h1, h2⟩ := key _ _ h
    rw [List.length_range] at h1 h2
    refine ⟨h1, fun j hj => ?_⟩
    have := h2 j hj
    rwa [List.getD_eq_getElem?_getD, List.getElem?_range hj, Option.getD_some] at this
  · cases h
theorem add_add (a : Addr) (i j : Nat) : (a.add i).add j = a.add (i + j) := by
  unfold Addr.add
  by_cases hi : i = 0
  · subst hi; simp
  · by_cases hj : j = 0
    · subst hj; simp
    · rw [if_neg hi, if_neg hj, if_neg (by omega)]
      simp only
      congr 1
      omega
theorem op_slice {t e : TypeId} {D : Type} {cell : D → List AV} (ht : P.underlying t = some (.slice e)) (he : Op enc P w base spare held e D cell) : Op enc P w base spare held t { l : List D // l.length * P.bytesOf e ≤ reachBytes } (fun l => [.sl l.1.length (l.1.flatMap cell)]) := by
  intro hT fuel cs x h hw
  cases fuel with
  | zero => simp [DataW.trod] at h
  | succ fuel =>
    match cs with
    | [] => simp [DataW.trod, ht] at h
    | _ :: _ :: _ => simp [DataW.trod, ht] at h
    | [y] =>
      cases y
      case slice a len cap =>
        cases a with
        | none =>
          match len, cap with
          | 0, 0 => exact ⟨⟨[], by rw [List.length_nil, Nat.zero_mul]; exact Nat.zero_le _⟩, relL_one (.sl0 none 0)⟩
          | 0, _ + 1 => simp [DataW.trod, ht] at h
          | _ + 1, _ => simp [DataW.trod, ht] at h
        | some a =>
          simp only [DataW.trod, ht] at h
          split at h
          · rename_i hb
            cases hm : (List.range len).mapM (fun i => (w.cells? base (a.add (i * P.cellsOf e)) (P.cellsOf e)).bind (DataW.trod enc P w base spare held fuel e)) with
            | none => rw [hm] at h; cases h
            | some elems =>
              have each := mapM_each hm
              have hlen := mapM_len hm
              rw [List.length_range] at hlen
              rw [hm] at h
              simp only [Option.bind_some] at h
              have hws : (∀ y ∈ elems, ∀ n ∈ y.1.weights P e, n ≤ reachBytes) ∧ elems.length * P.bytesOf e ≤ reachBytes := by
                cases hr : (if spare a.block = true then (List.range (cap - len)).mapM fun j => (w.cells? base (a.add ((len + j) * P.cellsOf e)) (P.cellsOf e)).bind (DataW.trod enc P w base spare held fuel e) else some []) with
                | none => rw [hr] at h; cases h
                | some rest =>
                  rw [hr, Option.map_some] at h
                  injection h with h
                  subst h
                  simp only [DataW.weights, ht] at hw
                  refine ⟨fun y hy n hn => hw n (List.mem_cons_of_mem _ (List.mem_append_left _ (weights_all (List.mem_map_of_mem hy) hn))), ?_⟩
                  have h0 := hw _ (List.mem_cons_self ..)
                  rw [List.length_map] at h0
                  refine Nat.le_trans ?_ h0
                  exact Nat.mul_le_mul_right _ (Nat.le_add_right _ _)
              have hstep : ∀ i, i < len → ∃ (d : D) (ci : List Value), RelL (still w hT) (cell d) ci ∧ ci.length = P.cellsOf e ∧ ∀ j, j < P.cellsOf e → w.cell? ((a.add (i * P.cellsOf e)).add j) = ci[j]? := by
                intro i hi
                obtain ⟨b, hbm, hb⟩ := each i (List.mem_range.2 hi)
                cases hc : w.cells? base (a.add (i * P.cellsOf e)) (P.cellsOf e) with
                | none => rw [hc] at hb; cases hb
                | some ci =>
                  rw [hc] at hb
                  obtain ⟨d, hd⟩ := he hT fuel ci b hb (hws.1 b hbm)
                  obtain ⟨q1, q2⟩ := cells_reads hc
                  exact ⟨d, ci, hd, q1, q2⟩
              have hall : ∀ n, n ≤ len → ∃ (l : List D) (us : List Value), l.length = n ∧ RelL (still w hT) (l.flatMap cell) us ∧ us.length = n * P.cellsOf e ∧ ∀ j, j < n * P.cellsOf e → w.cell? (a.add j) = us[j]? := by
                intro n
                induction n with
                | zero => intro _; exact ⟨[], [], rfl, ⟨rfl, fun j z u hz => by cases hz⟩, by simp, fun j hj => by omega⟩
                | succ n ih =>
                  intro hn
                  obtain ⟨l, us, h1, h2, h3, h4⟩ := ih (by omega)
                  obtain ⟨d, ci, g1, g2, g3⟩ := hstep n (by omega)
                  refine ⟨l ++ [d], us ++ ci, by simp [h1], by rw [List.flatMap_append]; simpa using h2.append g1, by rw [List.length_append, h3, g2, Nat.succ_mul], fun j hj => ?_⟩
                  by_cases hj2 : j < n * P.cellsOf e
                  · rw [List.getElem?_append_left (by omega)]
                    exact h4 j hj2
                  · rw [List.getElem?_append_right (by omega), h3]
                    rw [Nat.succ_mul] at hj
                    have := g3 (j - n * P.cellsOf e) (by omega)
                    rw [← this]
                    rw [add_add]
                    congr 2
                    omega
              obtain ⟨l, us, h1, h2, h3, h4⟩ := hall len (Nat.le_refl _)
              refine ⟨⟨l, by rw [h1, ← hlen]; exact hws.2⟩, relL_one ?_⟩
              show Rel _ (.sl l.length (l.flatMap cell)) _
              rw [h1]
              refine .sl len cap _ a (fun j => us.getD j undef) hb.2.1 (fun j hj => ?_) (fun j z hz => ?_)
              · show w.cell? _ = _
                have hj' : j < us.length := by rw [h2.1]; exact hj
                rw [h4 j (by omega), List.getD_eq_getElem?_getD, List.getElem?_eq_getElem hj']
                rfl
              · have hj' : j < us.length := by rw [h2.1]; exact (List.getElem?_eq_some_iff.1 hz).1
                refine h2.2 j z _ hz ?_
                rw [List.getD_eq_getElem?_getD, List.getElem?_eq_getElem hj']
                rfl
          · cases h
      all_goals simp [DataW.trod, ht] at h
theorem opf_nil {N : Nat} : OpF enc P w base spare held N [] N Unit (fun _ => []) := by
  intro hT fuel cs xs hl h _
  rw [List.drop_of_length_le (by omega)]
  exact ⟨(), rfl, fun j z u hz => by cases hz⟩
theorem opf_cons {N o n : Nat} {f : Field} {fs : List Field} {D D' : Type} {cell : D → List AV} {cell' : D' → List AV} (ho : f.offset = o) (hn : P.cellsOf f.type = n) (h1 : Op enc P w base spare held f.type D cell) (h2 : OpF enc P w base spare held N fs (o + n) D' cell') :
    OpF enc P w base spare held N (f :: fs) o (D × D') (fun d => cell d.1 ++ cell' d.2) := by
  intro hT fuel cs xs hl h hw
  rw [List.mapM_cons] at h
  rw [ho, hn] at h
  cases hx : DataW.trod enc P w base spare held fuel f.type ((cs.drop o).take n) with
  | none => rw [hx] at h; cases h
  | some b =>
    rw [hx] at h
    cases hm : fs.mapM (fun f => DataW.trod enc P w base spare held fuel f.type ((cs.drop f.offset).take (P.cellsOf f.type))) with
    | none => rw [hm] at h; cases h
    | some bs =>
      rw [hm] at h
      injection h with h
      subst h
      simp only [List.map_cons, DataW.weightsEach, List.mem_append] at hw
      obtain ⟨d, hd⟩ := h1 hT fuel _ _ hx fun n hn => hw n (.inl hn)
      obtain ⟨d', hd'⟩ := h2 hT fuel cs bs hl hm fun n hn => hw n (.inr hn)
      refine ⟨(d, d'), ?_⟩
      have e : cs.drop o = (cs.drop o).take n ++ cs.drop (o + n) := by rw [← List.drop_drop, List.take_append_drop]
      rw [e]
      exact hd.append hd'
theorem op_struct {t : TypeId} {fs : Array Field} {D : Type} {cell : D → List AV} (ht : P.underlying t = some (.struct fs)) (hf : OpF enc P w base spare held (P.cellsOf t) fs.toList 0 D cell) : Op enc P w base spare held t D cell := by
  intro hT fuel cs x h hw
  cases fuel with
  | zero => simp [DataW.trod] at h
  | succ fuel =>
    simp only [DataW.trod, ht] at h
    split at h
    · rename_i hl
      cases hm : fs.toList.mapM (fun f => DataW.trod enc P w base spare held fuel f.type ((cs.drop f.offset).take (P.cellsOf f.type))) with
      | none => rw [hm] at h; cases h
      | some bs =>
        rw [hm, Option.map_some] at h
        injection h with h
        subst h
        simp only [DataW.weights, ht] at hw
        obtain ⟨d, hd⟩ := hf hT fuel cs bs hl hm hw
        exact ⟨d, by simpa using hd⟩
    · cases h
theorem Op.map {t : TypeId} {D E : Type} {cell : D → List AV} {cell' : E → List AV} (h : Op enc P w base spare held t D cell) (f : D → E) (hf : ∀ d, cell' (f d) = cell d) : Op enc P w base spare held t E cell' := by
  intro hT fuel cs x hx hw
  obtain ⟨d, hd⟩ := h hT fuel cs x hx hw
  exact ⟨f d, by rw [hf]; exact hd⟩
end Go.Proofs.YtfjelkjlfcafgaaGreatDoor.Open
end
section
/- Cards, models and words at a call's beginning, read as the abstract machine reads them. -/
namespace Go.Proofs.YtfjelkjlfcafgaaGreatDoor.CardX
open Go Go.RowKit Go.Proofs.YtfjelkjlfcafgaaGreatDoor.Ax Go.Proofs.YtfjelkjlfcafgaaGreatDoor.Open Go.Proofs.YtfjelkjlfcafgaaGreatDoor.NumT Go.Proofs.YtfjelkjlfcafgaaGreatDoor.CardS Go.Proofs.YtfjelkjlfcafgaaGreatDoor.CardA Go.Proofs.YtfjelkjlfcafgaaGreatDoor.CardB Go.Proofs.YtfjelkjlfcafgaaGreatDoor.CardE Go.Proofs.YtfjelkjlfcafgaaGreatDoor.CardG Go.Proofs.YtfjelkjlfcafgaaGreatDoor.CardI Go.Proofs.YtfjelkjlfcafgaaGreatDoor.CardK Go.Proofs.YtfjelkjlfcafgaaGreatDoor.CardL
set_option linter.unusedVariables false
set_option maxRecDepth 100000
variable {H : Type} {enc : TypeId × Value → H} {w : World} {base : Nat} {spare : Nat → Bool} {held : Bool}
def lsB (b : ByteArray) : Str := b.data.toList.map UInt8.toNat
theorem lsB_len (b : ByteArray) : (lsB b).length = b.size := by unfold lsB; rw [List.length_map]; rfl
theorem lsB_bs (b : ByteArray) : bs (lsB b) = b := (bs_all b).symm
abbrev StrD := { s : Str // By s ∧ s.length ≤ reachBytes }
abbrev WordsD := { l : List Str // (∀ w ∈ l, By w ∧ w.length ≤ reachBytes) ∧ l.length * 16 ≤ reachBytes }
abbrev IntD := { z : Int // -9223372036854775808 ≤ z ∧ z ≤ 9223372036854775807 }
abbrev ByteD := { z : Int // 0 ≤ z ∧ z ≤ 255 }
abbrev NumsD := { l : List Num // l.length * 16 ≤ reachBytes }
theorem flat1 {α β : Type} (f : α → β) (l : List α) : l.flatMap (fun z => [f z]) = l.map f := by
  induction l with
  | nil => rfl
  | cons a l ih => rw [List.flatMap_cons, ih]; rfl
theorem op_s : Open.Op enc Tryz.prog w base spare held 9 StrD (fun s => [SV s.1]) :=
  (op_str Tryz.underlying9).map (fun b => ⟨lsB b.1, by_all b.1, by rw [lsB_len]; exact b.2⟩) fun b => by
    show [AV.v (.string (bs (lsB b.1)))] = _
    rw [lsB_bs]
theorem op_i {t : TypeId} (ht : Tryz.prog.underlying t = some (.int .i64)) : Open.Op enc Tryz.prog w base spare held t IntD (fun z => [iv z.1]) :=
  (op_int ht).map (fun n => ⟨n.1, by simpa [IntKind.min, IntKind.max, IntKind.signed, IntKind.bits] using Go.Extern.FmtText.int_bounds n.2⟩) fun n => rfl
theorem op_b : Open.Op enc Tryz.prog w base spare held 5 ByteD (fun z => [.v (.int .u8 z.1)]) :=
  (op_int Tryz.underlying5).map (fun n => ⟨n.1, by simpa [IntKind.min, IntKind.max, IntKind.signed, IntKind.bits] using Go.Extern.FmtText.int_bounds n.2⟩) fun n => rfl
theorem op_n : Open.Op enc Tryz.prog w base spare held 24 Num (fun n => [iv n.1, iv n.2]) :=
  (op_struct Tryz.underlying24 (opf_cons rfl (n := 1) (by kernel_rfl) (op_i Tryz.underlying2) (opf_cons rfl (n := 1) (by kernel_rfl) (op_i Tryz.underlying3) (by
    have := opf_nil (enc := enc) (P := Tryz.prog) (w := w) (base := base) (spare := spare) (held := held) (N := Tryz.prog.cellsOf 24)
    rw [show Tryz.prog.cellsOf 24 = 0 + 1 + 1 from by kernel_rfl] at this ⊢
    exact this)))).map (fun d => (d.1.1, d.2.1.1)) fun d => rfl
theorem op_ns : Open.Op enc Tryz.prog w base spare held 62 NumsD (fun l => [NV l.1]) :=
  (op_slice Tryz.underlying62 op_n).map (fun l => ⟨l.1, Nat.le_trans (Nat.le_of_eq (congrArg (l.1.length * ·) (show 16 = Tryz.prog.bytesOf 24 from by kernel_rfl))) l.2⟩) fun l => rfl
theorem op_ws : Open.Op enc Tryz.prog w base spare held 36 WordsD (fun l => [TV l.1]) :=
  (op_slice Tryz.underlying36 op_s).map (fun l => ⟨l.1.map (·.1), fun z hz => by
    obtain ⟨x, _, rfl⟩ := List.mem_map.1 hz
    exact x.2, by rw [List.length_map]; exact Nat.le_trans (Nat.le_of_eq (congrArg (l.1.length * ·) (show 16 = Tryz.prog.bytesOf 9 from by kernel_rfl))) l.2⟩) fun l => by
    show [AV.sl (l.1.map (·.1)).length ((l.1.map (·.1)).map SV)] = [AV.sl l.1.length (l.1.flatMap fun z => [SV z.1])]
    rw [List.length_map, List.map_map, flat1]
    rfl
abbrev MdlD := { m : Mdl // (By m.name ∧ m.name.length ≤ reachBytes) ∧ (0 ≤ m.kind ∧ m.kind ≤ 255) ∧ m.g.length * 16 ≤ reachBytes ∧ m.v.length * 16 ≤ reachBytes }
def mdlL (m : Mdl) : List AV := [SV m.name, .v (.int .u8 m.kind), NV m.g, NV m.v]
theorem op_m : Open.Op enc Tryz.prog w base spare held 82 MdlD (fun m => mdlL m.1) :=
  (op_struct Tryz.underlying82 (opf_cons rfl (n := 1) (by kernel_rfl) op_s (opf_cons rfl (n := 1) (by kernel_rfl) op_b (opf_cons rfl (n := 1) (by kernel_rfl) op_ns (opf_cons rfl (n := 1) (by kernel_rfl) op_ns (by
    have := opf_nil (enc := enc) (P := Tryz.prog) (w := w) (base := base) (spare := spare) (held := held) (N := Tryz.prog.cellsOf 82)
    rw [show Tryz.prog.cellsOf 82 = 0 + 1 + 1 + 1 + 1 from by kernel_rfl] at this ⊢
    exact this)))))).map (fun d => ⟨⟨d.1.1, d.2.1.1, d.2.2.1.1, d.2.2.2.1.1⟩, d.1.2, d.2.1.2, d.2.2.1.2, d.2.2.2.1.2⟩) fun d => rfl
theorem arg_cells {k : KW} {zs : List AV} {cs : Array Value} (h : RelL k zs (Value.agg cs).cells.toList) : Rel k (.ag zs) (.agg cs) := by
  have e : (Value.agg cs).cells = cs := rfl
  rw [e] at h
  have := Rel.ag zs cs.toList h.1 fun j z u hz hu => h.2 j z u hz hu
  simpa using this
theorem sized_arg {P : Program} {ts : List TypeId} {ds : List (DataW H)} (h : (DataW.weightsEach P ts ds).all (· ≤ reachBytes) = true) {j : Nat} {t : TypeId} {d : DataW H} (ht : ts[j]? = some t) (hd : ds[j]? = some d) : ∀ n ∈ d.weights P t, n ≤ reachBytes := fun n hn => by
  have := List.all_eq_true.1 h _ (DataW.weights_mem_each ht hd n hn)
  simpa using this
theorem slice_shape {P : Program} {W : World} {r : Reach} {b0 : Nat} {t e : TypeId} {v : Value} (ht : P.underlying t = some (.slice e)) (h : Value.okWide P W r b0 t v) : ∃ a l c, v = .slice a l c := by
  simp only [Value.okWide, ht, Cell.okWide] at h
  cases v <;> simp_all [Cell.ok]
theorem struct_shape {P : Program} {W : World} {r : Reach} {b0 : Nat} {t : TypeId} {fs : Array Field} {v : Value} (ht : P.underlying t = some (.struct fs)) (h : Value.okWide P W r b0 t v) : ∃ cs, v = .agg cs := by
  simp only [Value.okWide, ht] at h
  obtain ⟨cs, h1, _⟩ := h
  exact ⟨cs, h1⟩
end Go.Proofs.YtfjelkjlfcafgaaGreatDoor.CardX
end
section
/- The law CardModelBack, walked: what is written is read as the same model, and what is read is written. -/
namespace Go.Proofs.YtfjelkjlfcafgaaGreatDoor.CardW
open Go Go.RowKit Go.Proofs.YtfjelkjlfcafgaaGreatDoor.Ax Go.Proofs.YtfjelkjlfcafgaaGreatDoor.Ti Go.Proofs.YtfjelkjlfcafgaaGreatDoor.NumS Go.Proofs.YtfjelkjlfcafgaaGreatDoor.NumT Go.Proofs.YtfjelkjlfcafgaaGreatDoor.CardS Go.Proofs.YtfjelkjlfcafgaaGreatDoor.CardP Go.Proofs.YtfjelkjlfcafgaaGreatDoor.CardQ Go.Proofs.YtfjelkjlfcafgaaGreatDoor.CardA Go.Proofs.YtfjelkjlfcafgaaGreatDoor.CardB Go.Proofs.YtfjelkjlfcafgaaGreatDoor.CardC Go.Proofs.YtfjelkjlfcafgaaGreatDoor.CardD Go.Proofs.YtfjelkjlfcafgaaGreatDoor.CardE Go.Proofs.YtfjelkjlfcafgaaGreatDoor.CardF Go.Proofs.YtfjelkjlfcafgaaGreatDoor.CardG Go.Proofs.YtfjelkjlfcafgaaGreatDoor.CardH Go.Proofs.YtfjelkjlfcafgaaGreatDoor.CardI Go.Proofs.YtfjelkjlfcafgaaGreatDoor.CardK Go.Proofs.YtfjelkjlfcafgaaGreatDoor.CardL Go.Proofs.YtfjelkjlfcafgaaGreatDoor.CardM Go.Proofs.YtfjelkjlfcafgaaGreatDoor.CardN Go.Proofs.YtfjelkjlfcafgaaGreatDoor.CardR Go.Proofs.YtfjelkjlfcafgaaGreatDoor.CardT Go.Proofs.YtfjelkjlfcafgaaGreatDoor.CardU
open Go.Proofs.YtfjelkjlfcafgaaGreatDoor.NumA (NM)
set_option linter.unusedSimpArgs false
set_option linter.unusedVariables false
set_option maxRecDepth 4000
set_option maxHeartbeats 2000000
theorem rTI : type_of% (cj @ti3 (cj @ti4 (cj @ti9 (cj @ti5 (cj @ti2 (cj @ti36 (cj @ti63 (cj @ti62 (cj @ti24 (cj @ti82 (cj @ti25 (cj @Nat.zero_add (cj @tz0 (cj @tz1 (cj @tz3 (cj @Nat.mul_one @Int.toNat_natCast)))))))))))))))) := cj @ti3 (cj @ti4 (cj @ti9 (cj @ti5 (cj @ti2 (cj @ti36 (cj @ti63 (cj @ti62 (cj @ti24 (cj @ti82 (cj @ti25 (cj @Nat.zero_add (cj @tz0 (cj @tz1 (cj @tz3 (cj @Nat.mul_one @Int.toNat_natCast)))))))))))))))
structure CM (m : Mdl) : Prop where
  n : By m.name ∧ m.name.length ≤ 281474976710656
  g : m.g.length ≤ 9223372036854775806
  v : m.v.length ≤ 9223372036854775806
theorem sameM_refl (m : Mdl) : sameM m m = true := by unfold sameM; simp
theorem modelT_by (m : Mdl) (h : By m.name ∧ m.name.length ≤ 281474976710656) (hk : m.kind = 115 ∨ m.kind = 100) : ∀ w ∈ modelT m, By w ∧ w.length ≤ 281474976710656 := by
  have hz : ∀ (V G : List Num) w, w ∈ zipM V G → By w ∧ w.length ≤ 281474976710656 := by
    intro V
    induction V with
    | nil => intro G w hw; simp [zipM] at hw
    | cons v V ih =>
      intro G w hw
      cases G with
      | nil => simp [zipM] at hw
      | cons g G =>
        have hw' : w ∈ textN v :: textN g :: zipM V G := hw
        rcases List.mem_cons.1 hw' with rfl | hw'
        · exact ⟨(textN_by _).1, Nat.le_trans (textN_by _).2 (by decide)⟩
        · rcases List.mem_cons.1 hw' with rfl | hw'
          · exact ⟨(textN_by _).1, Nat.le_trans (textN_by _).2 (by decide)⟩
          · exact ih G w hw'
  intro w hw
  have hw' : w ∈ sModel :: m.name :: [m.kind.toNat] :: textN (m.g.headD (0, 0)) :: zipM m.v (m.g.drop 1) := hw
  rcases List.mem_cons.1 hw' with rfl | hw'
  · exact ⟨by_lit _ rfl, by decide⟩
  · rcases List.mem_cons.1 hw' with rfl | hw'
    · exact h
    · rcases List.mem_cons.1 hw' with rfl | hw'
      · rcases hk with hk | hk <;> rw [hk] <;> exact ⟨by_lit _ rfl, by decide⟩
      · rcases List.mem_cons.1 hw' with rfl | hw'
        · exact ⟨(textN_by _).1, Nat.le_trans (textN_by _).2 (by decide)⟩
        · exact hz _ _ w hw'
theorem modelT_len (m : Mdl) (h : m.v.length + 1 = m.g.length ∧ m.g.length ≤ 4) : (modelT m).length ≤ 100 := by
  show (zipM m.v (m.g.drop 1)).length + 1 + 1 + 1 + 1 ≤ 100
  have := zipM_le m.v (m.g.drop 1)
  omega
theorem readM_by (ws : List Str) (h : BL ws) (hl : ∀ w ∈ ws, w.length ≤ 281474976710656) (hn : ws.length ≤ 9223372036854775806) : CM (readM ws).1 := by
  have h0 : CM mdl0 := ⟨⟨fun c hc => (by cases hc), by decide⟩, by decide, by decide⟩
  unfold readM
  simp only
  split
  · rename_i hc
    split
    · split
      · exact h0
      · split
        · have e1 := evens_len (ws.drop 3)
          have e2 := odds_len (ws.drop 3)
          rw [List.length_drop] at e1 e2
          refine ⟨⟨bl_at ws h 1, ?_⟩, ?_, ?_⟩
          · show (ws.getD 1 []).length ≤ _
            rw [List.getD_eq_getElem?_getD, List.getElem?_eq_getElem (show 1 < ws.length by omega)]
            exact hl _ (List.getElem_mem _)
          · show ((evens (ws.drop 3)).map numV).length ≤ _
            rw [List.length_map]
            omega
          · show ((odds (ws.drop 3)).map numV).length ≤ _
            rw [List.length_map]
            omega
        · exact h0
    · exact h0
  · exact h0
def mzA : AV := .ag [.v (.string ByteArray.empty), .v (.int .u8 0), .v (.slice none 0 0), .v (.slice none 0 0)]
theorem mz_le : Le mzA (MA mdl0) := by
  refine Le.ag rfl fun j x y hx hy => ?_
  match j with
  | 0 => simp at hx hy; subst hx hy; exact Le.refl _
  | 1 => simp at hx hy; subst hx hy; exact Le.refl _
  | 2 => simp at hx hy; subst hx hy; exact Le.nil 0 0 rfl
  | 3 => simp at hx hy; subst hx hy; exact Le.nil 0 0 rfl
  | j + 4 => simp at hx
theorem args_le (j : Nat) (x y : AV) (hx : [MA mdl0, mzA][j]? = some x) (hy : [MA mdl0, MA mdl0][j]? = some y) : Le x y := by
  match j with
  | 0 => simp at hx hy; subst hx hy; exact Le.refl _
  | 1 => simp at hx hy; subst hx hy; exact mz_le
  | j + 2 => simp at hx
theorem modelBack_ax (m : Mdl) (words : List Str) (hm : CM m) (hw : BL words) (hwl : ∀ w ∈ words, w.length ≤ 281474976710656) (hl : words.length ≤ 9223372036854775806) :
    PCall Tryz.prog 12 [MA m, TV words] (.v (.bool true)) := by
  refine pcall_of fun s => ?_
  have p1 := writeM_ax m hm.n (by have := hm.g; omega) (by have := hm.v; omega)
  have p2 := rmvalid_ax m hm.n (by have := hm.g; omega) hm.v
  have p4 := readM_ax words hw hwl (by omega)
  have hnb := readM_by words hw hwl hl
  have p5 := writeM_ax (readM words).1 hnb.n (by have := hnb.g; omega) (by have := hnb.v; omega)
  have p8 := sameM_ax (readM words).1 mdl0 hnb.n.1 (fun c hc => by cases hc) (by have := hnb.g; omega) (by decide) (by have := hnb.v; omega) (by decide)
  have p9 := sameM_ax (readM words).1 (readM words).1 hnb.n.1 hnb.n.1 (by have := hnb.g; omega) (by have := hnb.g; omega) (by have := hnb.v; omega) (by have := hnb.v; omega)
  rw [sameM_refl] at p9
  have hno := readM_no words
  have hri := readM_right words (readM words).1
  have p6 : ∀ q : (readM words).2 = 0, PCall Tryz.prog 42 [TV (modelT (readM words).1)] (RB ((readM words).1, 0)) := fun q => by
    have hok := hri (by rw [← q])
    obtain ⟨k1, k2, k3⟩ := ok_form _ hok
    have := readM_ax (modelT (readM words).1) (fun w hw => (modelT_by _ hnb.n k1 w hw).1) (fun w hw => (modelT_by _ hnb.n k1 w hw).2) (by have := modelT_len _ ⟨k2, k3⟩; omega)
    rwa [model_back _ hok] at this
  have p5' : ∀ q : (readM words).2 = 0, writeM (readM words).1 = (modelT (readM words).1, 0) := fun q => if_pos (hri (by rw [← q]))
  have p7 : ∀ q : modelOk m = true, PCall Tryz.prog 42 [TV (modelT m)] (RB (m, 0)) := fun hok => by
    obtain ⟨k1, k2, k3⟩ := ok_form _ hok
    have := readM_ax (modelT m) (fun w hw => (modelT_by _ hm.n k1 w hw).1) (fun w hw => (modelT_by _ hm.n k1 w hw).2) (by have := modelT_len _ ⟨k2, k3⟩; omega)
    rwa [model_back _ hok] at this
  have p10 := sameM_ax m m hm.n.1 hm.n.1 (by have := hm.g; omega) (by have := hm.g; omega) (by have := hm.v; omega) (by have := hm.v; omega)
  rw [sameM_refl] at p10
  have hwr : writeM m = if modelOk m = true then (modelT m, 0) else ([], 50) := rfl
  clear hw hwl hri
  have key : ∀ (e : Env) (s' : St) (code : Code) (Q : Exit → Env → St → Prop), True := fun _ _ _ _ => trivial
  clear key
  generalize readM words = R at *
  obtain ⟨n, en⟩ := R
  simp only at p5 p8 p9 p6 p5' hno hnb
  unfold PA MA SV TV NV iv at p1
  unfold MA SV NV at p2
  unfold RB MA SV TV NV iv at p4
  unfold MA SV NV at p9 p10
  unfold TV
  unfold MA NV
  unfold SV
  cases hok : modelOk m with
  | false =>
    rw [hok] at hwr p2
    rw [if_neg Bool.false_ne_true] at hwr
    rw [hwr] at p1
    clear p7 hwr
    refine acall_of Tryz.func12 rfl rfl (by simp [Tryz.ntmps12]) ?_; rw [Tryz.ntmps12, Tryz.results12]
    refine go rTI ?_
    refine aw_reg fun K hK => ?_; refine rn rTI ?_; refine cont_pure awake_ax ?_; refine rn rTI ?_; refine hK _ _ ?_; clear hK K
    refine ifs ?_ ?_ <;> first | exact nope | intro hb
    refine go rTI ?_
    refine aw_reg fun K hK => ?_; refine rn rTI ?_; refine cont_pure p1 ?_; refine rn rTI ?_; refine hK _ _ ?_; clear hK K
    refine go rTI ?_
    refine aw_reg fun K hK => ?_; refine rn rTI ?_; refine cont_pure p2 ?_; refine rn rTI ?_; refine hK _ _ ?_; clear hK K
    refine ifs ?_ ?_ <;> first | exact nope | intro hb
    refine go rTI ?_
    refine ifs ?_ ?_ <;> first | exact nope | intro hb
    refine aw_skip ?_
    rw [then_normal]
    refine CardT.aw_gen (fun x => s.nx ≤ x.nx ∧ ∀ i, i < s.nx → x.get i = s.get i) ⟨Nat.le_succ _, fun i hi => St.push_ne s _ _ (by omega)⟩ fun s1 fr => ?_
    obtain ⟨hnx, fr⟩ := fr
    refine go rTI ?_
    refine aw_reg fun K hK => ?_; refine rn rTI ?_; refine cont_pure p4 ?_; refine rn rTI ?_; refine hK _ _ ?_; clear hK K
    refine go rTI ?_
    by_cases he : en = 0
    · have q5 := p5' he
      rw [q5] at p5
      have q6 := p6 he
      unfold PA MA SV TV NV iv at p5
      unfold RB MA SV TV NV iv at q6
      refine go (cj rTI @he) ?_
      refine ifs ?_ ?_ <;> first | exact nope | intro hb
      refine go rTI ?_
      refine aw_reg fun K hK => ?_; refine rn rTI ?_; refine cont_pure p5 ?_; refine rn rTI ?_; refine hK _ _ ?_; clear hK K
      refine go rTI ?_
      refine aw_reg fun K hK => ?_; refine rn rTI ?_; refine cont_pure q6 ?_; refine rn rTI ?_; refine hK _ _ ?_; clear hK K
      refine go rTI ?_
      refine aw_reg fun K hK => ?_; refine rn rTI ?_; refine cont_pure p9 ?_; refine rn rTI ?_; refine hK _ _ ?_; clear hK K
      refine go rTI ?_
      exact fun i hi => by rw [if_neg (by omega), if_neg (by omega)]; exact fr i hi
    · obtain rfl := hno he
      rw [sameM_refl] at p8
      refine go (cj rTI @he) ?_
      refine ifs ?_ ?_ <;> first | exact nope | intro hb
      refine aw_seq ?_
      refine aw_reg fun K hK => ?_; refine rn rTI ?_; refine NumI.acall_args (zs' := [MA mdl0, MA mdl0]) rfl args_le ?_; refine cont_pure p8 ?_; refine rn rTI ?_; refine hK _ _ ?_; clear hK K
      refine go rTI ?_
      exact fun i hi => by rw [if_neg (by omega)]; exact fr i hi
  | true =>
    have q7 := p7 hok
    rw [hok] at hwr p2
    rw [if_pos rfl] at hwr
    rw [hwr] at p1
    clear p7 hwr
    unfold RB MA SV TV NV iv at q7
    refine acall_of Tryz.func12 rfl rfl (by simp [Tryz.ntmps12]) ?_; rw [Tryz.ntmps12, Tryz.results12]
    refine go rTI ?_
    refine aw_reg fun K hK => ?_; refine rn rTI ?_; refine cont_pure awake_ax ?_; refine rn rTI ?_; refine hK _ _ ?_; clear hK K
    refine ifs ?_ ?_ <;> first | exact nope | intro hb
    refine go rTI ?_
    refine aw_reg fun K hK => ?_; refine rn rTI ?_; refine cont_pure p1 ?_; refine rn rTI ?_; refine hK _ _ ?_; clear hK K
    refine go rTI ?_
    refine aw_reg fun K hK => ?_; refine rn rTI ?_; refine cont_pure p2 ?_; refine rn rTI ?_; refine hK _ _ ?_; clear hK K
    refine ifs ?_ ?_ <;> first | exact nope | intro hb
    refine go rTI ?_
    refine ifs ?_ ?_ <;> first | exact nope | intro hb
    refine go rTI ?_
    refine aw_reg fun K hK => ?_; refine rn rTI ?_; refine cont_pure q7 ?_; refine rn rTI ?_; refine hK _ _ ?_; clear hK K
    refine go rTI ?_
    refine aw_reg fun K hK => ?_; refine rn rTI ?_; refine cont_pure p10 ?_; refine rn rTI ?_; refine hK _ _ ?_; clear hK K
    refine ifs ?_ ?_ <;> first | exact nope | intro hb
    refine aw_skip ?_
    rw [then_normal]
    refine CardT.aw_gen (fun x => s.nx ≤ x.nx ∧ ∀ i, i < s.nx → x.get i = s.get i) ⟨by show _ ≤ s.nx + 1 + 1; omega, fun i hi => by rw [St.set_ne _ _ _ _ (by show i ≠ s.nx + 1; omega), St.push_ne (s.push _) _ _ (show i ≠ s.nx + 1 by omega), St.push_ne s _ _ (by omega)]⟩ fun s1 fr => ?_
    obtain ⟨hnx, fr⟩ := fr
    refine go rTI ?_
    refine aw_reg fun K hK => ?_; refine rn rTI ?_; refine cont_pure p4 ?_; refine rn rTI ?_; refine hK _ _ ?_; clear hK K
    refine go rTI ?_
    by_cases he : en = 0
    · have q5 := p5' he
      rw [q5] at p5
      have q6 := p6 he
      unfold PA MA SV TV NV iv at p5
      unfold RB MA SV TV NV iv at q6
      refine go (cj rTI @he) ?_
      refine ifs ?_ ?_ <;> first | exact nope | intro hb
      refine go rTI ?_
      refine aw_reg fun K hK => ?_; refine rn rTI ?_; refine cont_pure p5 ?_; refine rn rTI ?_; refine hK _ _ ?_; clear hK K
      refine go rTI ?_
      refine aw_reg fun K hK => ?_; refine rn rTI ?_; refine cont_pure q6 ?_; refine rn rTI ?_; refine hK _ _ ?_; clear hK K
      refine go rTI ?_
      refine aw_reg fun K hK => ?_; refine rn rTI ?_; refine cont_pure p9 ?_; refine rn rTI ?_; refine hK _ _ ?_; clear hK K
      refine go rTI ?_
      exact fun i hi => by rw [if_neg (by omega), if_neg (by omega)]; exact fr i hi
    · obtain rfl := hno he
      rw [sameM_refl] at p8
      refine go (cj rTI @he) ?_
      refine ifs ?_ ?_ <;> first | exact nope | intro hb
      refine aw_seq ?_
      refine aw_reg fun K hK => ?_; refine rn rTI ?_; refine NumI.acall_args (zs' := [MA mdl0, MA mdl0]) rfl args_le ?_; refine cont_pure p8 ?_; refine rn rTI ?_; refine hK _ _ ?_; clear hK K
      refine go rTI ?_
      exact fun i hi => by rw [if_neg (by omega)]; exact fr i hi
theorem reach_eq : reachBytes = 140737488351232 := rfl
theorem modelBack_in (m : CardX.MdlD) (ws : CardX.WordsD) : PCall Tryz.prog 12 [.ag (CardX.mdlL m.1), TV ws.1] (.v (.bool true)) := by
  obtain ⟨m, h1, h2, h3, h4⟩ := m
  obtain ⟨ws, g1, g2⟩ := ws
  rw [reach_eq] at h1 h3 h4 g2
  exact modelBack_ax m ws ⟨⟨h1.1, by omega⟩, by omega, by omega⟩ (fun w hw => (g1 w hw).1) (fun w hw => Nat.le_trans (g1 w hw).2 (by rw [reach_eq]; decide)) (by omega)
end Go.Proofs.YtfjelkjlfcafgaaGreatDoor.CardW
end
