/- A part of the proof. -/
import Derived.Test.YtfjelkjlfcafgaaGreatDoorPCardModelsE
import Derived.WalkKit
import Derived.ProofKit
import Derived.WideShapes
import Derived.KernelRfl
import Derived.Stop.FmtTextKit
import Derived.Lib.LaidTab
import Derived.DataReads
import Derived.SizedLaws
section
/- Models: ReadModel. -/
namespace Go.Proofs.YtfjelkjlfcafgaaGreatDoor.CardN
open Go Go.RowKit Ax Ti NumS NumT CardS CardP CardA CardB CardC CardD CardE CardF CardG CardH CardI CardJ CardK CardL
open NumA (NM)
set_option linter.unusedSimpArgs false
set_option linter.unusedVariables false
set_option maxRecDepth 4000
set_option maxHeartbeats 2000000
theorem rTI : type_of% (cj @ti3 (cj @ti4 (cj @ti9 (cj @ti5 (cj @ti2 (cj @ti36 (cj @ti63 (cj @ti62 (cj @ti24 (cj @ti82 (cj @ti25 (cj @ti144 (cj @ti146 (cj @Nat.zero_add (cj @tz0 (cj @tz1 (cj @tz3 (cj @Nat.mul_one @Int.toNat_natCast)))))))))))))))))) := cj @ti3 (cj @ti4 (cj @ti9 (cj @ti5 (cj @ti2 (cj @ti36 (cj @ti63 (cj @ti62 (cj @ti24 (cj @ti82 (cj @ti25 (cj @ti144 (cj @ti146 (cj @Nat.zero_add (cj @tz0 (cj @tz1 (cj @tz3 (cj @Nat.mul_one @Int.toNat_natCast)))))))))))))))))
def RB (p : Mdl × Int) : AV := .tp [MA p.1, iv p.2]
theorem ma_idf (m : Mdl) : idf (MA m) = true := by
  show (true && (true && (idf.idfL (NC m.g) && (idf.idfL (NC m.v) && true)))) = true
  rw [nc_idf, nc_idf]
  rfl
theorem rb_idf (p : Mdl × Int) : idf (RB p) = true := by
  show (idf (MA p.1) && (true && true)) = true
  rw [ma_idf]
  rfl
def mz : List AV := [.v (.string ByteArray.empty), .v (.int .u8 0), nilS, nilS]
theorem rb_err (e : Int) : Le (.tp [.ag mz, .v (.int .i64 e)]) (RB (mdl0, e)) := by
  refine Le.tp rfl fun j x y hx hy => ?_
  match j with
  | 0 =>
    simp at hx hy; subst hx hy
    refine Le.ag rfl fun j x y hx hy => ?_
    match j with
    | 0 => simp [mz] at hx hy; subst hx hy; exact Le.refl _
    | 1 => simp [mz] at hx hy; subst hx hy; exact Le.refl _
    | 2 => simp [mz, nilS] at hx hy; subst hx hy; exact Le.nil 0 0 rfl
    | 3 => simp [mz, nilS] at hx hy; subst hx hy; exact Le.nil 0 0 rfl
    | j + 4 => simp [mz] at hx
  | 1 => simp at hx hy; subst hx hy; exact Le.refl _
  | j + 2 => simp at hx
theorem odds_cons : ∀ (x : Str) (q : List Str), q.length % 2 = 0 → evens (x :: q) = x :: odds q ∧ odds (x :: q) = evens q
  | x, [], _ => ⟨rfl, rfl⟩
  | x, [_], h => by simp at h
  | x, v :: g :: t, h => by
    obtain ⟨h1, h2⟩ := odds_cons g t (by simp only [List.length_cons] at h; omega)
    constructor
    · show x :: evens (g :: t) = x :: g :: odds t
      rw [h1]
    · show v :: odds (g :: t) = v :: evens t
      rw [h2]
structure MI (s s' : St) (id bm iG iV : Nat) (nm : Str) (kd : Int) (G V : List Num) (ws : List Str) (e : Int) : Prop where
  r : s'.get id = some (rdr ws e)
  b : s'.get bm = some [SV nm, .v (.int .u8 kd), .own iG 0 G.length 2, .own iV 0 V.length 2]
  g : s'.get iG = some (NC G)
  v : s'.get iV = some (NC V)
  z : s'.get s.nx = some mz
  o : s.nx < bm ∧ s.nx < id ∧ s.nx < iG ∧ s.nx < iV ∧ bm < s'.nx ∧ id < s'.nx ∧ iG < s'.nx ∧ iV < s'.nx ∧ bm ≠ id ∧ bm ≠ iG ∧ bm ≠ iV ∧ id ≠ iG ∧ id ≠ iV ∧ iG ≠ iV
  fr : ∀ k, k < s.nx → s'.get k = s.get k
theorem nc_app (V : List Num) (n : Num) : NC (V ++ [n]) = NC V ++ [iv n.1, iv n.2] := by simp [NC]
theorem MI.gg {s s' : St} {id bm iG iV : Nat} {nm : Str} {kd : Int} {G V : List Num} {ws : List Str} {e : Int} (h : MI s s' id bm iG iV nm kd G V ws e) (n : Num) (ws2 : List Str) (e2 : Int) :
    MI s (((((s'.set id (rdr ws2 e2)).push [iv n.1, iv n.2]).kill iG).push (NC G ++ [iv n.1, iv n.2])).set bm [SV nm, .v (.int .u8 kd), .own (s'.nx + 1) 0 (G.length + 1) 2, .own iV 0 V.length 2]) id bm (s'.nx + 1) iV nm kd (G ++ [n]) V ws2 e2 := by
  obtain ⟨o1, o2, o3, o4, o5, o6, o7, o8, o9, o10, o11, o12, o13, o14⟩ := h.o
  have hn : (((((s'.set id (rdr ws2 e2)).push [iv n.1, iv n.2]).kill iG).push (NC G ++ [iv n.1, iv n.2])).set bm [SV nm, .v (.int .u8 kd), .own (s'.nx + 1) 0 (G.length + 1) 2, .own iV 0 V.length 2]).nx = s'.nx + 2 := rfl
  have hg : ∀ k c, k ≠ bm → k ≠ s'.nx + 1 → k ≠ iG → k ≠ s'.nx → k ≠ id → s'.get k = c → (((((s'.set id (rdr ws2 e2)).push [iv n.1, iv n.2]).kill iG).push (NC G ++ [iv n.1, iv n.2])).set bm [SV nm, .v (.int .u8 kd), .own (s'.nx + 1) 0 (G.length + 1) 2, .own iV 0 V.length 2]).get k = c := fun k c h1 h2 h3 h4 h5 h6 => by
    rw [St.set_ne _ _ _ _ h1, St.push_ne _ _ _ h2, St.kill_ne _ _ _ h3, St.push_ne (s'.set id _) _ _ h4, St.set_ne _ _ _ _ h5]
    exact h6
  refine ⟨?_, ?_, ?_, hg _ _ (by omega) (by omega) (by omega) (by omega) (by omega) h.v, hg _ _ (by omega) (by omega) (by omega) (by omega) (by omega) h.z, ⟨o1, o2, by omega, o4, by omega, by omega, by omega, by omega, o9, by omega, o11, by omega, o13, by omega⟩, fun k h1 => hg _ _ (by omega) (by omega) (by omega) (by omega) (by omega) (h.fr k h1)⟩
  · rw [St.set_ne _ _ _ _ (by omega), St.push_ne _ _ _ (show id ≠ s'.nx + 1 by omega), St.kill_ne _ _ _ (by omega), St.push_ne (s'.set id _) _ _ (show id ≠ s'.nx by omega)]
    exact St.set_same _ _ _
  · rw [St.set_same, List.length_append]
    rfl
  · rw [St.set_ne _ _ _ _ (by omega), nc_app]
    exact St.push_same _ _
theorem MI.vv {s s' : St} {id bm iG iV : Nat} {nm : Str} {kd : Int} {G V : List Num} {ws : List Str} {e : Int} (h : MI s s' id bm iG iV nm kd G V ws e) (n : Num) (ws2 : List Str) (e2 : Int) :
    MI s (((((s'.set id (rdr ws2 e2)).push [iv n.1, iv n.2]).kill iV).push (NC V ++ [iv n.1, iv n.2])).set bm [SV nm, .v (.int .u8 kd), .own iG 0 G.length 2, .own (s'.nx + 1) 0 (V.length + 1) 2]) id bm iG (s'.nx + 1) nm kd G (V ++ [n]) ws2 e2 := by
  obtain ⟨o1, o2, o3, o4, o5, o6, o7, o8, o9, o10, o11, o12, o13, o14⟩ := h.o
  have hn : (((((s'.set id (rdr ws2 e2)).push [iv n.1, iv n.2]).kill iV).push (NC V ++ [iv n.1, iv n.2])).set bm [SV nm, .v (.int .u8 kd), .own iG 0 G.length 2, .own (s'.nx + 1) 0 (V.length + 1) 2]).nx = s'.nx + 2 := rfl
  have hg : ∀ k c, k ≠ bm → k ≠ s'.nx + 1 → k ≠ iV → k ≠ s'.nx → k ≠ id → s'.get k = c → (((((s'.set id (rdr ws2 e2)).push [iv n.1, iv n.2]).kill iV).push (NC V ++ [iv n.1, iv n.2])).set bm [SV nm, .v (.int .u8 kd), .own iG 0 G.length 2, .own (s'.nx + 1) 0 (V.length + 1) 2]).get k = c := fun k c h1 h2 h3 h4 h5 h6 => by
    rw [St.set_ne _ _ _ _ h1, St.push_ne _ _ _ h2, St.kill_ne _ _ _ h3, St.push_ne (s'.set id _) _ _ h4, St.set_ne _ _ _ _ h5]
    exact h6
  refine ⟨?_, ?_, hg _ _ (by omega) (by omega) (by omega) (by omega) (by omega) h.g, ?_, hg _ _ (by omega) (by omega) (by omega) (by omega) (by omega) h.z, ⟨o1, o2, o3, by omega, by omega, by omega, by omega, by omega, o9, o10, by omega, o12, by omega, by omega⟩, fun k h1 => hg _ _ (by omega) (by omega) (by omega) (by omega) (by omega) (h.fr k h1)⟩
  · rw [St.set_ne _ _ _ _ (by omega), St.push_ne _ _ _ (show id ≠ s'.nx + 1 by omega), St.kill_ne _ _ _ (by omega), St.push_ne (s'.set id _) _ _ (show id ≠ s'.nx by omega)]
    exact St.set_same _ _ _
  · rw [St.set_same, List.length_append]
    rfl
  · rw [St.set_ne _ _ _ _ (by omega), nc_app]
    exact St.push_same _ _
theorem MI.init (s : St) (nm : Str) (kd : Int) (D : List Str) (s1 s2 s3 : St) (h1 : s1 = (((s.push mz).push mz).set (s.nx + 1) [SV nm, .v (.int .u8 kd), nilS, nilS]).push (rdr D 0))
    (h2 : s2 = (s1.push []).set (s.nx + 1) ([SV nm, .v (.int .u8 kd), nilS, nilS].set 2 (.own s1.nx 0 0 2))) (h3 : s3 = (s2.push []).set (s.nx + 1) (([SV nm, .v (.int .u8 kd), nilS, nilS].set 2 (.own s1.nx 0 0 2)).set 3 (.own s2.nx 0 0 2))) :
    MI s s3 (s.nx + 2) (s.nx + 1) (s.nx + 3) (s.nx + 4) nm kd [] [] D 0 := by
  have n1 : s1.nx = s.nx + 3 := by rw [h1]; rfl
  have n2 : s2.nx = s.nx + 4 := by rw [h2]; show s1.nx + 1 = _; omega
  have n3 : s3.nx = s.nx + 5 := by rw [h3]; show s2.nx + 1 = _; omega
  have hg : ∀ k c, k ≠ s.nx + 1 → k ≠ s.nx + 3 → k ≠ s.nx + 4 → s1.get k = c → s3.get k = c := fun k c q1 q2 q3 q4 => by
    rw [h3, St.set_ne _ _ _ _ q1, St.push_ne s2 _ _ (by omega), h2, St.set_ne _ _ _ _ q1, St.push_ne s1 _ _ (by omega)]
    exact q4
  have hg1 : ∀ k c, k ≠ s.nx + 1 → k ≠ s.nx + 2 → (s.push mz).get k = c → s1.get k = c := fun k c q1 q2 q3 => by
    rw [h1, St.push_ne (((s.push mz).push mz).set _ _) _ _ (show k ≠ s.nx + 2 from q2), St.set_ne _ _ _ _ q1, St.push_ne (s.push mz) _ _ (show k ≠ s.nx + 1 from q1)]
    exact q3
  refine ⟨hg _ _ (by omega) (by omega) (by omega) ?_, ?_, ?_, ?_, hg _ _ (by omega) (by omega) (by omega) (hg1 _ _ (by omega) (by omega) (St.push_same s mz)), ⟨by omega, by omega, by omega, by omega, by omega, by omega, by omega, by omega, by omega, by omega, by omega, by omega, by omega, by omega⟩, fun k hk => hg _ _ (by omega) (by omega) (by omega) (hg1 _ _ (by omega) (by omega) (St.push_ne s _ _ (by omega)))⟩
  · rw [h1]
    exact St.push_same (((s.push mz).push mz).set _ _) _
  · rw [h3, St.set_same, n1, n2]
    rfl
  · rw [h3, St.set_ne _ _ _ _ (by omega), St.push_ne s2 _ _ (by omega), h2, St.set_ne _ _ _ _ (by omega)]
    have := St.push_same s1 []
    rw [n1] at this
    exact this
  · rw [h3, St.set_ne _ _ _ _ (by omega)]
    have := St.push_same s2 []
    rw [n2] at this
    exact this
theorem MI.lay {P : Program} {code : Code} {m0 : Nat} {e : Env} {Q : Exit → Env → St → Prop} {s s' : St} {id bm iG iV : Nat} {nm : Str} {kd : Int} {G V : List Num} {ws : List Str} {er : Int} (h : MI s s' id bm iG iV nm kd G V ws er)
    (k : ∀ e' s'', e'.n = e.n → (∀ t, e'.m t = frz iV (NC V) (frz iG (NC G) (e.m t))) → s''.get bm = some [SV nm, .v (.int .u8 kd), .sl G.length (NC G), .sl V.length (NC V)] → s''.get s.nx = some mz → (∀ k, k < s.nx → s''.get k = s.get k) → AW P code m0 e' s'' Q) : AW P code m0 e s' Q := by
  obtain ⟨o1, o2, o3, o4, o5, o6, o7, o8, o9, o10, o11, o12, o13, o14⟩ := h.o
  have e1 : (NC G).take (G.length * 2) = NC G := by rw [← nc_len, List.take_length]
  have e2 : (NC V).take (V.length * 2) = NC V := by rw [← nc_len, List.take_length]
  have e3 : frz.frzL iV (NC V) (NC G) = NC G := by
    apply List.ext_getElem?
    intro q
    rw [frzL_get]
    cases h : (NC G)[q]? with
    | none => rfl
    | some z =>
      rw [Option.map_some, frz_idf]
      exact (idfL_iff _).1 (nc_idf G) z (List.mem_of_getElem? h)
  refine aw_freeze2 iG (NC G) h.g (fun i => i == bm) fun e7 s7 f1 f2 f3 f4 => ?_
  have g7 : ∀ k c, k ≠ iG → k ≠ bm → s'.get k = c → s7.get k = c := fun k c q1 q2 q3 => by
    rw [f4, if_neg q1, if_neg (by simpa using q2)]
    exact q3
  have b7 : s7.get bm = some [SV nm, .v (.int .u8 kd), .sl G.length (NC G), .own iV 0 V.length 2] := by
    rw [f4, if_neg o10, if_pos (by simp), h.b, Option.map_some]
    have e4 : ¬ iV = iG := fun q => o14 q.symm
    simp only [frz, frz.frzL, SV, if_true, if_neg e4, List.drop_zero, e1]
  refine aw_freeze2 iV (NC V) (g7 _ _ (fun q => o14 q.symm) (fun q => o11 q.symm) h.v) (fun i => i == bm) fun e8 s8 f5 f6 f7 f8 => ?_
  have g8 : ∀ k c, k ≠ iV → k ≠ bm → s7.get k = c → s8.get k = c := fun k c q1 q2 q3 => by
    rw [f8, if_neg q1, if_neg (by simpa using q2)]
    exact q3
  refine k e8 s8 (f5.trans f1) (fun t => by rw [f6, f2]) ?_ (g8 _ _ (by omega) (by omega) (g7 _ _ (by omega) (by omega) h.z)) fun k hk => g8 _ _ (by omega) (by omega) (g7 _ _ (by omega) (by omega) (h.fr k hk))
  rw [f8, if_neg o11, if_pos (by simp), b7, Option.map_some]
  simp only [frz, frz.frzL, SV, if_true, List.drop_zero, e2, e3]
theorem aw_gen {P : Program} {code : Code} {m0 : Nat} {e : Env} {s : St} {Q : Exit → Env → St → Prop} (I : St → Prop) (h : I s) (k : ∀ s', I s' → AW P code m0 e s' Q) : AW P code m0 e s Q := k s h
theorem readM_ax (ws : List Str) (hw : BL ws) (hwl : ∀ w ∈ ws, w.length ≤ 281474976710656) (hl : ws.length ≤ 9223372036854775807) : PCall Tryz.prog 42 [TV ws] (RB (readM ws)) := by
  refine pcall_le fun s => ?_
  have hno : ¬ (4 ≤ ws.length ∧ ws.getD 0 [] = sModel ∧ (ws.getD 2 [] = [100] ∨ ws.getD 2 [] = [115]) ∧ ws.length % 2 = 0 ∧ ws.length ≤ 10 ∧ (ws.getD 2 [] = [115] → ws.length = 6)) → readM ws = (mdl0, 70) := fun q => by
    unfold readM
    simp only
    rw [if_neg q]
  unfold TV
  by_cases q0 : ws.length < 4
  · rw [hno (fun h => by omega)]
    refine acall_of Tryz.func42 rfl rfl (by simp [Tryz.ntmps42]) ?_; rw [Tryz.ntmps42, Tryz.results42]
    refine go rTI ?_
    refine ifs ?_ ?_ <;> first | exact nope | intro hb
    refine go rTI ?_
    exact ⟨rb_err 70, rb_idf _, fun i hi => if_neg (by omega)⟩
  · have i0 := hd_SL ws 0 (by omega)
    have i1 := hd_SL ws 1 (by omega)
    have i2 := hd_SL ws 2 (by omega)
    rw [List.drop_zero] at i0
    have b0 := bl_at ws hw 0
    have b1 := bl_at ws hw 1
    have b2 := bl_at ws hw 2
    have e1 := str_ne (ws.getD 0 []) sModel b0 (by_lit _ rfl)
    have e2 := str_ne (ws.getD 2 []) [100] b2 (by_lit _ rfl)
    have e3 := str_ne (ws.getD 2 []) [115] b2 (by_lit _ rfl)
    have e4 := str_eq (ws.getD 2 []) [115] b2 (by_lit _ rfl)
    rw [show bs sModel = ByteArray.mk #[46, 109, 111, 100, 101, 108] from rfl] at e1
    rw [show bs [100] = ByteArray.mk #[100] from rfl] at e2
    rw [show bs [115] = ByteArray.mk #[115] from rfl] at e3 e4
    have t2 : Int.toNat 2 = 2 := rfl
    unfold SV at i0 i1 i2
    by_cases hc : (4 ≤ ws.length ∧ ws.getD 0 [] = sModel ∧ (ws.getD 2 [] = [100] ∨ ws.getD 2 [] = [115]) ∧ ws.length % 2 = 0 ∧ ws.length ≤ 10 ∧ (ws.getD 2 [] = [115] → ws.length = 6))
    · have hrd : readM ws = if isName (ws.getD 1 []) = true then (if numsE (ws.drop 3) 0 ≠ 0 then (mdl0, numsE (ws.drop 3) 0) else if modelOk ⟨ws.getD 1 [], ((ws.getD 2 []).getD 0 0 : Nat), (evens (ws.drop 3)).map numV, (odds (ws.drop 3)).map numV⟩ = true then (⟨ws.getD 1 [], ((ws.getD 2 []).getD 0 0 : Nat), (evens (ws.drop 3)).map numV, (odds (ws.drop 3)).map numV⟩, 0) else (mdl0, 50)) else (mdl0, 71) := by
        unfold readM
        simp only
        rw [if_pos hc]
      rw [hrd]
      clear hrd hno
      obtain ⟨c0, c1, c2, c3, c4, c5⟩ := hc
      refine acall_of Tryz.func42 rfl rfl (by simp [Tryz.ntmps42]) ?_; rw [Tryz.ntmps42, Tryz.results42]
      refine go rTI ?_
      refine aw_only (fun e' s' => e'.n = 108 ∧ e'.m 0 = .sl ws.length (SL ws) ∧ e'.m 2 = .ptr s.nx 0 ∧ e'.m 47 = .v (.bool false) ∧ s' = s.push mz) ?_ ?_
      · have c6 : ((ws.length : Int) % 2) = 0 := by omega
        rw [decide_eq_true c1] at e1
        rcases c2 with c2 | c2
        · rw [c2, decide_eq_true rfl] at e2
          rw [c2, decide_eq_false (by decide)] at e4
          rw [c2] at i2
          refine go (cj rTI (cj @i0 (cj @i2 (cj @t2 (cj @e1 (cj @e2 (cj @e4 @c6))))))) ?_
          (repeat' refine And.intro ?_ ?_) <;> first | exact rfl | exact fnz rTI | skip
          all_goals (first | rfl | trivial)
        · have c7 : (ws.length : Int) = 6 := by have := c5 c2; omega
          have c8 : ws.length = 6 := by omega
          rw [c2, decide_eq_true rfl] at e3 e4
          rw [c2, decide_eq_false (by decide)] at e2
          rw [c2] at i2
          refine go (cj rTI (cj @i0 (cj @i2 (cj @t2 (cj @e1 (cj @e2 (cj @e3 (cj @e4 @c6)))))))) ?_
          (repeat' refine And.intro ?_ ?_) <;> first | exact rfl | exact fnz rTI | skip
          all_goals (first | rfl | trivial)
      · obtain ⟨kd, hkd, hkb⟩ : ∃ kd, ws.getD 2 [] = [kd] ∧ kd < 256 := by
          rcases c2 with c2 | c2
          · exact ⟨100, c2, by decide⟩
          · exact ⟨115, c2, by decide⟩
        rw [hkd] at i2 b2 ⊢
        have lS := bs_size [kd]
        have hg := bs_get [kd] b2 0
        rw [show ([kd] : Str).getD 0 0 = kd from rfl] at hg ⊢
        rw [show ([kd] : Str).length = 1 from rfl] at lS
        have htd := TV_drop ws 3
        have hbd : BL (ws.drop 3) := fun w h => hw w (List.mem_of_mem_drop h)
        have hDl : (ws.drop 3).length % 2 = 1 ∧ (ws.drop 3).length ≤ 10 := by rw [List.length_drop]; omega
        have hnm := cname_ax (ws.getD 1 []) b1 (by
          rw [List.getD_eq_getElem?_getD, List.getElem?_eq_getElem (show 1 < ws.length by omega)]
          exact Nat.le_trans (hwl _ (List.getElem_mem _)) (by decide))
        have hnl : (ws.getD 1 []).length ≤ 281474976710656 := by
          rw [List.getD_eq_getElem?_getD, List.getElem?_eq_getElem (show 1 < ws.length by omega)]
          exact hwl _ (List.getElem_mem _)
        unfold TV at htd
        clear e1 e2 e3 e4 c1 c2 c3 c5 hw hwl i0
        rintro e' s' ⟨h1, k0, k2, k47, rfl⟩
        rw [then_normal]
        refine aw_cond (b := false) k47 (fun h => by cases h) (fun _ => ?_)
        refine aw_skip ?_
        rw [then_normal]
        generalize ws.getD 1 [] = nm at *
        generalize ws.drop 3 = D at *
        have t3 : Int.toNat 3 = 3 := rfl
        have t1 : Int.toNat 1 = 1 := rfl
        unfold SV at hnm
        refine aw_seq ?_
        refine aw_drw (.take 0 (.take 1 (.take 2 (.take 3 (.take 4 (.take 5 (.take 6 (.take 7 (.one 8 (.one 9 (.done))))))))))) [] (by kernel_rfl) (by kernel_rfl) fun K hK => ?_; refine dr (cj rTI (cj @h1 (cj @k0 (cj @i1 (cj @i2 (cj @t1 (cj @t2 (cj @lS @hg)))))))) ?_; refine hK _ _ ?_; clear hK K
        rw [then_normal]
        refine aw_seq ?_
        refine aw_seq ?_
        cases hn : isName nm with
        | false =>
          rw [hn] at hnm
          rw [if_neg Bool.false_ne_true]
          refine aw_reg fun K hK => ?_; refine rn (cj rTI @h1) ?_; refine cont_pure hnm ?_; refine rn (cj rTI @h1) ?_; refine hK _ _ ?_; clear hK K
          refine ifs ?_ ?_ <;> first | exact nope | intro hb
          unfold mz nilS
          refine go (cj rTI (cj @h1 @k2)) ?_
          exact ⟨rb_err 71, rb_idf _, fun i hi => by rw [if_neg (by omega), if_neg (by omega)]⟩
        | true =>
          rw [hn] at hnm
          rw [if_pos rfl]
          refine aw_reg fun K hK => ?_; refine rn (cj rTI @h1) ?_; refine cont_pure hnm ?_; refine rn (cj rTI @h1) ?_; refine hK _ _ ?_; clear hK K
          refine ifs ?_ ?_ <;> first | exact nope | intro hb
          refine go (cj rTI (cj @h1 (cj @k0 (cj @t3 @htd)))) ?_
          match D, hDl with
          | [], q => simp at q
          | g0 :: q0, hDl =>
          rw [List.length_cons] at hDl
          obtain ⟨hev, hod⟩ := odds_cons g0 q0 (by omega)
          rw [hev, hod]
          refine aw_nil_box (s.nx + 1) 2 2 [.v (.string (bs nm)), .v (.int .u8 (kd : Nat)), .v (.slice none 0 0), .v (.slice none 0 0)] (by rw [St.push_ne _ _ _ (by show s.nx + 1 ≠ s.nx + 1 + 1; omega)]; exact St.set_same _ _ _) rfl ?_
          refine aw_nil_box (s.nx + 1) 3 2 _ (St.set_same _ _ _) rfl ?_
          have hM := MI.init s nm kd (g0 :: q0) _ _ _ rfl rfl rfl
          refine aw_gen (fun x => MI s x (s.nx + 2) (s.nx + 1) (s.nx + 3) (s.nx + 4) nm kd [] [] (g0 :: q0) 0) hM fun s4 hM => ?_
          clear htd i1 i2 hnm lS hg t1 t2 t3
          refine aw_only (fun e5 s5 => e5.n = 108 ∧ e5.m 2 = .ptr s.nx 0 ∧ e5.m 5 = .ptr (s.nx + 1) 0 ∧ e5.m 6 = .ptr (s.nx + 2) 0 ∧ ∃ iG, MI s s5 (s.nx + 2) (s.nx + 1) iG (s.nx + 4) nm kd [numV g0] [] q0 (numE g0 0)) ?_ ?_
          · have hnu := num_ax s4 (s.nx + 2) g0 q0 0 (hbd g0 (List.mem_cons_self ..)) hM.r hM.o.2.2.2.2.2.1 (by omega)
            have gb := hM.b
            have gg := hM.g
            have hG := hM.gg (numV g0) q0 (numE g0 0)
            obtain ⟨o1, o2, o3, o4, o5, o6, o7, o8, o9, o10, o11, o12, o13, o14⟩ := hM.o
            rw [show NC ([] : List Num) = [] from rfl, show ([] : List Num).length = 0 from rfl] at *
            unfold NM at hnu
            unfold SV iv at *
            refine aw_drwR (.take 0 (.take 1 (.take 2 (.one 3 (.one 4 (.one 5 (.done))))))) 6 [7] [s.nx + 1] (by kernel_rfl) (by kernel_rfl) fun K hK => ?_; refine dt (cj rTI (cj @h1 (cj @gb (cj @gg @zr2)))) ?_; refine cont_go hnu ?_; rintro _ s5 ⟨rfl, rfl⟩; refine dt (cj rTI (cj @h1 (cj @gb (cj @gg @zr2)))) ?_; refine hK _ _ ?_; clear hK K
            refine ⟨rfl, ?_, ?_, ?_, ?_, s4.nx + 1, hG⟩
            all_goals (exact rn0 (cj rTI (cj @h1 @k2)))
            all_goals (first | trivial | rfl)
          · clear h1 k0 k2 k47 hM hod hev
            clear hM
            have hbq : BL q0 := fun w h => hbd w (List.mem_cons_of_mem _ h)
            have hE0 : numsE (g0 :: q0) 0 = numsE q0 (numE g0 0) := rfl
            rw [hE0, List.map_cons]
            generalize numE g0 0 = e0
            generalize numV g0 = v0
            generalize s.nx + 4 = iV
            rintro e5 s5 ⟨h1, k2, k5, k6, iG, hM⟩
            rw [then_normal]
            refine aw_seq ?_
            refine aw_block ?_
            refine aw_loop (fun m e6 s6 => ∃ q er G V iG iV, m = q.length ∧ e6.n = 108 ∧ e6.m 2 = .ptr s.nx 0 ∧ e6.m 5 = .ptr (s.nx + 1) 0 ∧ e6.m 6 = .ptr (s.nx + 2) 0 ∧ MI s s6 (s.nx + 2) (s.nx + 1) iG iV nm kd G V q er ∧ numsE q0 e0 = numsE q er ∧ v0 :: (odds q0).map numV = G ++ (odds q).map numV ∧ (evens q0).map numV = V ++ (evens q).map numV ∧ q.length % 2 = 0 ∧ q.length ≤ 10 ∧ G.length + q.length ≤ 20 ∧ V.length + q.length ≤ 20 ∧ ∀ w ∈ q, w ∈ q0) q0.length ?_ ?_
            · refine ⟨q0, e0, [v0], [], iG, iV, rfl, ?_, ?_, ?_, ?_, hM, rfl, rfl, rfl, by omega, by omega, by rw [List.length_cons, List.length_nil]; omega, by rw [List.length_nil]; omega, fun _ h => h⟩
              all_goals (exact rn0 (cj rTI (cj @h1 (cj @k2 (cj @k5 @k6)))))
            · clear h1 k2 k5 k6 hM
              rintro m e6 s6 ⟨q, er, G, V, iG, iV, rfl, h1, k2, k5, k6, hM, hE, hG, hV, hq1, hq2, hq3, hq4, hm⟩
              have gr := hM.r
              match q with
              | [] =>
                unfold rdr TV iv at gr
                have z0 : (([] : List Str).length : Int) = 0 := rfl
                refine go (cj rTI (cj @h1 (cj @k6 (cj @gr @z0)))) ?_
                refine ifs ?_ ?_ <;> first | exact nope | intro hb
                refine go (cj rTI @h1) ?_
                have hE2 : numsE q0 e0 = er := hE
                have hG2 : v0 :: (odds q0).map numV = G := by rw [hG]; exact List.append_nil _
                have hV2 : (evens q0).map numV = V := by rw [hV]; exact List.append_nil _
                rw [hE2, hG2, hV2]
                rw [List.length_nil] at hq3 hq4
                have fr := hM.fr
                have gz := hM.z
                obtain ⟨o1, o2, o3, o4, o5, o6, o7, o8, o9, o10, o11, o12, o13, o14⟩ := hM.o
                by_cases he0 : er = 0
                · rw [if_neg (fun h => h he0)]
                  refine go (cj rTI (cj @h1 (cj @k6 (cj @gr @he0)))) ?_
                  refine ifs ?_ ?_ <;> first | exact nope | intro hb
                  refine aw_skip ?_
                  rw [then_normal]
                  refine hM.lay fun e8 s8 f1 f2 gb gz fr => ?_
                  have m1 : e8.n = 108 := f1.trans h1
                  have m2 : e8.m 2 = .ptr s.nx 0 := by
                    rw [f2]
                    exact rn0 @k2
                  have m5 : e8.m 5 = .ptr (s.nx + 1) 0 := by
                    rw [f2]
                    exact rn0 @k5
                  have hva := mvalid_ax ⟨nm, kd, G, V⟩ ⟨b1, hnl⟩ (by show G.length ≤ _; omega) (by show V.length ≤ _; omega)
                  unfold MA SV NV at hva
                  unfold SV at gb
                  unfold mz nilS at gz
                  simp only at hva
                  clear f1 f2 h1 k2 k5 k6 hM gr
                  refine aw_seq ?_
                  refine aw_seq ?_
                  cases hok : modelOk ⟨nm, kd, G, V⟩ with
                  | false =>
                    rw [hok] at hva
                    rw [if_neg Bool.false_ne_true]
                    refine aw_reg fun K hK => ?_; refine rn (cj rTI (cj @m1 (cj @m5 @gb))) ?_; refine cont_pure hva ?_; refine rn (cj rTI (cj @m1 (cj @m5 @gb))) ?_; refine hK _ _ ?_; clear hK K
                    refine ifs ?_ ?_ <;> first | exact nope | intro hb
                    refine go (cj rTI (cj @m1 (cj @m2 @gz))) ?_
                    exact ⟨rb_err 50, rb_idf _, fun i hi => by rw [if_neg (by omega)]; exact fr i hi⟩
                  | true =>
                    rw [hok] at hva
                    rw [if_pos rfl]
                    refine aw_reg fun K hK => ?_; refine rn (cj rTI (cj @m1 (cj @m5 @gb))) ?_; refine cont_pure hva ?_; refine rn (cj rTI (cj @m1 (cj @m5 @gb))) ?_; refine hK _ _ ?_; clear hK K
                    refine ifs ?_ ?_ <;> first | exact nope | intro hb
                    refine go (cj rTI (cj @m1 (cj @m2 (cj @m5 (cj @gb @gz))))) ?_
                    exact ⟨Le.refl _, rb_idf _, fun i hi => by rw [if_neg (by omega)]; exact fr i hi⟩
                · rw [if_pos he0]
                  unfold mz nilS at gz
                  refine go (cj rTI (cj @h1 (cj @k6 (cj @gr @he0)))) ?_
                  refine ifs ?_ ?_ <;> first | exact nope | intro hb
                  refine aw_seq ?_
                  refine aw_drw (.take 0 (.take 1 (.take 2 (.take 3 (.take 4 (.one 5 (.take 6 (.done)))))))) [s.nx + 2] (by kernel_rfl) (by kernel_rfl) fun K hK => ?_; refine dr (cj rTI (cj @h1 (cj @k2 (cj @k6 (cj @gr @gz))))) ?_; refine hK _ _ ?_; clear hK K
                  rw [then_normal]
                  refine go (cj rTI (cj @h1 (cj @k2 @gz))) ?_
                  exact ⟨rb_err er, rb_idf _, fun i hi => by rw [if_neg (by omega)]; exact fr i hi⟩
              | [x] => simp at hq1
              | a :: b :: q' =>
                rw [List.length_cons, List.length_cons] at hq1 hq2 hq3 hq4
                have hE3 : numsE (a :: b :: q') er = numsE q' (numE b (numE a er)) := rfl
                have hG3 : G ++ (odds (a :: b :: q')).map numV = (G ++ [numV b]) ++ (odds q').map numV := by
                  show G ++ (numV b :: (odds q').map numV) = _
                  simp
                have hV3 : V ++ (evens (a :: b :: q')).map numV = (V ++ [numV a]) ++ (evens q').map numV := by
                  show V ++ (numV a :: (evens q').map numV) = _
                  simp
                rw [hE3] at hE
                rw [hG3] at hG
                rw [hV3] at hV
                clear hE3 hG3 hV3
                obtain ⟨o1, o2, o3, o4, o5, o6, o7, o8, o9, o10, o11, o12, o13, o14⟩ := hM.o
                have hna := num_ax s6 (s.nx + 2) a (b :: q') er (hbq a (hm a (List.mem_cons_self ..))) hM.r o6 (by rw [List.length_cons]; omega)
                have gb := hM.b
                have gv := hM.v
                have nl := nc_len V
                have hM2 := hM.vv (numV a) (b :: q') (numE a er)
                have z1 : ((a :: b :: q').length : Int) = ((q'.length + 2 : Nat) : Int) := rfl
                generalize numE a er = ea at *
                generalize numV a = na at *
                unfold rdr TV iv at gr
                unfold NM at hna
                unfold SV at gb
                refine go (cj rTI (cj @h1 (cj @k6 (cj @gr @z1)))) ?_
                refine ifs ?_ ?_ <;> first | exact nope | intro hb
                refine aw_skip ?_
                rw [then_normal]
                refine aw_block ?_
                refine aw_seq ?_
                refine aw_only (fun e7 s7 => e7.n = 108 ∧ e7.m 2 = .ptr s.nx 0 ∧ e7.m 5 = .ptr (s.nx + 1) 0 ∧ e7.m 6 = .ptr (s.nx + 2) 0 ∧ ∃ iV, MI s s7 (s.nx + 2) (s.nx + 1) iG iV nm kd G (V ++ [na]) (b :: q') ea) ?_ ?_
                · unfold iv at *
                  refine aw_drwR (.take 0 (.take 1 (.take 2 (.one 3 (.one 4 (.one 5 (.done))))))) 6 [7] [s.nx + 1] (by kernel_rfl) (by kernel_rfl) fun K hK => ?_; refine dt (cj rTI (cj @h1 (cj @k5 (cj @k6 (cj @gb (cj @gv (cj @nl @zr2))))))) ?_; refine cont_go hna ?_; rintro _ s7 ⟨rfl, rfl⟩; refine dt (cj rTI (cj @h1 (cj @k5 (cj @k6 (cj @gb (cj @gv (cj @nl @zr2))))))) ?_; refine hK _ _ ?_; clear hK K
                  refine ⟨rfl, ?_, ?_, ?_, ?_, s6.nx + 1, hM2⟩
                  all_goals (exact rn0 (cj rTI (cj @h1 (cj @k2 (cj @k5 @k6)))))
                  all_goals (first | trivial | rfl)
                · clear h1 k2 k5 k6 hM hM2 hna gb gv nl z1 gr o1 o2 o3 o4 o5 o6 o7 o8 o9 o10 o11 o12 o13 o14
                  rintro e7 s7 ⟨h1, k2, k5, k6, iV, hM⟩
                  rw [then_normal]
                  obtain ⟨o1, o2, o3, o4, o5, o6, o7, o8, o9, o10, o11, o12, o13, o14⟩ := hM.o
                  have hnb := num_ax s7 (s.nx + 2) b q' ea (hbq b (hm b (by simp))) hM.r o6 (by omega)
                  have gb := hM.b
                  have gg := hM.g
                  have nl := nc_len G
                  have hM2 := hM.gg (numV b) q' (numE b ea)
                  generalize numE b ea = eb at *
                  generalize numV b = nb at *
                  unfold NM at hnb
                  unfold SV at gb
                  have hMM := hM2
                  unfold iv at *
                  refine aw_drwR (.take 0 (.take 1 (.take 2 (.one 3 (.one 4 (.one 5 (.done))))))) 6 [7] [s.nx + 1] (by kernel_rfl) (by kernel_rfl) fun K hK => ?_; refine dt (cj rTI (cj @h1 (cj @k5 (cj @k6 (cj @gb (cj @gg (cj @nl @zr2))))))) ?_; refine cont_go hnb ?_; rintro _ s8 ⟨rfl, rfl⟩; refine dt (cj rTI (cj @h1 (cj @k5 (cj @k6 (cj @gb (cj @gg (cj @nl @zr2))))))) ?_; refine hK _ _ ?_; clear hK K
                  try simp only [block_normal, loop_normal]
                  refine ⟨q'.length, by rw [List.length_cons, List.length_cons]; omega, q', eb, G ++ [nb], V ++ [na], s7.nx + 1, iV, rfl, ?_, ?_, ?_, ?_, hMM, hE, hG, hV, by omega, by omega, by rw [List.length_append, List.length_cons, List.length_nil]; omega, by rw [List.length_append, List.length_cons, List.length_nil]; omega, fun w hw => hm w (by simp [hw])⟩
                  all_goals (exact rn0 (cj rTI (cj @h1 (cj @k2 (cj @k5 @k6)))))
                  all_goals (first | trivial | rfl)
    · rw [hno hc]
      by_cases q1 : ws.getD 0 [] = sModel
      · rw [decide_eq_true q1] at e1
        by_cases q2 : ws.getD 2 [] = [100] ∨ ws.getD 2 [] = [115]
        · have hx : (!decide (ws.getD 2 [] = [100]) && !decide (ws.getD 2 [] = [115])) = false := by
            rcases q2 with q2 | q2
            · rw [decide_eq_true q2]; rfl
            · rw [decide_eq_true q2, Bool.and_comm]; rfl
          by_cases q3 : ws.length % 2 = 0
          · have q4 : ((ws.length : Int) % 2) = 0 := by omega
            by_cases q5 : ws.length ≤ 10
            · have q6 : ws.getD 2 [] = [115] ∧ ¬ ws.length = 6 := by
                refine ⟨Classical.byContradiction fun h => hc ⟨by omega, q1, q2, q3, q5, fun x => absurd x h⟩, fun h => hc ⟨by omega, q1, q2, q3, q5, fun _ => h⟩⟩
              have q7 : ¬ (ws.length : Int) = 6 := by omega
              rw [q6.1, decide_eq_false (by decide)] at e2
              rw [q6.1, decide_eq_true rfl] at e3 e4
              rw [q6.1] at i2
              refine acall_of Tryz.func42 rfl rfl (by simp [Tryz.ntmps42]) ?_; rw [Tryz.ntmps42, Tryz.results42]
              refine go rTI ?_
              refine go (cj rTI (cj @i0 (cj @i2 (cj @t2 (cj @e1 (cj @e2 (cj @e3 (cj @e4 (cj @q4 @q7))))))))) ?_
              refine ifs ?_ ?_ <;> first | exact nope | intro hb
              refine go rTI ?_
              exact ⟨rb_err 70, rb_idf _, fun i hi => if_neg (by omega)⟩
            · rcases q2 with q2 | q2
              · rw [q2, decide_eq_true rfl] at e2
                rw [q2] at i2
                refine acall_of Tryz.func42 rfl rfl (by simp [Tryz.ntmps42]) ?_; rw [Tryz.ntmps42, Tryz.results42]
                refine go rTI ?_
                refine go (cj rTI (cj @i0 (cj @i2 (cj @t2 (cj @e1 (cj @e2 (cj @e3 (cj @e4 @q4)))))))) ?_
                refine ifs ?_ ?_ <;> first | exact nope | intro hb
                refine go rTI ?_
                exact ⟨rb_err 70, rb_idf _, fun i hi => if_neg (by omega)⟩
              · rw [q2, decide_eq_false (by decide)] at e2
                rw [q2, decide_eq_true rfl] at e3
                rw [q2] at i2
                refine acall_of Tryz.func42 rfl rfl (by simp [Tryz.ntmps42]) ?_; rw [Tryz.ntmps42, Tryz.results42]
                refine go rTI ?_
                refine go (cj rTI (cj @i0 (cj @i2 (cj @t2 (cj @e1 (cj @e2 (cj @e3 (cj @e4 @q4)))))))) ?_
                refine ifs ?_ ?_ <;> first | exact nope | intro hb
                refine go rTI ?_
                exact ⟨rb_err 70, rb_idf _, fun i hi => if_neg (by omega)⟩
          · have q4 : ((ws.length : Int) % 2) = 1 := by omega
            rcases q2 with q2 | q2
            · rw [q2, decide_eq_true rfl] at e2
              rw [q2] at i2
              refine acall_of Tryz.func42 rfl rfl (by simp [Tryz.ntmps42]) ?_; rw [Tryz.ntmps42, Tryz.results42]
              refine go rTI ?_
              refine go (cj rTI (cj @i0 (cj @i2 (cj @t2 (cj @e1 (cj @e2 (cj @e3 (cj @e4 @q4)))))))) ?_
              refine ifs ?_ ?_ <;> first | exact nope | intro hb
              refine go rTI ?_
              exact ⟨rb_err 70, rb_idf _, fun i hi => if_neg (by omega)⟩
            · rw [q2, decide_eq_false (by decide)] at e2
              rw [q2, decide_eq_true rfl] at e3
              rw [q2] at i2
              refine acall_of Tryz.func42 rfl rfl (by simp [Tryz.ntmps42]) ?_; rw [Tryz.ntmps42, Tryz.results42]
              refine go rTI ?_
              refine go (cj rTI (cj @i0 (cj @i2 (cj @t2 (cj @e1 (cj @e2 (cj @e3 (cj @e4 @q4)))))))) ?_
              refine ifs ?_ ?_ <;> first | exact nope | intro hb
              refine go rTI ?_
              exact ⟨rb_err 70, rb_idf _, fun i hi => if_neg (by omega)⟩
        · rw [decide_eq_false (fun h => q2 (.inl h))] at e2
          rw [decide_eq_false (fun h => q2 (.inr h))] at e3
          refine acall_of Tryz.func42 rfl rfl (by simp [Tryz.ntmps42]) ?_; rw [Tryz.ntmps42, Tryz.results42]
          refine go rTI ?_
          refine go (cj rTI (cj @i0 (cj @i2 (cj @t2 (cj @e1 (cj @e2 @e3)))))) ?_
          refine ifs ?_ ?_ <;> first | exact nope | intro hb
          refine go rTI ?_
          exact ⟨rb_err 70, rb_idf _, fun i hi => if_neg (by omega)⟩
      · rw [decide_eq_false q1] at e1
        refine acall_of Tryz.func42 rfl rfl (by simp [Tryz.ntmps42]) ?_; rw [Tryz.ntmps42, Tryz.results42]
        refine go rTI ?_
        refine go (cj rTI (cj @i0 (cj @i2 (cj @t2 (cj @e1 (cj @e2 (cj @e3 @e4))))))) ?_
        refine ifs ?_ ?_ <;> first | exact nope | intro hb
        refine go rTI ?_
        exact ⟨rb_err 70, rb_idf _, fun i hi => if_neg (by omega)⟩
end Go.Proofs.YtfjelkjlfcafgaaGreatDoor.CardN
end
section
/- The document on models: ReadModel, WriteModel; its texts of numbers. -/
namespace Go.Proofs.YtfjelkjlfcafgaaGreatDoor.CardY
open Go Go.RowKit Ax Ti NumS NumT CardS CardP CardA CardB CardC CardD CardE CardF CardG CardH CardI CardJ CardK CardL CardM CardN CardT
open NumA (NM)
set_option linter.unusedSimpArgs false
set_option linter.unusedVariables false
set_option maxRecDepth 4000
set_option maxHeartbeats 2000000
theorem rTI : type_of% (cj @ti3 (cj @ti4 (cj @ti9 (cj @ti5 (cj @ti2 (cj @ti36 (cj @ti63 (cj @ti62 (cj @ti24 (cj @ti82 (cj @Nat.zero_add (cj @tz0 (cj @tz1 (cj @tz3 (cj @Nat.mul_one @Int.toNat_natCast))))))))))))))) := cj @ti3 (cj @ti4 (cj @ti9 (cj @ti5 (cj @ti2 (cj @ti36 (cj @ti63 (cj @ti62 (cj @ti24 (cj @ti82 (cj @Nat.zero_add (cj @tz0 (cj @tz1 (cj @tz3 (cj @Nat.mul_one @Int.toNat_natCast))))))))))))))
theorem rtext_ax (n : Num) (h : valid n = true) : PCall Tryz.prog 86 [NM n.1 n.2] (SV (textN n)) := by
  refine pcall_of fun s => ?_
  have ht := NumG.textD_ax n.1 n.2
  unfold NumX.textV NumA.validN at ht
  have h' : RefM.validN n.1 n.2 = true := h
  rw [if_pos h'] at ht
  unfold textN
  rw [if_pos h]
  unfold NM at ht ⊢
  unfold SV
  refine acall_of Tryz.func86 rfl rfl (by simp [Tryz.ntmps86]) ?_; rw [Tryz.ntmps86, Tryz.results86]
  refine go rTI ?_
  refine aw_reg fun K hK => ?_; refine rn rTI ?_; refine cont_pure ht ?_; refine rn rTI ?_; refine hK _ _ ?_; clear hK K
  refine go rTI ?_
  exact fun i hi => by rw [if_neg (by omega)]
theorem LI_ow {s s' : St} {c : List AV} {id : Nat} {L : List Str} (h : LI s s' c id L) (L2 : List Str) : LI s (s'.set id (SL L2)) c id L2 := by
  obtain ⟨o1, o2⟩ := h.o
  refine ⟨?_, St.set_same _ _ _, ⟨o1, o2⟩, fun k hk => ?_⟩
  · rw [St.set_ne _ _ _ _ (by omega)]; exact h.b
  · rw [St.set_ne _ _ _ _ (by omega)]; exact h.fr k hk
def tlM (g0 : Num) (V gs : List Num) : Nat → List Str
  | 0 => []
  | k + 1 => textN g0 :: zipM (V.take k) (gs.take k)
theorem tl_le (g0 : Num) (V gs : List Num) (k : Nat) : (tlM g0 V gs k).length ≤ 1 + 2 * V.length := by
  cases k with
  | zero => exact Nat.zero_le _
  | succ k =>
    show (zipM (V.take k) (gs.take k)).length + 1 ≤ _
    have := zipM_le (V.take k) (gs.take k)
    rw [List.length_take] at this
    omega
theorem mem_valid {l : List Num} (h : l.all valid = true) (k : Nat) (hk : k < l.length) : valid (l.getD k (0, 0)) = true := by
  rw [List.getD_eq_getElem?_getD, List.getElem?_eq_getElem hk]
  exact List.all_eq_true.1 h _ (List.getElem_mem _)
theorem writeMr_ax (m : Mdl) (hn : By m.name ∧ m.name.length ≤ 281474976710656) (hg : m.g.length ≤ 9223372036854775806) (hv : m.v.length ≤ 9223372036854775806) : PCall Tryz.prog 45 [MA m] (PA (writeM m)) := by
  have hva := rmvalid_ax m hn (by omega) hv
  unfold writeM
  cases hok : modelOk m with
  | false =>
    rw [hok] at hva
    rw [if_neg Bool.false_ne_true]
    refine pcall_le fun s => ?_
    unfold MA SV NV at *
    refine acall_of Tryz.func45 rfl rfl (by simp [Tryz.ntmps45]) ?_; rw [Tryz.ntmps45, Tryz.results45]
    refine go rTI ?_
    refine aw_reg fun K hK => ?_; refine rn rTI ?_; refine cont_pure hva ?_; refine rn rTI ?_; refine hK _ _ ?_; clear hK K
    refine ifs ?_ ?_ <;> first | exact nope | intro hb
    refine go rTI ?_
    exact ⟨pa_err 50, pa_idf _, fun i hi => if_neg (by omega)⟩
  | true =>
    rw [hok] at hva
    rw [if_pos rfl]
    obtain ⟨hk, hl1, hl2⟩ := ok_form m hok
    have hall : m.g.all valid = true ∧ m.v.all valid = true := by
      have h0 := hok
      rw [show modelOk m = (isName m.name && m.g.all valid && m.v.all valid && kindM m.kind m.g m.v) from rfl, Bool.and_eq_true, Bool.and_eq_true, Bool.and_eq_true] at h0
      exact ⟨h0.1.1.2, h0.1.2⟩
    obtain ⟨nm, kd, G, V⟩ := m
    simp only at hn hg hv hk hl1 hl2 hall
    match G, hl1 with
    | g0 :: gs, hl1 =>
    rw [List.length_cons] at hl1 hl2
    have hT : modelT ⟨nm, kd, g0 :: gs, V⟩ = sModel :: nm :: [kd.toNat] :: textN g0 :: zipM V gs := rfl
    rw [hT]
    refine pcall_own (pa_idf _) fun s => ?_
    unfold MA SV NV at *
    refine acall_of Tryz.func45 rfl rfl (by simp [Tryz.ntmps45]) ?_; rw [Tryz.ntmps45, Tryz.results45]
    refine go rTI ?_
    refine aw_reg fun K hK => ?_; refine rn rTI ?_; refine cont_pure hva ?_; refine rn rTI ?_; refine hK _ _ ?_; clear hK K
    refine ifs ?_ ?_ <;> first | exact nope | intro hb
    refine go rTI ?_
    rw [then_normal]
    refine aw_only (fun e' s' => e'.n = 46 ∧ e'.m 1 = .ptr s.nx 0 ∧ ∃ id, e'.m 4 = .own id 0 3 1 ∧ LI s s' [.v (.string (bs nm)), .v (.int .u8 kd), .sl (gs.length + 1) (NC (g0 :: gs)), .sl V.length (NC V)] id [sModel, nm, [kd.toNat]]) ?_ ?_
    · have hL : ∀ x : Str, LI s ((s.push [.v (.string (bs nm)), .v (.int .u8 kd), .sl (gs.length + 1) (NC (g0 :: gs)), .sl V.length (NC V)]).push [SV sModel, SV nm, SV x]) [.v (.string (bs nm)), .v (.int .u8 kd), .sl (gs.length + 1) (NC (g0 :: gs)), .sl V.length (NC V)] (s.nx + 1) [sModel, nm, x] := fun x => by
        refine ⟨?_, St.push_same _ _, ⟨by omega, Nat.lt_succ_self _⟩, fun k hk => ?_⟩
        · rw [St.push_ne (s.push _) _ _ (show s.nx ≠ s.nx + 1 by omega)]
          exact St.push_same _ _
        · rw [St.push_ne (s.push _) _ _ (show k ≠ s.nx + 1 by omega), St.push_ne s _ _ (by omega)]
      have t2 : Int.toNat 2 = 2 := rfl
      rcases hk with rfl | rfl
      · refine ifs ?_ ?_ <;> first | exact nope | intro hb
        refine go (cj rTI @t2) ?_
        refine ⟨rfl, ?_, ?_, s.nx + 1, ?_, ?_⟩
        rotate_left 3
        · exact LI_ow (hL [100]) [sModel, nm, [115]]
        all_goals (exact rn0 rTI)
        all_goals (first | trivial | rfl)
      · refine ifs ?_ ?_ <;> first | exact nope | intro hb
        refine aw_skip ?_
        refine ⟨rfl, ?_, ?_, s.nx + 1, ?_, hL [100]⟩
        all_goals (exact rn0 rTI)
        all_goals (first | trivial | rfl)
    · clear hva hok hT
      generalize [kd.toNat] = kw at *
      rintro e' s' ⟨h1, q1, id, q4, hL⟩
      have gb := hL.b
      rw [then_normal]
      refine go (cj rTI (cj @h1 (cj @q1 @gb))) ?_
      refine aw_loop (fun m e2 s2 => ∃ k id, m = gs.length + 1 - k ∧ k ≤ gs.length + 1 ∧ e2.n = 46 ∧ e2.m 1 = .ptr s.nx 0 ∧ e2.m 4 = .own id 0 ([sModel, nm, kw] ++ tlM g0 V gs k).length 1 ∧ e2.m 5 = .v (.int .i64 (k : Nat)) ∧ LI s s2 [.v (.string (bs nm)), .v (.int .u8 kd), .sl (gs.length + 1) (NC (g0 :: gs)), .sl V.length (NC V)] id ([sModel, nm, kw] ++ tlM g0 V gs k)) (gs.length + 1) ?_ ?_
      · refine ⟨0, id, by omega, by omega, ?_, ?_, ?_, ?_, hL⟩
        all_goals ((first | refine rn (cj rTI (cj @h1 (cj @q1 @q4))) ?_ | exact rn0 (cj rTI (cj @h1 (cj @q1 @q4)))))
        all_goals (first | trivial | rfl)
      · clear h1 q1 q4 hL gb
        rintro m e2 s2 ⟨k, id, rfl, hkk, h1, q1, q4, q5, hL⟩
        have gb := hL.b
        obtain ⟨o1, o2⟩ := hL.o
        have gl := hL.l
        have ll := sl_len ([sModel, nm, kw] ++ tlM g0 V gs k)
        have hb0 : ([sModel, nm, kw] ++ tlM g0 V gs k).length ≤ 100 := by
          have := tl_le g0 V gs k
          rw [List.length_append]
          show 3 + _ ≤ _
          omega
        by_cases hk2 : k < gs.length + 1
        · have f3 := nc_at (g0 :: gs) k hk2
          have f4 : 2 ≤ ((NC (g0 :: gs)).drop (k * 2)).length := by rw [List.length_drop, nc_len, List.length_cons]; omega
          have hp2 := rtext_ax ((g0 :: gs).getD k (0, 0)) (mem_valid hall.1 k hk2)
          unfold iv at f3
          refine go (cj rTI (cj @h1 (cj @q1 (cj @q5 @gb)))) ?_
          refine ifs ?_ ?_ <;> first | exact nope | intro hb
          refine aw_skip ?_
          cases k with
          | zero =>
            have hA := hL.app (s2.push [SV (textN g0)]) (Nat.le_succ _) (fun k hk => St.push_ne s2 _ _ (by omega)) [textN g0]
            rw [show (g0 :: gs).getD 0 (0, 0) = g0 from rfl] at f3 hp2
            rw [Nat.zero_mul, List.drop_zero] at f3 f4
            have hln : ([sModel, nm, kw] ++ tlM g0 V gs 1).length = ([sModel, nm, kw] ++ tlM g0 V gs 0).length + 1 := rfl
            have z0 : ((0 : Nat) : Int) = 0 := rfl
            generalize hLL0 : [sModel, nm, kw] ++ tlM g0 V gs 0 = L0 at *
            unfold NM SV at hp2
            unfold SV at hA
            rw [then_normal]
            refine aw_seq ?_
            refine aw_block ?_
            refine aw_seq ?_
            refine go (cj rTI (cj @h1 (cj @q5 @z0))) ?_
            refine ifs ?_ ?_ <;> first | exact nope | intro hb
            refine aw_skip ?_
            rw [then_normal]
            refine aw_reg fun K hK => ?_; refine rn (cj rTI (cj @h1 (cj @q1 (cj @q4 (cj @q5 (cj @z0 (cj @gb (cj @gl (cj @ll (cj @f3 @f4)))))))))) ?_; refine cont_pure hp2 ?_; refine rn (cj rTI (cj @h1 (cj @q1 (cj @q4 (cj @q5 (cj @z0 (cj @gb (cj @gl (cj @ll (cj @f3 @f4)))))))))) ?_; refine hK _ _ ?_; clear hK K
            refine go (cj rTI (cj @h1 (cj @q5 @z0))) ?_
            try simp only [block_normal, loop_normal]
            have hLL1 : [sModel, nm, kw] ++ tlM g0 V gs 1 = L0 ++ [textN g0] := by rw [← hLL0]; rfl
            refine ⟨gs.length + 1 - 1, by omega, 1, s2.nx + 1, rfl, by omega, ?_, ?_, ?_, ?_, by rw [hLL1]; exact hA⟩
            all_goals ((first | refine rn (cj rTI (cj @h1 (cj @q1 (cj @q4 @q5)))) ?_ | exact rn0 (cj rTI (cj @h1 (cj @q1 (cj @q4 @q5))))))
            all_goals (first | rfl | trivial | rw [hln])
          | succ j =>
            have f1 := nc_at V j (by omega)
            have f2 : 2 ≤ ((NC V).drop (j * 2)).length := by rw [List.length_drop, nc_len]; omega
            have hp := rtext_ax (V.getD j (0, 0)) (mem_valid hall.2 j (by omega))
            rw [List.getD_cons_succ] at f3 hp2
            have ht := zipM_take V gs j (by omega) (by omega)
            have hLL : [sModel, nm, kw] ++ tlM g0 V gs (j + 2) = ([sModel, nm, kw] ++ tlM g0 V gs (j + 1)) ++ [textN (V.getD j (0, 0))] ++ [textN (gs.getD j (0, 0))] := by
              show [sModel, nm, kw] ++ textN g0 :: zipM (V.take (j + 1)) (gs.take (j + 1)) = _
              rw [ht]
              show _ = ([sModel, nm, kw] ++ textN g0 :: zipM (V.take j) (gs.take j)) ++ _ ++ _
              simp
            have hj3 : ((j + 1 : Nat) : Int) - 1 = (j : Int) := by omega
            have hj4 : 0 < ((j + 1 : Nat) : Int) := by omega
            unfold iv at f1
            generalize V.getD j (0, 0) = n1 at *
            generalize gs.getD j (0, 0) = n2 at *
            generalize hLL0 : [sModel, nm, kw] ++ tlM g0 V gs (j + 1) = L0 at *
            have hA := hL.app (s2.push [SV (textN n1)]) (Nat.le_succ _) (fun k hk => St.push_ne s2 _ _ (by omega)) [textN n1]
            unfold NM SV at hp hp2
            rw [then_normal]
            refine aw_seq ?_
            refine aw_block ?_
            refine aw_seq ?_
            refine go (cj rTI (cj @h1 @q5)) ?_
            refine ifs ?_ ?_ <;> first | exact nope | intro hb
            refine aw_reg fun K hK => ?_; refine rn (cj rTI (cj @h1 (cj @q1 (cj @q4 (cj @q5 (cj @gb (cj @gl (cj @ll (cj @f1 (cj @f2 @hj3)))))))))) ?_; refine cont_pure hp ?_; refine rn (cj rTI (cj @h1 (cj @q1 (cj @q4 (cj @q5 (cj @gb (cj @gl (cj @ll (cj @f1 (cj @f2 @hj3)))))))))) ?_; refine hK _ _ ?_; clear hK K
            rw [then_normal]
            refine CardT.aw_gen (fun x => LI s x [.v (.string (bs nm)), .v (.int .u8 kd), .sl (gs.length + 1) (NC (g0 :: gs)), .sl V.length (NC V)] (s2.nx + 1) (L0 ++ [textN n1]) ∧ x.nx = s2.nx + 2) ⟨hA, rfl⟩ fun s3 h3 => ?_
            obtain ⟨hL3, hn3⟩ := h3
            have gb3 := hL3.b
            have gl3 := hL3.l
            have ll3 := sl_len (L0 ++ [textN n1])
            have hA3 := hL3.app (s3.push [SV (textN n2)]) (Nat.le_succ _) (fun k hk => St.push_ne s3 _ _ (by omega)) [textN n2]
            have hl3 : L0.length + 1 = (L0 ++ [textN n1]).length := by rw [List.length_append]; rfl
            have hl4 : (L0 ++ [textN n1]).length ≤ 101 := by omega
            have hl5 : (L0 ++ [textN n1] ++ [textN n2]).length = (L0 ++ [textN n1]).length + 1 := by rw [List.length_append]; rfl
            generalize L0 ++ [textN n1] = L1 at *
            unfold SV at hA3
            refine aw_reg fun K hK => ?_; refine rn (cj rTI (cj @h1 (cj @q1 (cj @q5 (cj @gb3 (cj @gl3 (cj @ll3 (cj @f3 (cj @f4 @hl3))))))))) ?_; refine cont_pure hp2 ?_; refine rn (cj rTI (cj @h1 (cj @q1 (cj @q5 (cj @gb3 (cj @gl3 (cj @ll3 (cj @f3 (cj @f4 @hl3))))))))) ?_; refine hK _ _ ?_; clear hK K
            refine go (cj rTI (cj @h1 @q5)) ?_
            try simp only [block_normal, loop_normal]
            refine ⟨gs.length + 1 - (j + 2), by omega, j + 2, s3.nx + 1, rfl, by omega, ?_, ?_, ?_, ?_, by rw [hLL]; exact hA3⟩
            all_goals ((first | refine rn (cj rTI (cj @h1 (cj @q1 (cj @q4 (cj @q5 @hl3))))) ?_ | exact rn0 (cj rTI (cj @h1 (cj @q1 (cj @q4 (cj @q5 @hl3)))))))
            all_goals (first | rfl | trivial | (rw [hLL, hl5]) | skip)
        · obtain rfl : k = gs.length + 1 := by omega
          have hgl : gs.length = V.length := by omega
          rw [show tlM g0 V gs (gs.length + 1) = textN g0 :: zipM (V.take gs.length) (gs.take gs.length) from rfl, hgl, List.take_length, ← hgl, List.take_length] at hL q4
          refine go (cj rTI (cj @h1 (cj @q1 (cj @q5 @gb)))) ?_
          refine ifs ?_ ?_ <;> first | exact nope | intro hb
          refine go (cj rTI (cj @h1 @q4)) ?_
          refine ⟨id, _, by omega, hL.l, ?_, hL.fr⟩
          show AV.tp [frz id _ (AV.own id 0 _ 1), AV.v (.int .i64 0)] = _
          rw [frz_SL]
          rfl
end Go.Proofs.YtfjelkjlfcafgaaGreatDoor.CardY
end
section
/- The laws' lent rows: a row in new memory with a mark behind it, and that it stayed whole; the document's decimals. -/
namespace Go.Proofs.YtfjelkjlfcafgaaGreatDoor.CardAE
open Go Go.RowKit Ax Ti NumS NumT CardS CardP CardA CardB CardC CardD CardE CardF CardG CardH CardR
set_option linter.unusedSimpArgs false
set_option linter.unusedVariables false
set_option maxRecDepth 4000
set_option maxHeartbeats 2000000
theorem rTI : type_of% (cj @ti3 (cj @ti4 (cj @ti9 (cj @ti5 (cj @ti2 (cj @ti36 (cj @Nat.zero_add (cj @tz0 (cj @tz1 (cj @tz3 (cj @Nat.mul_one @Int.toNat_natCast))))))))))) := cj @ti3 (cj @ti4 (cj @ti9 (cj @ti5 (cj @ti2 (cj @ti36 (cj @Nat.zero_add (cj @tz0 (cj @tz1 (cj @tz3 (cj @Nat.mul_one @Int.toNat_natCast))))))))))
theorem slc_le (n m sz : Nat) (c : List AV) : Le (.slc n m sz c) (.sl n (c.take (n * sz))) := fun k u h => by
  cases h with
  | slc _ _ _ cap _ a us hn hm hl h1 h2 =>
    refine .sl n cap _ a us (Nat.le_trans hn hm) (fun j hj => h1 j ?_) (fun j z hz => h2 j z ?_)
    · rw [List.length_take] at hj
      omega
    · rw [List.getElem?_take] at hz
      split at hz
      · exact hz
      · cases hz
def LT (l : List Str) : AV := .slc l.length (l.length + 1) 1 (SL (l ++ [[33]]))
theorem lt_le (l : List Str) : Le (LT l) (TV l) := by
  have h := slc_le l.length (l.length + 1) 1 (SL (l ++ [[33]]))
  have e : (SL (l ++ [[33]])).take (l.length * 1) = SL l := by
    rw [Nat.mul_one, show SL (l ++ [[33]]) = SL l ++ SL [[33]] from List.map_append, List.take_append_of_le_length (by rw [sl_len]; exact Nat.le_refl _), ← sl_len, List.take_length]
  rw [e] at h
  exact h
theorem lent_ax (l : List Str) (hl : (l.length + 1) * 16 ≤ 140737488355328) : PCall Tryz.prog 30 [TV l] (LT l) := by
  refine pcall_of fun s => ?_
  refine acall_layc ?_
  have e1 := sl_len l
  have e2 := sl_take l
  have e3 := sl_one l
  unfold TV
  refine acall_of Tryz.func30 rfl rfl (by simp [Tryz.ntmps30]) ?_; rw [Tryz.ntmps30, Tryz.results30]
  have e0 : ([] : List AV) ++ SL l = SL l := rfl
  refine go (cj rTI (cj @e0 (cj @e1 (cj @e2 @e3)))) ?_
  refine ⟨s.nx + 1 + 1 + 1, _, fun _ => false, l.length, l.length + 1, 1, if_pos rfl, by rw [Nat.sub_zero], ?_, ?_, by omega, ?_, tv_idf (l ++ [[33]]), fun i hi => ?_⟩
  · rw [List.length_append, e1, Nat.mul_one]
    rfl
  · rw [List.length_append]
    exact Nat.succ_pos _
  · unfold LT
    rw [show SL (l ++ [[33]]) = SL l ++ SL [[33]] from List.map_append]
    rfl
  · rw [if_neg (by omega), if_neg Bool.false_ne_true, if_neg (by omega), if_neg (by omega), if_neg (by omega), if_neg (by omega)]
theorem lt_args (l : List Str) (j : Nat) (x y : AV) (hx : [LT l, TV l][j]? = some x) (hy : [TV l, TV l][j]? = some y) : Le x y := by
  match j with
  | 0 => simp at hx hy; subst hx hy; exact lt_le l
  | 1 => simp at hx hy; subst hx hy; exact Le.refl _
  | j + 2 => simp at hx
theorem acall_args {P : Program} {f : FuncId} {zs zs' : List AV} {s : St} {R : AV → St → Prop} (hl : zs'.length = zs.length) (hz : ∀ (j : Nat) (x y : AV), zs[j]? = some x → zs'[j]? = some y → Le x y) (h : ACall P f zs' s R) : ACall P f zs s R :=
  ⟨h.1, fun w0 k w vs hs hv => h.2 w0 k w vs hs ⟨hv.1.trans hl.symm, fun j z u hz' hu => by
    have hj : j < zs.length := by rw [← hl]; exact (List.getElem?_eq_some_iff.1 hz').1
    exact hz j _ z (List.getElem?_eq_getElem hj) hz' k u (hv.2 j _ u (List.getElem?_eq_getElem hj) hu)⟩⟩
theorem whole_ax (l : List Str) (hb' : BL l) (hl : l.length ≤ 281474976710656) : PCall Tryz.prog 34 [LT l, TV l] (.v (.bool true)) := by
  refine pcall_of fun s => ?_
  have p1 := texts_ax l l hb' hb' (by omega) (by omega)
  rw [decide_eq_true rfl] at p1
  have h1 := lt_args l
  have f1 : ((SL (l ++ [[33]])).drop l.length).head? = some (.v (.string (ByteArray.mk #[33]))) := by
    rw [show SL (l ++ [[33]]) = SL l ++ SL [[33]] from List.map_append, List.drop_append_of_le_length (by rw [sl_len]; exact Nat.le_refl _), ← sl_len, List.drop_length]
    rfl
  have f2 : (SL (l ++ [[33]])).length = l.length + 1 := by rw [sl_len, List.length_append]; rfl
  have f3 : (SL (l ++ [[33]])).take (l.length + 1) = SL (l ++ [[33]]) := by rw [← f2, List.take_length]
  have f4 : (SL (l ++ [[33]])).take (l.length + 1 - 0) = SL (l ++ [[33]]) := f3
  unfold LT TV at *
  refine acall_of Tryz.func34 rfl rfl (by simp [Tryz.ntmps34]) ?_; rw [Tryz.ntmps34, Tryz.results34]
  refine go rTI ?_
  refine aw_reg fun K hK => ?_
  refine rn (cj rTI (cj @f1 (cj @f2 @f3))) ?_
  refine acall_args (zs' := [.sl l.length (SL l), .sl l.length (SL l)]) rfl h1 ?_
  refine cont_pure p1 ?_
  refine rn (cj rTI (cj @f1 (cj @f2 (cj @f3 @f4)))) ?_
  refine hK _ _ ?_
  clear hK K
  exact go0 rTI
end Go.Proofs.YtfjelkjlfcafgaaGreatDoor.CardAE
end
section
/- The document on models: ReadModel. (Made by gen_cardag.py.) -/
namespace Go.Proofs.YtfjelkjlfcafgaaGreatDoor.CardAG
open Go Go.RowKit Ax Ti NumS NumT CardS CardP CardA CardB CardC CardD CardE CardF CardG CardH CardI CardJ CardK CardL CardN CardT
open NumA (NM)
open NumW (parseV)
set_option linter.unusedSimpArgs false
set_option linter.unusedVariables false
set_option maxRecDepth 4000
set_option maxHeartbeats 2000000
theorem rTI : type_of% (cj @ti3 (cj @ti4 (cj @ti9 (cj @ti5 (cj @ti2 (cj @ti36 (cj @ti63 (cj @ti62 (cj @ti24 (cj @ti82 (cj @Nat.zero_add (cj @tz0 (cj @tz1 (cj @tz3 (cj @Nat.mul_one @Int.toNat_natCast))))))))))))))) := cj @ti3 (cj @ti4 (cj @ti9 (cj @ti5 (cj @ti2 (cj @ti36 (cj @ti63 (cj @ti62 (cj @ti24 (cj @ti82 (cj @Nat.zero_add (cj @tz0 (cj @tz1 (cj @tz3 (cj @Nat.mul_one @Int.toNat_natCast))))))))))))))
theorem ec_cons : ∀ (x : Str) (q : List Str), evens (x :: q) = x :: odds q ∧ odds (x :: q) = evens q
  | x, [] => ⟨rfl, rfl⟩
  | x, [y] => ⟨rfl, rfl⟩
  | x, y :: z :: t => by
    obtain ⟨h1, h2⟩ := ec_cons z t
    exact ⟨by show x :: evens (z :: t) = x :: z :: odds t; rw [h1], by show y :: odds (z :: t) = y :: evens t; rw [h2]⟩
theorem numsE_stop (q : List Str) (e : Int) (h : e ≠ 0) : numsE q e = e := by
  induction q generalizing e with
  | nil => rfl
  | cons w q ih =>
    show numsE q (numE w e) = e
    have : numE w e = e := if_neg h
    rw [this]
    exact ih e h
structure MJ (s s' : St) (bm iG iV : Nat) (nm : Str) (kd : Int) (G V : List Num) : Prop where
  b : s'.get bm = some [SV nm, .v (.int .u8 kd), .own iG 0 G.length 2, .own iV 0 V.length 2]
  g : s'.get iG = some (NC G)
  v : s'.get iV = some (NC V)
  z : s'.get s.nx = some mz
  o : s.nx < bm ∧ s.nx < iG ∧ s.nx < iV ∧ bm < s'.nx ∧ iG < s'.nx ∧ iV < s'.nx ∧ bm ≠ iG ∧ bm ≠ iV ∧ iG ≠ iV
  fr : ∀ k, k < s.nx → s'.get k = s.get k
theorem MJ.more {s s' : St} {bm iG iV : Nat} {nm : Str} {kd : Int} {G V : List Num} (h : MJ s s' bm iG iV nm kd G V) (s1 : St) (hn : s'.nx ≤ s1.nx) (hg : ∀ k, k < s'.nx → s1.get k = s'.get k) : MJ s s1 bm iG iV nm kd G V := by
  obtain ⟨o1, o2, o3, o4, o5, o6, o7, o8, o9⟩ := h.o
  exact ⟨(hg _ o4).trans h.b, (hg _ o5).trans h.g, (hg _ o6).trans h.v, (hg _ (by omega)).trans h.z, ⟨o1, o2, o3, by omega, by omega, by omega, o7, o8, o9⟩, fun k hk => (hg _ (by omega)).trans (h.fr k hk)⟩
theorem MJ.gg {s s' : St} {bm iG iV : Nat} {nm : Str} {kd : Int} {G V : List Num} (h : MJ s s' bm iG iV nm kd G V) (n : Num) :
    MJ s (((s'.kill iG).push (NC G ++ [iv n.1, iv n.2])).set bm [SV nm, .v (.int .u8 kd), .own s'.nx 0 (G.length + 1) 2, .own iV 0 V.length 2]) bm s'.nx iV nm kd (G ++ [n]) V := by
  obtain ⟨o1, o2, o3, o4, o5, o6, o7, o8, o9⟩ := h.o
  have hg : ∀ k c, k ≠ bm → k ≠ s'.nx → k ≠ iG → s'.get k = c → (((s'.kill iG).push (NC G ++ [iv n.1, iv n.2])).set bm [SV nm, .v (.int .u8 kd), .own s'.nx 0 (G.length + 1) 2, .own iV 0 V.length 2]).get k = c := fun k c h1 h2 h3 h4 => by
    rw [St.set_ne _ _ _ _ h1, St.push_ne (s'.kill iG) _ _ h2, St.kill_ne _ _ _ h3]
    exact h4
  refine ⟨?_, ?_, hg _ _ (by omega) (by omega) (by omega) h.v, hg _ _ (by omega) (by omega) (by omega) h.z, ⟨o1, by omega, o3, by show bm < s'.nx + 1; omega, Nat.lt_succ_self _, by show iV < s'.nx + 1; omega, by omega, o8, by omega⟩, fun k hk => hg _ _ (by omega) (by omega) (by omega) (h.fr k hk)⟩
  · rw [St.set_same, List.length_append]
    rfl
  · rw [St.set_ne _ _ _ _ (by omega), nc_app]
    exact St.push_same _ _
theorem MJ.vv {s s' : St} {bm iG iV : Nat} {nm : Str} {kd : Int} {G V : List Num} (h : MJ s s' bm iG iV nm kd G V) (n : Num) :
    MJ s (((s'.kill iV).push (NC V ++ [iv n.1, iv n.2])).set bm [SV nm, .v (.int .u8 kd), .own iG 0 G.length 2, .own s'.nx 0 (V.length + 1) 2]) bm iG s'.nx nm kd G (V ++ [n]) := by
  obtain ⟨o1, o2, o3, o4, o5, o6, o7, o8, o9⟩ := h.o
  have hg : ∀ k c, k ≠ bm → k ≠ s'.nx → k ≠ iV → s'.get k = c → (((s'.kill iV).push (NC V ++ [iv n.1, iv n.2])).set bm [SV nm, .v (.int .u8 kd), .own iG 0 G.length 2, .own s'.nx 0 (V.length + 1) 2]).get k = c := fun k c h1 h2 h3 h4 => by
    rw [St.set_ne _ _ _ _ h1, St.push_ne (s'.kill iV) _ _ h2, St.kill_ne _ _ _ h3]
    exact h4
  refine ⟨?_, hg _ _ (by omega) (by omega) (by omega) h.g, ?_, hg _ _ (by omega) (by omega) (by omega) h.z, ⟨o1, o2, by omega, by show bm < s'.nx + 1; omega, by show iG < s'.nx + 1; omega, Nat.lt_succ_self _, o7, by omega, by omega⟩, fun k hk => hg _ _ (by omega) (by omega) (by omega) (h.fr k hk)⟩
  · rw [St.set_same, List.length_append]
    rfl
  · rw [St.set_ne _ _ _ _ (by omega), nc_app]
    exact St.push_same _ _
theorem MJ.lay {P : Program} {code : Code} {m0 : Nat} {e : Env} {Q : Exit → Env → St → Prop} {s s' : St} {bm iG iV : Nat} {nm : Str} {kd : Int} {G V : List Num} (h : MJ s s' bm iG iV nm kd G V)
    (k : ∀ e' s'', e'.n = e.n → (∀ t, e'.m t = frz iV (NC V) (frz iG (NC G) (e.m t))) → s''.get bm = some [SV nm, .v (.int .u8 kd), .sl G.length (NC G), .sl V.length (NC V)] → s''.get s.nx = some mz → (∀ k, k < s.nx → s''.get k = s.get k) → AW P code m0 e' s'' Q) : AW P code m0 e s' Q := by
  obtain ⟨o1, o2, o3, o4, o5, o6, o7, o8, o9⟩ := h.o
  have e1 : (NC G).take (G.length * 2) = NC G := by rw [← nc_len, List.take_length]
  have e2 : (NC V).take (V.length * 2) = NC V := by rw [← nc_len, List.take_length]
  have e3 : frz.frzL iV (NC V) (NC G) = NC G := by
    apply List.ext_getElem?
    intro q
    rw [frzL_get]
    cases h : (NC G)[q]? with
    | none => rfl
    | some z =>
      rw [Option.map_some, frz_idf]
      exact (idfL_iff _).1 (nc_idf G) z (List.mem_of_getElem? h)
  refine aw_freeze2 iG (NC G) h.g (fun i => i == bm) fun e7 s7 f1 f2 f3 f4 => ?_
  have g7 : ∀ k c, k ≠ iG → k ≠ bm → s'.get k = c → s7.get k = c := fun k c q1 q2 q3 => by
    rw [f4, if_neg q1, if_neg (by simpa using q2)]
    exact q3
  have b7 : s7.get bm = some [SV nm, .v (.int .u8 kd), .sl G.length (NC G), .own iV 0 V.length 2] := by
    rw [f4, if_neg o7, if_pos (by simp), h.b, Option.map_some]
    have e4 : ¬ iV = iG := fun q => o9 q.symm
    simp only [frz, frz.frzL, SV, if_true, if_neg e4, List.drop_zero, e1]
  refine aw_freeze2 iV (NC V) (g7 _ _ (fun q => o9 q.symm) (fun q => o8 q.symm) h.v) (fun i => i == bm) fun e8 s8 f5 f6 f7 f8 => ?_
  have g8 : ∀ k c, k ≠ iV → k ≠ bm → s7.get k = c → s8.get k = c := fun k c q1 q2 q3 => by
    rw [f8, if_neg q1, if_neg (by simpa using q2)]
    exact q3
  refine k e8 s8 (f5.trans f1) (fun t => by rw [f6, f2]) ?_ (g8 _ _ (by omega) (by omega) (g7 _ _ (by omega) (by omega) h.z)) fun k hk => g8 _ _ (by omega) (by omega) (g7 _ _ (by omega) (by omega) (h.fr k hk))
  rw [f8, if_neg o8, if_pos (by simp), b7, Option.map_some]
  simp only [frz, frz.frzL, SV, if_true, List.drop_zero, e2, e3]
theorem MJ.init (s : St) (nm : Str) (kd : Int) (s1 s2 s3 : St) (h1 : s1 = ((s.push mz).push mz).set (s.nx + 1) [SV nm, .v (.int .u8 kd), nilS, nilS])
    (h2 : s2 = (s1.push []).set (s.nx + 1) ([SV nm, .v (.int .u8 kd), nilS, nilS].set 2 (.own s1.nx 0 0 2))) (h3 : s3 = (s2.push []).set (s.nx + 1) (([SV nm, .v (.int .u8 kd), nilS, nilS].set 2 (.own s1.nx 0 0 2)).set 3 (.own s2.nx 0 0 2))) :
    MJ s s3 (s.nx + 1) (s.nx + 2) (s.nx + 3) nm kd [] [] := by
  have n1 : s1.nx = s.nx + 2 := by rw [h1]; rfl
  have n2 : s2.nx = s.nx + 3 := by rw [h2]; show s1.nx + 1 = _; omega
  have n3 : s3.nx = s.nx + 4 := by rw [h3]; show s2.nx + 1 = _; omega
  have hg : ∀ k c, k ≠ s.nx + 1 → k ≠ s.nx + 2 → k ≠ s.nx + 3 → (s.push mz).get k = c → s3.get k = c := fun k c q1 q2 q3 q4 => by
    rw [h3, St.set_ne _ _ _ _ q1, St.push_ne s2 _ _ (by omega), h2, St.set_ne _ _ _ _ q1, St.push_ne s1 _ _ (by omega), h1, St.set_ne _ _ _ _ q1, St.push_ne (s.push mz) _ _ (show k ≠ s.nx + 1 from q1)]
    exact q4
  refine ⟨?_, ?_, ?_, hg _ _ (by omega) (by omega) (by omega) (St.push_same s mz), ⟨by omega, by omega, by omega, by omega, by omega, by omega, by omega, by omega, by omega⟩, fun k hk => hg _ _ (by omega) (by omega) (by omega) (St.push_ne s _ _ (by omega))⟩
  · rw [h3, St.set_same, n1, n2]
    rfl
  · rw [h3, St.set_ne _ _ _ _ (by omega), St.push_ne s2 _ _ (by omega), h2, St.set_ne _ _ _ _ (by omega)]
    have := St.push_same s1 []
    rw [n1] at this
    exact this
  · rw [h3, St.set_ne _ _ _ _ (by omega)]
    have := St.push_same s2 []
    rw [n2] at this
    exact this
theorem readMr_ax (ws : List Str) (hw : BL ws) (hwl : ∀ w ∈ ws, w.length ≤ 281474976710656) (hl : ws.length ≤ 9223372036854775807) : PCall Tryz.prog 43 [TV ws] (RB (readM ws)) := by
  refine pcall_le fun s => ?_
  have hno : ¬ (4 ≤ ws.length ∧ ws.getD 0 [] = sModel ∧ (ws.getD 2 [] = [100] ∨ ws.getD 2 [] = [115]) ∧ ws.length % 2 = 0 ∧ ws.length ≤ 10 ∧ (ws.getD 2 [] = [115] → ws.length = 6)) → readM ws = (mdl0, 70) := fun q => by
    unfold readM
    simp only
    rw [if_neg q]
  unfold TV
  by_cases q0 : ws.length < 4
  · rw [hno (fun h => by omega)]
    refine acall_of Tryz.func43 rfl rfl (by simp [Tryz.ntmps43]) ?_; rw [Tryz.ntmps43, Tryz.results43]
    refine go rTI ?_
    refine ifs ?_ ?_ <;> first | exact nope | intro hb
    refine go rTI ?_
    exact ⟨rb_err 70, rb_idf _, fun i hi => if_neg (by omega)⟩
  · have i0 := hd_SL ws 0 (by omega)
    have i1 := hd_SL ws 1 (by omega)
    have i2 := hd_SL ws 2 (by omega)
    rw [List.drop_zero] at i0
    have b0 := bl_at ws hw 0
    have b1 := bl_at ws hw 1
    have b2 := bl_at ws hw 2
    have e1 := str_ne (ws.getD 0 []) sModel b0 (by_lit _ rfl)
    have e2 := str_ne (ws.getD 2 []) [100] b2 (by_lit _ rfl)
    have e3 := str_ne (ws.getD 2 []) [115] b2 (by_lit _ rfl)
    have e4 := str_eq (ws.getD 2 []) [115] b2 (by_lit _ rfl)
    rw [show bs sModel = ByteArray.mk #[46, 109, 111, 100, 101, 108] from rfl] at e1
    rw [show bs [100] = ByteArray.mk #[100] from rfl] at e2
    rw [show bs [115] = ByteArray.mk #[115] from rfl] at e3 e4
    have t2 : Int.toNat 2 = 2 := rfl
    unfold SV at i0 i1 i2
    by_cases hc : (4 ≤ ws.length ∧ ws.getD 0 [] = sModel ∧ (ws.getD 2 [] = [100] ∨ ws.getD 2 [] = [115]) ∧ ws.length % 2 = 0 ∧ ws.length ≤ 10 ∧ (ws.getD 2 [] = [115] → ws.length = 6))
    · have hrd : readM ws = if isName (ws.getD 1 []) = true then (if numsE (ws.drop 3) 0 ≠ 0 then (mdl0, numsE (ws.drop 3) 0) else if modelOk ⟨ws.getD 1 [], ((ws.getD 2 []).getD 0 0 : Nat), (evens (ws.drop 3)).map numV, (odds (ws.drop 3)).map numV⟩ = true then (⟨ws.getD 1 [], ((ws.getD 2 []).getD 0 0 : Nat), (evens (ws.drop 3)).map numV, (odds (ws.drop 3)).map numV⟩, 0) else (mdl0, 50)) else (mdl0, 71) := by
        unfold readM
        simp only
        rw [if_pos hc]
      rw [hrd]
      clear hrd hno
      obtain ⟨c0, c1, c2, c3, c4, c5⟩ := hc
      refine acall_of Tryz.func43 rfl rfl (by simp [Tryz.ntmps43]) ?_; rw [Tryz.ntmps43, Tryz.results43]
      refine go rTI ?_
      have e5 := str_eq (ws.getD 2 []) [100] b2 (by_lit _ rfl)
      rw [show bs [100] = ByteArray.mk #[100] from rfl] at e5
      have i2' := i2
      refine aw_only (fun e' s' => e'.n = 114 ∧ e'.m 0 = .sl ws.length (SL ws) ∧ e'.m 2 = .ptr s.nx 0 ∧ e'.m 4 = .v (.int .i64 (ws.length : Nat)) ∧ e'.m 30 = .v (.bool false) ∧ s' = s.push [.v (.string ByteArray.empty), .v (.int .u8 0), .v (.slice none 0 0), .v (.slice none 0 0)]) ?_ ?_
      · clear e4 e5 i2'
        rw [decide_eq_true c1] at e1
        rcases c2 with c2 | c2
        · rw [c2, decide_eq_true rfl] at e2
          rw [c2] at i2
          refine go (cj rTI (cj @i0 (cj @i2 (cj @t2 (cj @e1 @e2))))) ?_
          (repeat' refine And.intro ?_ ?_) <;> first | exact rfl | exact fnz rTI | skip
          all_goals (first | rfl | trivial)
        · rw [c2, decide_eq_true rfl] at e3
          rw [c2, decide_eq_false (by decide)] at e2
          rw [c2] at i2
          refine go (cj rTI (cj @i0 (cj @i2 (cj @t2 (cj @e1 (cj @e2 @e3)))))) ?_
          (repeat' refine And.intro ?_ ?_) <;> first | exact rfl | exact fnz rTI | skip
          all_goals (first | rfl | trivial)
      · clear e1 e2 e3
        rintro e0 s0 ⟨h1, k0, k2, k4, k30, rfl⟩
        rw [then_normal]
        refine aw_cond (b := false) k30 (fun h => by cases h) (fun _ => ?_)
        refine aw_skip ?_
        rw [then_normal]
        refine aw_seq ?_
        refine aw_seq ?_
        refine aw_only (fun e' s' => e'.n = 114 ∧ e'.m 0 = .sl ws.length (SL ws) ∧ e'.m 2 = .ptr s.nx 0 ∧ e'.m 4 = .v (.int .i64 (ws.length : Nat)) ∧ e'.m 61 = .v (.bool false) ∧ s' = s.push [.v (.string ByteArray.empty), .v (.int .u8 0), .v (.slice none 0 0), .v (.slice none 0 0)]) ?_ ?_
        · rcases c2 with c2 | c2
          · rw [c2, decide_eq_true rfl] at e5
            rw [c2, decide_eq_false (by decide)] at e4
            rw [c2] at i2
            rcases (by omega : (ws.length : Int) = 4 ∨ (ws.length : Int) = 6 ∨ (ws.length : Int) = 8 ∨ (ws.length : Int) = 10) with n4 | n4 | n4 | n4
            · refine go (cj rTI (cj @h1 (cj @k0 (cj @k4 (cj @i2 (cj @t2 (cj @e4 (cj @e5 @n4)))))))) ?_
              (repeat' refine And.intro ?_ ?_) <;> first | exact rfl | exact fnz (cj rTI (cj @h1 (cj @k0 (cj @k2 @k4)))) | skip
              all_goals (first | rfl | trivial | rw [n4])
            · refine go (cj rTI (cj @h1 (cj @k0 (cj @k4 (cj @i2 (cj @t2 (cj @e4 (cj @e5 @n4)))))))) ?_
              (repeat' refine And.intro ?_ ?_) <;> first | exact rfl | exact fnz (cj rTI (cj @h1 (cj @k0 (cj @k2 @k4)))) | skip
              all_goals (first | rfl | trivial | rw [n4])
            · refine go (cj rTI (cj @h1 (cj @k0 (cj @k4 (cj @i2 (cj @t2 (cj @e4 (cj @e5 @n4)))))))) ?_
              (repeat' refine And.intro ?_ ?_) <;> first | exact rfl | exact fnz (cj rTI (cj @h1 (cj @k0 (cj @k2 @k4)))) | skip
              all_goals (first | rfl | trivial | rw [n4])
            · refine go (cj rTI (cj @h1 (cj @k0 (cj @k4 (cj @i2 (cj @t2 (cj @e4 (cj @e5 @n4)))))))) ?_
              (repeat' refine And.intro ?_ ?_) <;> first | exact rfl | exact fnz (cj rTI (cj @h1 (cj @k0 (cj @k2 @k4)))) | skip
              all_goals (first | rfl | trivial | rw [n4])
          · have n4 : (ws.length : Int) = 6 := by have := c5 c2; omega
            rw [c2, decide_eq_true rfl] at e4
            rw [c2, decide_eq_false (by decide)] at e5
            rw [c2] at i2
            refine go (cj rTI (cj @h1 (cj @k0 (cj @k4 (cj @i2 (cj @t2 (cj @e4 (cj @e5 @n4)))))))) ?_
            (repeat' refine And.intro ?_ ?_) <;> first | exact rfl | exact fnz (cj rTI (cj @h1 (cj @k0 (cj @k2 @k4)))) | skip
            all_goals (first | rfl | trivial | rw [n4])
        · obtain ⟨kd, hkd, hkb⟩ : ∃ kd, ws.getD 2 [] = [kd] ∧ kd < 256 := by
            rcases c2 with c2 | c2
            · exact ⟨100, c2, by decide⟩
            · exact ⟨115, c2, by decide⟩
          rw [hkd] at i2' b2 ⊢
          have lS := bs_size [kd]
          have hg := bs_get [kd] b2 0
          rw [show ([kd] : Str).getD 0 0 = kd from rfl] at hg ⊢
          rw [show ([kd] : Str).length = 1 from rfl] at lS
          have hDl : (ws.drop 3).length = ws.length - 3 := List.length_drop
          have hnl : (ws.getD 1 []).length ≤ 281474976710656 := by
            rw [List.getD_eq_getElem?_getD, List.getElem?_eq_getElem (show 1 < ws.length by omega)]
            exact hwl _ (List.getElem_mem _)
          have hnm := rname_ax (ws.getD 1 []) b1 (by omega)
          clear e4 e5 c1 c2 c3 c5 i0 k30 k0 k2 k4 h1
          rintro e' s' ⟨h1, k0, k2, k4, k61, rfl⟩
          rw [then_normal]
          refine aw_cond (b := false) k61 (fun h => by cases h) (fun _ => ?_)
          refine aw_skip ?_
          rw [then_normal]
          generalize ws.getD 1 [] = nm at *
          have t1 : Int.toNat 1 = 1 := rfl
          unfold SV at hnm
          refine aw_seq ?_
          refine aw_seq ?_
          cases hn : isName nm with
          | false =>
            rw [hn] at hnm
            rw [if_neg Bool.false_ne_true]
            refine aw_reg fun K hK => ?_; refine rn (cj rTI (cj @h1 (cj @k0 (cj @i1 @t1)))) ?_; refine cont_pure hnm ?_; refine rn (cj rTI (cj @h1 (cj @k0 (cj @i1 @t1)))) ?_; refine hK _ _ ?_; clear hK K
            refine ifs ?_ ?_ <;> first | exact nope | intro hb
            refine go (cj rTI (cj @h1 @k2)) ?_
            exact ⟨rb_err 71, rb_idf _, fun i hi => by rw [if_neg (by omega)]⟩
          | true =>
            rw [hn] at hnm
            rw [if_pos rfl]
            refine aw_reg fun K hK => ?_; refine rn (cj rTI (cj @h1 (cj @k0 (cj @i1 @t1)))) ?_; refine cont_pure hnm ?_; refine rn (cj rTI (cj @h1 (cj @k0 (cj @i1 @t1)))) ?_; refine hK _ _ ?_; clear hK K
            refine ifs ?_ ?_ <;> first | exact nope | intro hb
            refine aw_skip ?_
            rw [then_normal]
            refine aw_seq ?_
            refine aw_drw (.take 0 (.take 1 (.take 2 (.take 3 (.take 4 (.take 5 (.take 6 (.take 7 (.one 8 (.one 9 (.done))))))))))) [] (by kernel_rfl) (by kernel_rfl) fun K hK => ?_; refine dr (cj rTI (cj @h1 (cj @k0 (cj @i1 (cj @i2' (cj @t1 (cj @t2 (cj @lS @hg)))))))) ?_; refine hK _ _ ?_; clear hK K
            rw [then_normal]
            refine aw_nil_box (s.nx + 1) 2 2 [.v (.string (bs nm)), .v (.int .u8 (kd : Nat)), .v (.slice none 0 0), .v (.slice none 0 0)] (St.set_same _ _ _) rfl ?_
            refine aw_nil_box (s.nx + 1) 3 2 _ (St.set_same _ _ _) rfl ?_
            have hM := MJ.init s nm kd _ _ _ rfl rfl rfl
            refine CardT.aw_gen (fun x => MJ s x (s.nx + 1) (s.nx + 2) (s.nx + 3) nm kd [] []) hM fun s4 hM => ?_
            clear i1 i2' hnm lS hg t1 t2 k61
            refine go (cj rTI @h1) ?_
            have hbD : ∀ j, By (ws.getD (j + 3) []) := fun j => bl_at ws hw (j + 3)
            generalize hD : ws.drop 3 = D at *
            have hcons : ∀ j, j < D.length → D.drop j = ws.getD (j + 3) [] :: D.drop (j + 1) := fun j hj => by
              have hj2 : j + 3 < ws.length := by omega
              rw [List.drop_eq_getElem_cons hj]
              congr 1
              rw [List.getD_eq_getElem?_getD, List.getElem?_eq_getElem hj2, Option.getD_some]
              subst hD
              rw [List.getElem_drop]
              congr 1
              omega
            refine aw_loop (fun m e2 s2 => ∃ j G V iG iV, m = D.length - j ∧ j ≤ D.length ∧ e2.n = 114 ∧ e2.m 0 = .sl ws.length (SL ws) ∧ e2.m 2 = .ptr s.nx 0 ∧ e2.m 4 = .v (.int .i64 (ws.length : Nat)) ∧ e2.m 5 = .ptr (s.nx + 1) 0 ∧ e2.m 6 = .v (.int .i64 ((j : Int) + 3)) ∧ MJ s s2 (s.nx + 1) iG iV nm kd G V ∧ numsE D 0 = numsE (D.drop j) 0 ∧
              (j % 2 = 0 → (evens D).map numV = G ++ (evens (D.drop j)).map numV ∧ (odds D).map numV = V ++ (odds (D.drop j)).map numV) ∧ (j % 2 = 1 → (evens D).map numV = G ++ (odds (D.drop j)).map numV ∧ (odds D).map numV = V ++ (evens (D.drop j)).map numV) ∧ G.length ≤ j ∧ V.length ≤ j) D.length ?_ ?_
            · refine ⟨0, [], [], s.nx + 2, s.nx + 3, by omega, by omega, ?_, ?_, ?_, ?_, ?_, ?_, hM, rfl, fun _ => ⟨rfl, rfl⟩, fun h => by omega, Nat.le_refl _, Nat.le_refl _⟩
              all_goals ((first | refine rn (cj rTI (cj @h1 (cj @k0 (cj @k2 @k4)))) ?_ | exact rn0 (cj rTI (cj @h1 (cj @k0 (cj @k2 @k4))))))
              all_goals (first | rfl | trivial)
            · clear h1 k0 k2 k4 hM
              rintro m e2 s2 ⟨j, G, V, iG, iV, rfl, hj, h1, k0, k2, k4, k5, k6, hM, hE, hev, hod, hGl, hVl⟩
              by_cases hj2 : j < D.length
              · have f1 := hd_SL ws (j + 3) (by omega)
                have hp := NumE.parseD_any (ws.getD (j + 3) []) (hbD j)
                rw [hcons j hj2] at hE hev hod
                have hj4 : ((j : Int) + 3).toNat = j + 3 := by omega
                have hj5 : (j : Int) + 3 < (ws.length : Int) := by omega
                have hE2 : numsE (ws.getD (j + 3) [] :: D.drop (j + 1)) 0 = numsE (D.drop (j + 1)) (parseS (ws.getD (j + 3) [])).2.2 := rfl
                have hnv : numV (ws.getD (j + 3) []) = ((parseS (ws.getD (j + 3) [])).1, (parseS (ws.getD (j + 3) [])).2.1) := rfl
                obtain ⟨q1, q2⟩ := ec_cons (ws.getD (j + 3) []) (D.drop (j + 1))
                rw [q1, q2] at hev hod
                rw [hE2] at hE
                rw [List.map_cons, hnv] at hev hod
                unfold parseV at hp
                unfold SV at f1
                generalize parseS (ws.getD (j + 3) []) = pw at *
                obtain ⟨pm, px, pe⟩ := pw
                simp only at hp hE hev hod
                obtain ⟨o1, o2, o3, o4, o5, o6, o7, o8, o9⟩ := hM.o
                unfold NM at hp
                refine go (cj rTI (cj @h1 (cj @k4 @k6))) ?_
                refine ifs ?_ ?_ <;> first | exact nope | intro hb
                refine aw_skip ?_
                refine go rTI ?_
                refine aw_reg fun K hK => ?_; refine rn (cj rTI (cj @h1 (cj @k0 (cj @k6 (cj @f1 @hj4))))) ?_; refine cont_pure hp ?_; refine rn (cj rTI (cj @h1 (cj @k0 (cj @k6 (cj @f1 @hj4))))) ?_; refine hK _ _ ?_; clear hK K
                refine CardT.aw_gen (fun x => MJ s x (s.nx + 1) iG iV nm kd G V ∧ x.get s2.nx = some [iv pm, iv px] ∧ s2.nx < x.nx) ⟨hM.more _ (Nat.le_succ _) (fun k hk => by rw [St.set_ne _ _ _ _ (by omega), St.push_ne s2 _ _ (by omega)]), St.set_same _ _ _, Nat.lt_succ_self _⟩ fun s3 h3 => ?_
                obtain ⟨hM3, g7, hn3⟩ := h3
                have gb := hM3.b
                have gz := hM3.z
                unfold mz nilS at gz
                unfold iv at g7
                by_cases he : pe = 0
                · subst he
                  refine go (cj rTI @h1) ?_
                  refine ifs ?_ ?_ <;> first | exact nope | intro hb
                  by_cases hpar : j % 2 = 0
                  · have hm1 : ((j : Int) + 3) % 2 = 1 := by omega
                    obtain ⟨a1, a2⟩ := hev hpar
                    have gq := hM3.g
                    have nl := nc_len G
                    have hMM := (hM3.more (s3.push [iv pm, iv px]) (Nat.le_succ _) (fun k hk => St.push_ne s3 _ _ (by omega))).gg (pm, px)
                    unfold SV iv at hMM
                    unfold iv at gq
                    refine go (cj rTI (cj @h1 (cj @k6 @hm1))) ?_
                    refine ifs ?_ ?_ <;> first | exact nope | intro hb
                    refine go (cj rTI (cj @h1 (cj @k5 (cj @k6 (cj @gb (cj @gq (cj @g7 (cj @nl @zr2)))))))) ?_
                    try simp only [block_normal, loop_normal]
                    refine ⟨D.length - (j + 1), by omega, j + 1, G ++ [(pm, px)], V, s3.nx + 1, iV, rfl, by omega, ?_, ?_, ?_, ?_, ?_, ?_, hMM, hE, fun h => by omega, fun _ => ⟨by rw [a1]; simp, a2⟩, by rw [List.length_append]; show _ + 1 ≤ _; omega, by omega⟩
                    all_goals ((first | refine rn (cj rTI (cj @h1 (cj @k0 (cj @k2 (cj @k4 (cj @k5 @k6)))))) ?_ | exact rn0 (cj rTI (cj @h1 (cj @k0 (cj @k2 (cj @k4 (cj @k5 @k6))))))))
                    all_goals (first | rfl | trivial | (refine congrArg (fun z : Int => AV.v (.int .i64 z)) ?_; omega))
                  · have hm1 : ((j : Int) + 3) % 2 = 0 := by omega
                    obtain ⟨a1, a2⟩ := hod (by omega)
                    have gq := hM3.v
                    have nl := nc_len V
                    have hMM := (hM3.more (s3.push [iv pm, iv px]) (Nat.le_succ _) (fun k hk => St.push_ne s3 _ _ (by omega))).vv (pm, px)
                    unfold SV iv at hMM
                    unfold iv at gq
                    refine go (cj rTI (cj @h1 (cj @k6 @hm1))) ?_
                    refine ifs ?_ ?_ <;> first | exact nope | intro hb
                    refine go (cj rTI (cj @h1 (cj @k5 (cj @k6 (cj @gb (cj @gq (cj @g7 (cj @nl @zr2)))))))) ?_
                    try simp only [block_normal, loop_normal]
                    refine ⟨D.length - (j + 1), by omega, j + 1, G, V ++ [(pm, px)], iG, s3.nx + 1, rfl, by omega, ?_, ?_, ?_, ?_, ?_, ?_, hMM, hE, fun _ => ⟨a1, by rw [a2]; simp⟩, fun h => by omega, by omega, by rw [List.length_append]; show _ + 1 ≤ _; omega⟩
                    all_goals ((first | refine rn (cj rTI (cj @h1 (cj @k0 (cj @k2 (cj @k4 (cj @k5 @k6)))))) ?_ | exact rn0 (cj rTI (cj @h1 (cj @k0 (cj @k2 (cj @k4 (cj @k5 @k6))))))))
                    all_goals (first | rfl | trivial | (refine congrArg (fun z : Int => AV.v (.int .i64 z)) ?_; omega))
                · rw [numsE_stop _ pe he] at hE
                  rw [hE, if_pos he]
                  refine go (cj rTI (cj @h1 @he)) ?_
                  refine ifs ?_ ?_ <;> first | exact nope | intro hb
                  refine go (cj rTI (cj @h1 (cj @k2 @gz))) ?_
                  exact ⟨rb_err pe, rb_idf _, fun i hi => by rw [if_neg (by omega)]; exact hM3.fr i hi⟩
              · obtain rfl : j = D.length := by omega
                rw [List.drop_length] at hE hev hod
                have hE2 : numsE D 0 = 0 := hE
                have hGV : (evens D).map numV = G ∧ (odds D).map numV = V := by
                  rcases Nat.mod_two_eq_zero_or_one D.length with h | h
                  · obtain ⟨a1, a2⟩ := hev h
                    exact ⟨by rw [a1]; exact List.append_nil _, by rw [a2]; exact List.append_nil _⟩
                  · obtain ⟨a1, a2⟩ := hod h
                    exact ⟨by rw [a1]; exact List.append_nil _, by rw [a2]; exact List.append_nil _⟩
                rw [hE2, hGV.1, hGV.2, if_neg (fun h => h rfl)]
                obtain ⟨o1, o2, o3, o4, o5, o6, o7, o8, o9⟩ := hM.o
                have hj5 : ¬ (D.length : Int) + 3 < (ws.length : Int) := by omega
                refine go (cj rTI (cj @h1 (cj @k4 @k6))) ?_
                refine ifs ?_ ?_ <;> first | exact nope | intro hb
                refine go (cj rTI @h1) ?_
                refine hM.lay fun e8 s8 f1 f2 gb gz fr => ?_
                have m1 : e8.n = 114 := by
                  rw [f1]
                  exact rn0 @h1
                have m2 : e8.m 2 = .ptr s.nx 0 := by
                  rw [f2]
                  exact rn0 @k2
                have m5 : e8.m 5 = .ptr (s.nx + 1) 0 := by
                  rw [f2]
                  exact rn0 @k5
                have hva := rmvalid_ax ⟨nm, kd, G, V⟩ ⟨b1, hnl⟩ (by show G.length ≤ _; omega) (by show V.length ≤ _; omega)
                unfold MA SV NV at hva
                unfold SV at gb
                unfold mz nilS at gz
                simp only at hva
                clear f1 f2 h1 k2 k5 k6 hM
                cases hok : modelOk ⟨nm, kd, G, V⟩ with
                | false =>
                  rw [hok] at hva
                  rw [if_neg Bool.false_ne_true]
                  refine aw_reg fun K hK => ?_; refine rn (cj rTI (cj @m1 (cj @m5 @gb))) ?_; refine cont_pure hva ?_; refine rn (cj rTI (cj @m1 (cj @m5 @gb))) ?_; refine hK _ _ ?_; clear hK K
                  refine ifs ?_ ?_ <;> first | exact nope | intro hb
                  refine go (cj rTI (cj @m1 (cj @m2 @gz))) ?_
                  exact ⟨rb_err 50, rb_idf _, fun i hi => by rw [if_neg (by omega)]; exact fr i hi⟩
                | true =>
                  rw [hok] at hva
                  rw [if_pos rfl]
                  refine aw_reg fun K hK => ?_; refine rn (cj rTI (cj @m1 (cj @m5 @gb))) ?_; refine cont_pure hva ?_; refine rn (cj rTI (cj @m1 (cj @m5 @gb))) ?_; refine hK _ _ ?_; clear hK K
                  refine ifs ?_ ?_ <;> first | exact nope | intro hb
                  refine go (cj rTI (cj @m1 (cj @m2 (cj @m5 (cj @gb @gz))))) ?_
                  exact ⟨Le.refl _, rb_idf _, fun i hi => by rw [if_neg (by omega)]; exact fr i hi⟩
    · rw [hno hc]
      have e5 := str_eq (ws.getD 2 []) [100] b2 (by_lit _ rfl)
      rw [show bs [100] = ByteArray.mk #[100] from rfl] at e5
      by_cases q1 : ws.getD 0 [] = sModel
      · rw [decide_eq_true q1] at e1
        by_cases q2 : ws.getD 2 [] = [100] ∨ ws.getD 2 [] = [115]
        · rcases q2 with q2 | q2
          · have n4 : ¬ (ws.length : Int) = 4 := fun h => hc ⟨by omega, q1, .inl q2, by omega, by omega, fun x => by rw [q2] at x; cases x⟩
            have n6 : ¬ (ws.length : Int) = 6 := fun h => hc ⟨by omega, q1, .inl q2, by omega, by omega, fun x => by rw [q2] at x; cases x⟩
            have n8 : ¬ (ws.length : Int) = 8 := fun h => hc ⟨by omega, q1, .inl q2, by omega, by omega, fun x => by rw [q2] at x; cases x⟩
            have n10 : ¬ (ws.length : Int) = 10 := fun h => hc ⟨by omega, q1, .inl q2, by omega, by omega, fun x => by rw [q2] at x; cases x⟩
            rw [q2, decide_eq_true rfl] at e2 e5
            rw [q2, decide_eq_false (by decide)] at e3 e4
            rw [q2] at i2
            refine acall_of Tryz.func43 rfl rfl (by simp [Tryz.ntmps43]) ?_; rw [Tryz.ntmps43, Tryz.results43]
            refine go rTI ?_
            refine go (cj rTI (cj @i0 (cj @i2 (cj @t2 (cj @e1 (cj @e2 @e3)))))) ?_
            refine ifs ?_ ?_ <;> first | exact nope | intro hb
            refine go (cj rTI (cj @i0 (cj @i2 (cj @t2 (cj @e4 (cj @e5 (cj @n4 (cj @n6 (cj @n8 @n10))))))))) ?_
            refine ifs ?_ ?_ <;> first | exact nope | intro hb
            refine go rTI ?_
            exact ⟨rb_err 70, rb_idf _, fun i hi => if_neg (by omega)⟩
          · have n6 : ¬ (ws.length : Int) = 6 := fun h => hc ⟨by omega, q1, .inr q2, by omega, by omega, fun x => by omega⟩
            rw [q2, decide_eq_false (by decide)] at e2 e5
            rw [q2, decide_eq_true rfl] at e3 e4
            rw [q2] at i2
            refine acall_of Tryz.func43 rfl rfl (by simp [Tryz.ntmps43]) ?_; rw [Tryz.ntmps43, Tryz.results43]
            refine go rTI ?_
            refine go (cj rTI (cj @i0 (cj @i2 (cj @t2 (cj @e1 (cj @e2 @e3)))))) ?_
            refine ifs ?_ ?_ <;> first | exact nope | intro hb
            refine go (cj rTI (cj @i0 (cj @i2 (cj @t2 (cj @e4 (cj @e5 @n6)))))) ?_
            refine ifs ?_ ?_ <;> first | exact nope | intro hb
            refine go rTI ?_
            exact ⟨rb_err 70, rb_idf _, fun i hi => if_neg (by omega)⟩
        · rw [decide_eq_false (fun h => q2 (.inl h))] at e2
          rw [decide_eq_false (fun h => q2 (.inr h))] at e3
          refine acall_of Tryz.func43 rfl rfl (by simp [Tryz.ntmps43]) ?_; rw [Tryz.ntmps43, Tryz.results43]
          refine go rTI ?_
          refine go (cj rTI (cj @i0 (cj @i2 (cj @t2 (cj @e1 (cj @e2 @e3)))))) ?_
          refine ifs ?_ ?_ <;> first | exact nope | intro hb
          refine go rTI ?_
          exact ⟨rb_err 70, rb_idf _, fun i hi => if_neg (by omega)⟩
      · rw [decide_eq_false q1] at e1
        refine acall_of Tryz.func43 rfl rfl (by simp [Tryz.ntmps43]) ?_; rw [Tryz.ntmps43, Tryz.results43]
        refine go rTI ?_
        refine go (cj rTI (cj @i0 @e1)) ?_
        refine ifs ?_ ?_ <;> first | exact nope | intro hb
        refine go rTI ?_
        exact ⟨rb_err 70, rb_idf _, fun i hi => if_neg (by omega)⟩
end Go.Proofs.YtfjelkjlfcafgaaGreatDoor.CardAG
end
section
/- The laws' first fact: a resistor is read and written, a model is read. -/
namespace Go.Proofs.YtfjelkjlfcafgaaGreatDoor.CardU
open Go Go.RowKit Ax Ti NumS NumT CardS CardP CardA CardB CardC CardD CardE CardF CardG CardH CardI CardK CardL CardN CardR
open NumA (NM)
set_option linter.unusedSimpArgs false
set_option linter.unusedVariables false
set_option maxRecDepth 4000
set_option maxHeartbeats 2000000
theorem rTI : type_of% (cj @ti3 (cj @ti4 (cj @ti9 (cj @ti5 (cj @ti2 (cj @ti36 (cj @ti63 (cj @ti62 (cj @ti24 (cj @ti65 (cj @ti67 (cj @ti82 (cj @ti25 (cj @Nat.zero_add (cj @tz0 (cj @tz1 (cj @tz3 (cj @Nat.mul_one @Int.toNat_natCast)))))))))))))))))) := cj @ti3 (cj @ti4 (cj @ti9 (cj @ti5 (cj @ti2 (cj @ti36 (cj @ti63 (cj @ti62 (cj @ti24 (cj @ti65 (cj @ti67 (cj @ti82 (cj @ti25 (cj @Nat.zero_add (cj @tz0 (cj @tz1 (cj @tz3 (cj @Nat.mul_one @Int.toNat_natCast)))))))))))))))))
theorem cont_box {P : Program} {f : FuncId} {n : Nat} {r : AV} {s : St} {K : Env → St → Prop} {e : Env} {d : Option Nat} (id : Nat) (c : List AV) (sz : Nat) (hi : s.get id = some c) (hc : PCall P f [.sl n ((c.drop 0).take (n * sz))] r)
    (h : ∀ s', s'.nx = s.nx → (∀ j, j ≠ id → s'.get j = s.get j) → K (e.put d r) s') : ACall P f [.own id 0 n sz] s (ContS K e d) := by
  refine acall_frz id c hi (fun _ => false) ?_
  rw [List.map_cons, List.map_nil, frz_own]
  exact cont_pure hc (h _ rfl fun j hj => frz_false _ _ _ _ hj)
theorem cont_box2 {P : Program} {f : FuncId} {n : Nat} {x r : AV} {s : St} {K : Env → St → Prop} {e : Env} {d : Option Nat} (id : Nat) (c : List AV) (sz : Nat) (hi : s.get id = some c) (hx : idf x = true) (hc : PCall P f [x, .sl n ((c.drop 0).take (n * sz))] r)
    (h : ∀ s', s'.nx = s.nx → (∀ j, j ≠ id → s'.get j = s.get j) → K (e.put d r) s') : ACall P f [x, .own id 0 n sz] s (ContS K e d) := by
  refine acall_frz id c hi (fun _ => false) ?_
  rw [List.map_cons, List.map_cons, List.map_nil, frz_own, frz_idf _ _ x hx]
  exact cont_pure hc (h _ rfl fun j hj => frz_false _ _ _ _ hj)
def aw1 : List Str := [[114, 49], [97], [48], [52, 46, 55, 107]]
def aw2 : List Str := [[46, 109, 111, 100, 101, 108], [100, 49], [100], [49, 117], [48, 46, 55], [49, 48, 48, 109]]
def awC : Crd := ⟨[114, 49], [[97], [48]], [], (47, 2), wv0⟩
def awM : Mdl := ⟨[100, 49], 100, [(1, -6), (1, -1)], [(7, -1)]⟩
theorem aw_r : readC aw1 = (awC, 0) := by kernel_rfl
theorem aw_w : writeC awC = ([[114, 49], [97], [48], [52, 55, 48, 48]], 0) := by kernel_rfl
theorem aw_m : readM aw2 = (awM, 0) := by kernel_rfl
theorem aw_by1 : BL aw1 ∧ ∀ w ∈ aw1, w.length ≤ 281474976710656 := by
  constructor <;> intro w hw <;> simp only [aw1, List.mem_cons, List.not_mem_nil, or_false] at hw <;> rcases hw with rfl | rfl | rfl | rfl <;> first | exact by_lit _ rfl | decide
theorem aw_by2 : BL aw2 ∧ ∀ w ∈ aw2, w.length ≤ 281474976710656 := by
  constructor <;> intro w hw <;> simp only [aw2, List.mem_cons, List.not_mem_nil, or_false] at hw <;> rcases hw with rfl | rfl | rfl | rfl | rfl | rfl <;> first | exact by_lit _ rfl | decide
theorem aw_by3 : BL [[114, 49], [97], [48], [52, 55, 48, 48]] := by
  intro w hw; simp only [List.mem_cons, List.not_mem_nil, or_false] at hw; rcases hw with rfl | rfl | rfl | rfl <;> exact by_lit _ rfl
theorem aw_cw : CW awC := by
  refine ⟨⟨by_lit _ rfl, by decide⟩, ⟨?_, ?_, by decide⟩, ⟨by_lit _ rfl, by decide⟩, by decide, by decide, fun z hz => by cases hz⟩
  · intro w hw; simp only [awC, List.mem_cons, List.not_mem_nil, or_false] at hw; rcases hw with rfl | rfl <;> exact by_lit _ rfl
  · intro w hw; simp only [awC, List.mem_cons, List.not_mem_nil, or_false] at hw; rcases hw with rfl | rfl <;> decide
theorem awake_ax : PCall Tryz.prog 29 [] (.v (.bool true)) := by
  refine pcall_of fun s => ?_
  have p1 := read_ax aw1 aw_by1.1 aw_by1.2 (by decide)
  rw [aw_r] at p1
  have p2 := write_ax awC aw_cw
  rw [aw_w] at p2
  have p3 := readM_ax aw2 aw_by2.1 aw_by2.2 (by decide)
  rw [aw_m] at p3
  have p4 := texts_ax [[114, 49], [97], [48], [52, 55, 48, 48]] [[114, 49], [97], [48], [52, 55, 48, 48]] aw_by3 aw_by3 (by decide) (by decide)
  rw [decide_eq_true rfl] at p4
  have f5 : eqOk Tryz.prog 24 = true := by kernel_rfl
  unfold RA CA SV TV NV IV iv at p1
  unfold PA CA SV TV NV IV iv at p2
  unfold RB MA SV TV NV iv at p3
  unfold TV at p4
  refine acall_of Tryz.func29 rfl rfl (by simp [Tryz.ntmps29]) ?_; rw [Tryz.ntmps29, Tryz.results29]
  refine go rTI ?_
  refine aw_reg fun K hK => ?_; refine rn rTI ?_; refine cont_box s.nx _ 1 (St.push_same _ _) p1 fun s1 n1 g1 => ?_; refine rn rTI ?_; refine hK _ _ ?_; clear hK K
  have m1 : s1.nx = s.nx + 1 := n1
  have r1 : ∀ j, j < s.nx → s1.get j = s.get j := fun j hj => (g1 j (by omega)).trans (St.push_ne s _ _ (by omega))
  clear n1 g1
  refine go rTI ?_
  refine aw_reg fun K hK => ?_; refine rn rTI ?_; refine cont_pure p2 ?_; refine rn rTI ?_; refine hK _ _ ?_; clear hK K
  refine go rTI ?_
  refine aw_reg fun K hK => ?_; refine rn rTI ?_; refine cont_box (s1.nx + 1) _ 1 (St.push_same _ _) p3 fun s2 n2 g2 => ?_; refine rn rTI ?_; refine hK _ _ ?_; clear hK K
  have m2 : s2.nx = s1.nx + 2 := n2
  have r2 : ∀ j, j < s.nx → s2.get j = s.get j := fun j hj => by
    rw [g2 j (by omega), St.push_ne _ _ _ (show j ≠ s1.nx + 1 by omega), St.set_ne _ _ _ _ (by omega), St.push_ne s1 _ _ (by omega)]
    exact r1 j hj
  have c2 : s2.get s1.nx = some [.v (.string (bs awC.name)), .sl awC.nodes.length (SL awC.nodes), .v (.string (bs awC.ref)), .v (.int .i64 awC.value.1), .v (.int .i64 awC.value.2), .v (.int .i64 awC.wave.kind), .sl awC.wave.vals.length (NC awC.wave.vals), .sl awC.wave.steps.length (IL awC.wave.steps)] := by
    rw [g2 s1.nx (by omega), St.push_ne _ _ _ (show s1.nx ≠ s1.nx + 1 by omega)]
    exact St.set_same _ _ _
  clear n2 g2
  refine go rTI ?_
  have v1 : awC.value.1 = 47 := rfl
  have v2 : awC.value.2 = 2 := rfl
  have v3 : (awM.g.length : Int) = 2 := rfl
  have v4 : awM.kind = 100 := rfl
  refine aw_reg fun K hK => ?_
  refine rn (cj rTI (cj @c2 (cj @f5 (cj @v1 (cj @v2 (cj @v3 @v4)))))) ?_
  refine cont_box2 (s2.nx + 1) _ 1 (St.push_same _ _) (tv_idf [[114, 49], [97], [48], [52, 55, 48, 48]]) p4 fun s3 n3 g3 => ?_
  have c3 : s3.get s2.nx = some [.v (.string (bs awM.name)), .v (.int .u8 awM.kind), .sl awM.g.length (NC awM.g), .sl awM.v.length (NC awM.v)] := (g3 _ (by omega)).trans ((St.push_ne _ _ _ (show s2.nx ≠ s2.nx + 1 by omega)).trans (St.set_same _ _ _))
  refine rn (cj rTI (cj @c3 (cj @v3 @v4))) ?_
  refine hK _ _ ?_
  clear hK K
  refine go rTI ?_
  intro i hi
  rw [g3 i (by omega), St.push_ne _ _ _ (show i ≠ s2.nx + 1 by omega), St.set_ne _ _ _ _ (by omega), St.push_ne s2 _ _ (by omega)]
  exact r2 i hi
end Go.Proofs.YtfjelkjlfcafgaaGreatDoor.CardU
end
section
/- The abstract machine, part Q: boxes lent to a call that only reads. -/
set_option linter.unusedVariables false
set_option linter.unusedSimpArgs false
namespace Go.Proofs.YtfjelkjlfcafgaaGreatDoor.Ax
open Go Go.RowKit
variable {P : Program}

inductive Lies (s : St) : AV → AV → Prop
  | same (z : AV) (h : idf z = true) : Lies s z z
  | nil (cap : Nat) : Lies s (.v (.slice none 0 cap)) (.sl 0 [])
  | own (id off n sz : Nat) (c c' : List AV) (hi : s.get id = some c) (hl : c'.length = n * sz) (hc : off + n * sz ≤ c.length) (h : ∀ (j : Nat) (z z' : AV), (c.drop off)[j]? = some z → c'[j]? = some z' → Lies s z z') : Lies s (.own id off n sz) (.sl n c')
  | ptr (id off : Nat) (c c' : List AV) (hi : s.get id = some c) (hl : c'.length = (c.drop off).length) (h : ∀ (j : Nat) (z z' : AV), (c.drop off)[j]? = some z → c'[j]? = some z' → Lies s z z') : Lies s (.ptr id off) (.rf c')
  | sl (n : Nat) (c c' : List AV) (hl : c'.length = c.length) (h : ∀ (j : Nat) (z z' : AV), c[j]? = some z → c'[j]? = some z' → Lies s z z') : Lies s (.sl n c) (.sl n c')
  | rf (c c' : List AV) (hl : c'.length = c.length) (h : ∀ (j : Nat) (z z' : AV), c[j]? = some z → c'[j]? = some z' → Lies s z z') : Lies s (.rf c) (.rf c')
  | ag (c c' : List AV) (hl : c'.length = c.length) (h : ∀ (j : Nat) (z z' : AV), c[j]? = some z → c'[j]? = some z' → Lies s z z') : Lies s (.ag c) (.ag c')
def LiesL (s : St) (c c' : List AV) : Prop := c'.length = c.length ∧ ∀ (j : Nat) (z z' : AV), c[j]? = some z → c'[j]? = some z' → Lies s z z'
theorem LiesL.nil (s : St) : LiesL s [] [] := ⟨rfl, fun j z z' h => by cases h⟩
theorem LiesL.cons {s : St} {z z' : AV} {c c' : List AV} (h : Lies s z z') (g : LiesL s c c') : LiesL s (z :: c) (z' :: c') := ⟨by rw [List.length_cons, List.length_cons, g.1], fun j x y hx hy => by
  cases j with
  | zero => simp at hx hy; subst hx hy; exact h
  | succ j => exact g.2 j x y (by simpa using hx) (by simpa using hy)⟩
theorem LiesL.app {s : St} {a b a' b' : List AV} (h : LiesL s a a') (g : LiesL s b b') : LiesL s (a ++ b) (a' ++ b') := ⟨by rw [List.length_append, List.length_append, h.1, g.1], fun j x y hx hy => by
  by_cases hj : j < a.length
  · rw [List.getElem?_append_left hj] at hx
    rw [List.getElem?_append_left (by rw [h.1]; exact hj)] at hy
    exact h.2 j x y hx hy
  · rw [List.getElem?_append_right (by omega)] at hx
    rw [List.getElem?_append_right (by rw [h.1]; omega), h.1] at hy
    exact g.2 _ x y hx hy⟩
theorem Lies.whole {s : St} {id n sz : Nat} {c c' : List AV} (hi : s.get id = some c) (hl : c.length = n * sz) (h : LiesL s c c') : Lies s (.own id 0 n sz) (.sl n c') :=
  .own id 0 n sz c c' hi (h.1.trans hl) (by omega) fun j z z' hz hz' => h.2 j z z' (by simpa using hz) hz'
theorem Lies.box {s : St} {id : Nat} {c c' : List AV} (hi : s.get id = some c) (h : LiesL s c c') : Lies s (.ptr id 0) (.rf c') :=
  .ptr id 0 c c' hi h.1 fun j z z' hz hz' => h.2 j z z' (by simpa using hz) hz'
theorem Lies.agg {s : St} {c c' : List AV} (h : LiesL s c c') : Lies s (.ag c) (.ag c') := .ag c c' h.1 h.2
def still (w : World) (h : Tabs w.cell?) : KW := ⟨fun _ => ⟨0, 0, 0⟩, 0, w.cell?, h⟩
end Go.Proofs.YtfjelkjlfcafgaaGreatDoor.Ax
end
section
/- Data at a call's beginning, read as the abstract machine reads it. -/
namespace Go.Proofs.YtfjelkjlfcafgaaGreatDoor.Open
open Go Go.RowKit Ax
set_option linter.unusedVariables false
variable {H : Type} {enc : TypeId × Value → H} {P : Program} {w : World} {base : Nat} {spare : Nat → Bool} {held : Bool}
def Op (enc : TypeId × Value → H) (P : Program) (w : World) (base : Nat) (spare : Nat → Bool) (held : Bool) (t : TypeId) (D : Type) (cell : D → List AV) : Prop :=
  ∀ (ht : Tabs w.cell?) fuel cs x, DataW.trod enc P w base spare held fuel t cs = some x → (∀ n ∈ x.1.weights P t, n ≤ reachBytes) → ∃ d, RelL (still w ht) (cell d) cs
def OpF (enc : TypeId × Value → H) (P : Program) (w : World) (base : Nat) (spare : Nat → Bool) (held : Bool) (N : Nat) (fs : List Field) (o : Nat) (D : Type) (cell : D → List AV) : Prop :=
  ∀ (ht : Tabs w.cell?) fuel (cs : List Value) xs, cs.length = N → (fs.mapM fun f => DataW.trod enc P w base spare held fuel f.type ((cs.drop f.offset).take (P.cellsOf f.type))) = some xs → (∀ n ∈ DataW.weightsEach P (fs.map (·.type)) (xs.map (·.1)), n ≤ reachBytes) → ∃ d, RelL (still w ht) (cell d) (cs.drop o)
theorem relL_one {k : KW} {z : AV} {u : Value} (h : Rel k z u) : RelL k [z] [u] := ⟨rfl, fun j y x hy hx => by
  cases j with
  | zero => simp at hy hx; subst hy hx; exact h
  | succ j => simp at hy⟩
theorem op_int {t : TypeId} {k : IntKind} (ht : P.underlying t = some (.int k)) : Op enc P w base spare held t { n : Int // (Lit.int k n).wf = true } (fun n => [.v (.int k n.1)]) := by
  intro hT fuel cs x h _
  obtain ⟨n, rfl, h1, h2⟩ := DataW.trod_int ht h
  exact ⟨⟨n, h2⟩, relL_one (.v _)⟩
theorem op_str {t : TypeId} (ht : P.underlying t = some .string) : Op enc P w base spare held t { b : ByteArray // b.size ≤ reachBytes } (fun b => [.v (.string b.1)]) := by
  intro hT fuel cs x h hw
  cases fuel with
  | zero => simp [DataW.trod] at h
  | succ fuel =>
    match cs with
    | [] => simp [DataW.trod, ht] at h
    | _ :: _ :: _ => simp [DataW.trod, ht] at h
    | [y] =>
      cases y
      case string b =>
        simp only [DataW.trod, ht] at h
        split at h
        · rename_i hb
          injection h with h
          subst h
          exact ⟨⟨b, hw _ (by simp [DataW.weights])⟩, relL_one (.v _)⟩
        · cases h
      all_goals simp [DataW.trod, ht] at h
theorem mapM_each {α β : Type} {f : α → Option β} : ∀ {l : List α} {ys : List β}, l.mapM f = some ys → ∀ a ∈ l, ∃ b ∈ ys, f a = some b
  | [], ys, h, a, ha => by cases ha
  | x :: l, ys, h, a, ha => by
    rw [List.mapM_cons] at h
    cases hx : f x with
    | none => rw [hx] at h; cases h
    | some b =>
      rw [hx] at h
      cases hl : l.mapM f with
      | none => rw [hl] at h; cases h
      | some bs =>
        rw [hl] at h
        injection h with h
        subst h
        rcases List.mem_cons.1 ha with rfl | ha
        · exact ⟨b, List.mem_cons_self .., hx⟩
        · obtain ⟨c, hc, e⟩ := mapM_each hl a ha
          exact ⟨c, List.mem_cons_of_mem _ hc, e⟩
theorem mapM_len {α β : Type} {f : α → Option β} : ∀ {l : List α} {ys : List β}, l.mapM f = some ys → ys.length = l.length
  | [], ys, h => by simp at h; subst h; rfl
  | x :: l, ys, h => by
    rw [List.mapM_cons] at h
    cases hx : f x with
    | none => rw [hx] at h; cases h
    | some b =>
      rw [hx] at h
      cases hl : l.mapM f with
      | none => rw [hl] at h; cases h
      | some bs =>
        rw [hl] at h
        injection h with h
        subst h
        show bs.length + 1 = l.length + 1
        rw [mapM_len hl]
theorem weights_all {H : Type} {P : Program} {e : TypeId} : ∀ {l : List (DataW H)} {d : DataW H} {n : Nat}, d ∈ l → n ∈ d.weights P e → n ∈ DataW.weightsAll P e l
  | [], d, n, h, _ => by cases h
  | x :: l, d, n, h, hn => by
    rw [DataW.weightsAll, List.mem_append]
    rcases List.mem_cons.1 h with rfl | h
    · exact .inl hn
    · exact .inr (weights_all h hn)
theorem cells_reads {a : Addr} {n : Nat} {cs : List Value} (h : w.cells? base a n = some cs) : cs.length = n ∧ ∀ j, j < n → w.cell? (a.add j) = cs[j]? := by
  unfold World.cells? at h
  split at h
  · have key : ∀ (l : List Nat) (cs : List Value), l.mapM (fun i => w.cell? (a.add i)) = some cs → cs.length = l.length ∧ ∀ j, j < l.length → w.cell? (a.add (l.getD j 0)) = cs[j]? := by
      intro l
      induction l with
      | nil => intro cs h; simp at h; subst h; exact ⟨rfl, fun j hj => absurd hj (Nat.not_lt_zero _)⟩
      | cons x l ih =>
        intro cs h
        rw [List.mapM_cons] at h
        cases hx : w.cell? (a.add x) with
        | none => rw [hx] at h; cases h
        | some b =>
          rw [hx] at h
          cases hl : l.mapM (fun i => w.cell? (a.add i)) with
          | none => rw [hl] at h; cases h
          | some bs =>
            rw [hl] at h
            injection h with h
            subst h
            obtain ⟨h1, h2⟩ := ih bs hl
            refine ⟨by simp [h1], fun j hj => ?_⟩
            cases j with
            | zero => simpa using hx
            | succ j => simpa using h2 j (by simpa using hj)
    obtain ⟨h1, h2⟩ := key _ _ h
    rw [List.length_range] at h1 h2
    refine ⟨h1, fun j hj => ?_⟩
    have := h2 j hj
    rwa [List.getD_eq_getElem?_getD, List.getElem?_range hj, Option.getD_some] at this
  · cases h
theorem add_add (a : Addr) (i j : Nat) : (a.add i).add j = a.add (i + j) := by
  unfold Addr.add
  by_cases hi : i = 0
  · subst hi; simp
  · by_cases hj : j = 0
    · subst hj; simp
    · rw [if_neg hi, if_neg hj, if_neg (by omega)]
      simp only
      congr 1
      omega
theorem op_slice {t e : TypeId} {D : Type} {cell : D → List AV} (ht : P.underlying t = some (.slice e)) (he : Op enc P w base spare held e D cell) : Op enc P w base spare held t { l : List D // l.length * P.bytesOf e ≤ reachBytes } (fun l => [.sl l.1.length (l.1.flatMap cell)]) := by
  intro hT fuel cs x h hw
  cases fuel with
  | zero => simp [DataW.trod] at h
  | succ fuel =>
    match cs with
    | [] => simp [DataW.trod, ht] at h
    | _ :: _ :: _ => simp [DataW.trod, ht] at h
    | [y] =>
      cases y
      case slice a len cap =>
        cases a with
        | none =>
          match len, cap with
          | 0, 0 => exact ⟨⟨[], by rw [List.length_nil, Nat.zero_mul]; exact Nat.zero_le _⟩, relL_one (.sl0 none 0)⟩
          | 0, _ + 1 => simp [DataW.trod, ht] at h
          | _ + 1, _ => simp [DataW.trod, ht] at h
        | some a =>
          simp only [DataW.trod, ht] at h
          split at h
          · rename_i hb
            cases hm : (List.range len).mapM (fun i => (w.cells? base (a.add (i * P.cellsOf e)) (P.cellsOf e)).bind (DataW.trod enc P w base spare held fuel e)) with
            | none => rw [hm] at h; cases h
            | some elems =>
              have each := mapM_each hm
              have hlen := mapM_len hm
              rw [List.length_range] at hlen
              rw [hm] at h
              simp only [Option.bind_some] at h
              have hws : (∀ y ∈ elems, ∀ n ∈ y.1.weights P e, n ≤ reachBytes) ∧ elems.length * P.bytesOf e ≤ reachBytes := by
                cases hr : (if spare a.block = true then (List.range (cap - len)).mapM fun j => (w.cells? base (a.add ((len + j) * P.cellsOf e)) (P.cellsOf e)).bind (DataW.trod enc P w base spare held fuel e) else some []) with
                | none => rw [hr] at h; cases h
                | some rest =>
                  rw [hr, Option.map_some] at h
                  injection h with h
                  subst h
                  simp only [DataW.weights, ht] at hw
                  refine ⟨fun y hy n hn => hw n (List.mem_cons_of_mem _ (List.mem_append_left _ (weights_all (List.mem_map_of_mem hy) hn))), ?_⟩
                  have h0 := hw _ (List.mem_cons_self ..)
                  rw [List.length_map] at h0
                  refine Nat.le_trans ?_ h0
                  exact Nat.mul_le_mul_right _ (Nat.le_add_right _ _)
              have hstep : ∀ i, i < len → ∃ (d : D) (ci : List Value), RelL (still w hT) (cell d) ci ∧ ci.length = P.cellsOf e ∧ ∀ j, j < P.cellsOf e → w.cell? ((a.add (i * P.cellsOf e)).add j) = ci[j]? := by
                intro i hi
                obtain ⟨b, hbm, hb⟩ := each i (List.mem_range.2 hi)
                cases hc : w.cells? base (a.add (i * P.cellsOf e)) (P.cellsOf e) with
                | none => rw [hc] at hb; cases hb
                | some ci =>
                  rw [hc] at hb
                  obtain ⟨d, hd⟩ := he hT fuel ci b hb (hws.1 b hbm)
                  obtain ⟨q1, q2⟩ := cells_reads hc
                  exact ⟨d, ci, hd, q1, q2⟩
              have hall : ∀ n, n ≤ len → ∃ (l : List D) (us : List Value), l.length = n ∧ RelL (still w hT) (l.flatMap cell) us ∧ us.length = n * P.cellsOf e ∧ ∀ j, j < n * P.cellsOf e → w.cell? (a.add j) = us[j]? := by
                intro n
                induction n with
                | zero => intro _; exact ⟨[], [], rfl, ⟨rfl, fun j z u hz => by cases hz⟩, by simp, fun j hj => by omega⟩
                | succ n ih =>
                  intro hn
                  obtain ⟨l, us, h1, h2, h3, h4⟩ := ih (by omega)
                  obtain ⟨d, ci, g1, g2, g3⟩ := hstep n (by omega)
                  refine ⟨l ++ [d], us ++ ci, by simp [h1], by rw [List.flatMap_append]; simpa using h2.append g1, by rw [List.length_append, h3, g2, Nat.succ_mul], fun j hj => ?_⟩
                  by_cases hj2 : j < n * P.cellsOf e
                  · rw [List.getElem?_append_left (by omega)]
                    exact h4 j hj2
                  · rw [List.getElem?_append_right (by omega), h3]
                    rw [Nat.succ_mul] at hj
                    have := g3 (j - n * P.cellsOf e) (by omega)
                    rw [← this]
                    rw [add_add]
                    congr 2
                    omega
              obtain ⟨l, us, h1, h2, h3, h4⟩ := hall len (Nat.le_refl _)
              refine ⟨⟨l, by rw [h1, ← hlen]; exact hws.2⟩, relL_one ?_⟩
              show Rel _ (.sl l.length (l.flatMap cell)) _
              rw [h1]
              refine .sl len cap _ a (fun j => us.getD j undef) hb.2.1 (fun j hj => ?_) (fun j z hz => ?_)
              · show w.cell? _ = _
                have hj' : j < us.length := by rw [h2.1]; exact hj
                rw [h4 j (by omega), List.getD_eq_getElem?_getD, List.getElem?_eq_getElem hj']
                rfl
              · have hj' : j < us.length := by rw [h2.1]; exact (List.getElem?_eq_some_iff.1 hz).1
                refine h2.2 j z _ hz ?_
                rw [List.getD_eq_getElem?_getD, List.getElem?_eq_getElem hj']
                rfl
          · cases h
      all_goals simp [DataW.trod, ht] at h
theorem opf_nil {N : Nat} : OpF enc P w base spare held N [] N Unit (fun _ => []) := by
  intro hT fuel cs xs hl h _
  rw [List.drop_of_length_le (by omega)]
  exact ⟨(), rfl, fun j z u hz => by cases hz⟩
theorem opf_cons {N o n : Nat} {f : Field} {fs : List Field} {D D' : Type} {cell : D → List AV} {cell' : D' → List AV} (ho : f.offset = o) (hn : P.cellsOf f.type = n) (h1 : Op enc P w base spare held f.type D cell) (h2 : OpF enc P w base spare held N fs (o + n) D' cell') :
    OpF enc P w base spare held N (f :: fs) o (D × D') (fun d => cell d.1 ++ cell' d.2) := by
  intro hT fuel cs xs hl h hw
  rw [List.mapM_cons] at h
  rw [ho, hn] at h
  cases hx : DataW.trod enc P w base spare held fuel f.type ((cs.drop o).take n) with
  | none => rw [hx] at h; cases h
  | some b =>
    rw [hx] at h
    cases hm : fs.mapM (fun f => DataW.trod enc P w base spare held fuel f.type ((cs.drop f.offset).take (P.cellsOf f.type))) with
    | none => rw [hm] at h; cases h
    | some bs =>
      rw [hm] at h
      injection h with h
      subst h
      simp only [List.map_cons, DataW.weightsEach, List.mem_append] at hw
      obtain ⟨d, hd⟩ := h1 hT fuel _ _ hx fun n hn => hw n (.inl hn)
      obtain ⟨d', hd'⟩ := h2 hT fuel cs bs hl hm fun n hn => hw n (.inr hn)
      refine ⟨(d, d'), ?_⟩
      have e : cs.drop o = (cs.drop o).take n ++ cs.drop (o + n) := by rw [← List.drop_drop, List.take_append_drop]
      rw [e]
      exact hd.append hd'
theorem op_struct {t : TypeId} {fs : Array Field} {D : Type} {cell : D → List AV} (ht : P.underlying t = some (.struct fs)) (hf : OpF enc P w base spare held (P.cellsOf t) fs.toList 0 D cell) : Op enc P w base spare held t D cell := by
  intro hT fuel cs x h hw
  cases fuel with
  | zero => simp [DataW.trod] at h
  | succ fuel =>
    simp only [DataW.trod, ht] at h
    split at h
    · rename_i hl
      cases hm : fs.toList.mapM (fun f => DataW.trod enc P w base spare held fuel f.type ((cs.drop f.offset).take (P.cellsOf f.type))) with
      | none => rw [hm] at h; cases h
      | some bs =>
        rw [hm, Option.map_some] at h
        injection h with h
        subst h
        simp only [DataW.weights, ht] at hw
        obtain ⟨d, hd⟩ := hf hT fuel cs bs hl hm hw
        exact ⟨d, by simpa using hd⟩
    · cases h
theorem Op.map {t : TypeId} {D E : Type} {cell : D → List AV} {cell' : E → List AV} (h : Op enc P w base spare held t D cell) (f : D → E) (hf : ∀ d, cell' (f d) = cell d) : Op enc P w base spare held t E cell' := by
  intro hT fuel cs x hx hw
  obtain ⟨d, hd⟩ := h hT fuel cs x hx hw
  exact ⟨f d, by rw [hf]; exact hd⟩
end Go.Proofs.YtfjelkjlfcafgaaGreatDoor.Open
end
section
/- Cards, models and words at a call's beginning, read as the abstract machine reads them. -/
namespace Go.Proofs.YtfjelkjlfcafgaaGreatDoor.CardX
open Go Go.RowKit Ax Open NumT CardS CardA CardB CardE CardG CardI CardK CardL
set_option linter.unusedVariables false
set_option maxRecDepth 100000
variable {H : Type} {enc : TypeId × Value → H} {w : World} {base : Nat} {spare : Nat → Bool} {held : Bool}
def lsB (b : ByteArray) : Str := b.data.toList.map UInt8.toNat
theorem lsB_len (b : ByteArray) : (lsB b).length = b.size := by unfold lsB; rw [List.length_map]; rfl
theorem lsB_bs (b : ByteArray) : bs (lsB b) = b := (bs_all b).symm
abbrev StrD := { s : Str // By s ∧ s.length ≤ reachBytes }
abbrev WordsD := { l : List Str // (∀ w ∈ l, By w ∧ w.length ≤ reachBytes) ∧ l.length * 16 ≤ reachBytes }
abbrev IntD := { z : Int // -9223372036854775808 ≤ z ∧ z ≤ 9223372036854775807 }
abbrev ByteD := { z : Int // 0 ≤ z ∧ z ≤ 255 }
abbrev NumsD := { l : List Num // l.length * 16 ≤ reachBytes }
theorem flat1 {α β : Type} (f : α → β) (l : List α) : l.flatMap (fun z => [f z]) = l.map f := by
  induction l with
  | nil => rfl
  | cons a l ih => rw [List.flatMap_cons, ih]; rfl
theorem op_s : Open.Op enc Tryz.prog w base spare held 9 StrD (fun s => [SV s.1]) :=
  (op_str Tryz.underlying9).map (fun b => ⟨lsB b.1, by_all b.1, by rw [lsB_len]; exact b.2⟩) fun b => by
    show [AV.v (.string (bs (lsB b.1)))] = _
    rw [lsB_bs]
theorem op_i {t : TypeId} (ht : Tryz.prog.underlying t = some (.int .i64)) : Open.Op enc Tryz.prog w base spare held t IntD (fun z => [iv z.1]) :=
  (op_int ht).map (fun n => ⟨n.1, by simpa [IntKind.min, IntKind.max, IntKind.signed, IntKind.bits] using Go.Extern.FmtText.int_bounds n.2⟩) fun n => rfl
theorem op_b : Open.Op enc Tryz.prog w base spare held 5 ByteD (fun z => [.v (.int .u8 z.1)]) :=
  (op_int Tryz.underlying5).map (fun n => ⟨n.1, by simpa [IntKind.min, IntKind.max, IntKind.signed, IntKind.bits] using Go.Extern.FmtText.int_bounds n.2⟩) fun n => rfl
theorem op_n : Open.Op enc Tryz.prog w base spare held 24 Num (fun n => [iv n.1, iv n.2]) :=
  (op_struct Tryz.underlying24 (opf_cons rfl (n := 1) (by kernel_rfl) (op_i Tryz.underlying2) (opf_cons rfl (n := 1) (by kernel_rfl) (op_i Tryz.underlying3) (by
    have := opf_nil (enc := enc) (P := Tryz.prog) (w := w) (base := base) (spare := spare) (held := held) (N := Tryz.prog.cellsOf 24)
    rw [show Tryz.prog.cellsOf 24 = 0 + 1 + 1 from by kernel_rfl] at this ⊢
    exact this)))).map (fun d => (d.1.1, d.2.1.1)) fun d => rfl
theorem op_ns : Open.Op enc Tryz.prog w base spare held 62 NumsD (fun l => [NV l.1]) :=
  (op_slice Tryz.underlying62 op_n).map (fun l => ⟨l.1, Nat.le_trans (Nat.le_of_eq (congrArg (l.1.length * ·) (show 16 = Tryz.prog.bytesOf 24 from by kernel_rfl))) l.2⟩) fun l => rfl
theorem op_ws : Open.Op enc Tryz.prog w base spare held 36 WordsD (fun l => [TV l.1]) :=
  (op_slice Tryz.underlying36 op_s).map (fun l => ⟨l.1.map (·.1), fun z hz => by
    obtain ⟨x, _, rfl⟩ := List.mem_map.1 hz
    exact x.2, by rw [List.length_map]; exact Nat.le_trans (Nat.le_of_eq (congrArg (l.1.length * ·) (show 16 = Tryz.prog.bytesOf 9 from by kernel_rfl))) l.2⟩) fun l => by
    show [AV.sl (l.1.map (·.1)).length ((l.1.map (·.1)).map SV)] = [AV.sl l.1.length (l.1.flatMap fun z => [SV z.1])]
    rw [List.length_map, List.map_map, flat1]
    rfl
abbrev MdlD := { m : Mdl // (By m.name ∧ m.name.length ≤ reachBytes) ∧ (0 ≤ m.kind ∧ m.kind ≤ 255) ∧ m.g.length * 16 ≤ reachBytes ∧ m.v.length * 16 ≤ reachBytes }
def mdlL (m : Mdl) : List AV := [SV m.name, .v (.int .u8 m.kind), NV m.g, NV m.v]
theorem op_m : Open.Op enc Tryz.prog w base spare held 82 MdlD (fun m => mdlL m.1) :=
  (op_struct Tryz.underlying82 (opf_cons rfl (n := 1) (by kernel_rfl) op_s (opf_cons rfl (n := 1) (by kernel_rfl) op_b (opf_cons rfl (n := 1) (by kernel_rfl) op_ns (opf_cons rfl (n := 1) (by kernel_rfl) op_ns (by
    have := opf_nil (enc := enc) (P := Tryz.prog) (w := w) (base := base) (spare := spare) (held := held) (N := Tryz.prog.cellsOf 82)
    rw [show Tryz.prog.cellsOf 82 = 0 + 1 + 1 + 1 + 1 from by kernel_rfl] at this ⊢
    exact this)))))).map (fun d => ⟨⟨d.1.1, d.2.1.1, d.2.2.1.1, d.2.2.2.1.1⟩, d.1.2, d.2.1.2, d.2.2.1.2, d.2.2.2.1.2⟩) fun d => rfl
theorem arg_cells {k : KW} {zs : List AV} {cs : Array Value} (h : RelL k zs (Value.agg cs).cells.toList) : Rel k (.ag zs) (.agg cs) := by
  have e : (Value.agg cs).cells = cs := rfl
  rw [e] at h
  have := Rel.ag zs cs.toList h.1 fun j z u hz hu => h.2 j z u hz hu
  simpa using this
theorem sized_arg {P : Program} {ts : List TypeId} {ds : List (DataW H)} (h : (DataW.weightsEach P ts ds).all (· ≤ reachBytes) = true) {j : Nat} {t : TypeId} {d : DataW H} (ht : ts[j]? = some t) (hd : ds[j]? = some d) : ∀ n ∈ d.weights P t, n ≤ reachBytes := fun n hn => by
  have := List.all_eq_true.1 h _ (DataW.weights_mem_each ht hd n hn)
  simpa using this
theorem slice_shape {P : Program} {W : World} {r : Reach} {b0 : Nat} {t e : TypeId} {v : Value} (ht : P.underlying t = some (.slice e)) (h : Value.okWide P W r b0 t v) : ∃ a l c, v = .slice a l c := by
  simp only [Value.okWide, ht, Cell.okWide] at h
  cases v <;> simp_all [Cell.ok]
theorem struct_shape {P : Program} {W : World} {r : Reach} {b0 : Nat} {t : TypeId} {fs : Array Field} {v : Value} (ht : P.underlying t = some (.struct fs)) (h : Value.okWide P W r b0 t v) : ∃ cs, v = .agg cs := by
  simp only [Value.okWide, ht] at h
  obtain ⟨cs, h1, _⟩ := h
  exact ⟨cs, h1⟩
end Go.Proofs.YtfjelkjlfcafgaaGreatDoor.CardX
end
section
/- The law CardModels, walked: ReadModel and WriteModel are the document's. -/
namespace Go.Proofs.YtfjelkjlfcafgaaGreatDoor.CardAH
open Go Go.RowKit Ax Ti NumS NumT CardS CardP CardA CardB CardE CardI CardK CardL CardM CardN CardR CardT CardU CardY CardAE CardAG
set_option linter.unusedSimpArgs false
set_option linter.unusedVariables false
set_option maxRecDepth 4000
set_option maxHeartbeats 2000000
theorem rTI : type_of% (cj @ti3 (cj @ti4 (cj @ti9 (cj @ti5 (cj @ti2 (cj @ti36 (cj @ti62 (cj @ti24 (cj @ti82 (cj @ti25 (cj @Nat.zero_add (cj @tz0 (cj @tz1 (cj @tz3 (cj @Nat.mul_one @Int.toNat_natCast))))))))))))))) := cj @ti3 (cj @ti4 (cj @ti9 (cj @ti5 (cj @ti2 (cj @ti36 (cj @ti62 (cj @ti24 (cj @ti82 (cj @ti25 (cj @Nat.zero_add (cj @tz0 (cj @tz1 (cj @tz3 (cj @Nat.mul_one @Int.toNat_natCast))))))))))))))
theorem sameM_refl (m : Mdl) : sameM m m = true := by unfold sameM; simp
theorem modelT_by (m : Mdl) (h : By m.name ∧ m.name.length ≤ 281474976710656) (hk : m.kind = 115 ∨ m.kind = 100) : ∀ w ∈ modelT m, By w ∧ w.length ≤ 281474976710656 := by
  have hz : ∀ (V G : List Num) w, w ∈ zipM V G → By w ∧ w.length ≤ 281474976710656 := by
    intro V
    induction V with
    | nil => intro G w hw; simp [zipM] at hw
    | cons v V ih =>
      intro G w hw
      cases G with
      | nil => simp [zipM] at hw
      | cons g G =>
        have hw' : w ∈ textN v :: textN g :: zipM V G := hw
        rcases List.mem_cons.1 hw' with rfl | hw'
        · exact ⟨(textN_by _).1, Nat.le_trans (textN_by _).2 (by decide)⟩
        · rcases List.mem_cons.1 hw' with rfl | hw'
          · exact ⟨(textN_by _).1, Nat.le_trans (textN_by _).2 (by decide)⟩
          · exact ih G w hw'
  intro w hw
  have hw' : w ∈ sModel :: m.name :: [m.kind.toNat] :: textN (m.g.headD (0, 0)) :: zipM m.v (m.g.drop 1) := hw
  rcases List.mem_cons.1 hw' with rfl | hw'
  · exact ⟨by_lit _ rfl, by decide⟩
  · rcases List.mem_cons.1 hw' with rfl | hw'
    · exact h
    · rcases List.mem_cons.1 hw' with rfl | hw'
      · rcases hk with hk | hk <;> rw [hk] <;> exact ⟨by_lit _ rfl, by decide⟩
      · rcases List.mem_cons.1 hw' with rfl | hw'
        · exact ⟨(textN_by _).1, Nat.le_trans (textN_by _).2 (by decide)⟩
        · exact hz _ _ w hw'
theorem modelT_len (m : Mdl) (h : m.v.length + 1 = m.g.length ∧ m.g.length ≤ 4) : (modelT m).length ≤ 100 := by
  show (zipM m.v (m.g.drop 1)).length + 1 + 1 + 1 + 1 ≤ 100
  have := zipM_le m.v (m.g.drop 1)
  omega
theorem readM_bd (ws : List Str) (h : BL ws) (hl : ∀ w ∈ ws, w.length ≤ 281474976710656) (hn : ws.length ≤ 9223372036854775806) : (By (readM ws).1.name ∧ (readM ws).1.name.length ≤ 281474976710656) ∧ (readM ws).1.g.length ≤ 9223372036854775806 ∧ (readM ws).1.v.length ≤ 9223372036854775806 := by
  have h0 : (By mdl0.name ∧ mdl0.name.length ≤ 281474976710656) ∧ mdl0.g.length ≤ 9223372036854775806 ∧ mdl0.v.length ≤ 9223372036854775806 := ⟨⟨fun c hc => (by cases hc), by decide⟩, by decide, by decide⟩
  unfold readM
  simp only
  split
  · rename_i hc
    split
    · split
      · exact h0
      · split
        · have e1 := evens_len (ws.drop 3)
          have e2 := odds_len (ws.drop 3)
          rw [List.length_drop] at e1 e2
          refine ⟨⟨bl_at ws h 1, ?_⟩, ?_, ?_⟩
          · show (ws.getD 1 []).length ≤ _
            rw [List.getD_eq_getElem?_getD, List.getElem?_eq_getElem (show 1 < ws.length by omega)]
            exact hl _ (List.getElem_mem _)
          · show ((evens (ws.drop 3)).map numV).length ≤ _
            rw [List.length_map]
            omega
          · show ((odds (ws.drop 3)).map numV).length ≤ _
            rw [List.length_map]
            omega
        · exact h0
    · exact h0
  · exact h0
theorem writeM_bd (m : Mdl) (h : By m.name ∧ m.name.length ≤ 281474976710656) : BL (writeM m).1 ∧ (writeM m).1.length ≤ 9223372036854775806 := by
  unfold writeM
  split
  · rename_i hok
    obtain ⟨k1, k2, k3⟩ := ok_form m hok
    refine ⟨fun w hw => (modelT_by m h k1 w hw).1, ?_⟩
    have := modelT_len m ⟨k2, k3⟩
    show (modelT m).length ≤ _
    omega
  · exact ⟨fun w hw => (by cases hw), Nat.zero_le _⟩
theorem one_le (l : List Str) (j : Nat) (x y : AV) (hx : [CardAE.LT l][j]? = some x) (hy : [TV l][j]? = some y) : Le x y := by
  match j with
  | 0 => simp at hx hy; subst hx hy; exact lt_le l
  | j + 1 => simp at hx
theorem models_ax (words : List Str) (m : Mdl) (hm : By m.name ∧ m.name.length ≤ 281474976710656) (hmg : m.g.length ≤ 9223372036854775806) (hmv : m.v.length ≤ 9223372036854775806) (hw : BL words) (hwl : ∀ w ∈ words, w.length ≤ 281474976710656) (hl : (words.length + 1) * 16 ≤ 140737488355328) :
    PCall Tryz.prog 11 [TV words, MA m] (.v (.bool true)) := by
  refine pcall_of fun s => ?_
  have p0 := lent_ax words hl
  have p1 := readM_ax words hw hwl (by omega)
  have p2 := readMr_ax words hw hwl (by omega)
  have p3 := writeM_ax m hm (by omega) (by omega)
  have p4 := writeMr_ax m hm hmg hmv
  obtain ⟨b1, b2, b3⟩ := readM_bd words hw hwl (by omega)
  obtain ⟨b4, b5⟩ := writeM_bd m hm
  have p5 := sameM_ax (readM words).1 (readM words).1 b1.1 b1.1 (by omega) (by omega) (by omega) (by omega)
  rw [sameM_refl] at p5
  have p6 := texts_ax (writeM m).1 (writeM m).1 b4 b4 (by omega) (by omega)
  rw [decide_eq_true rfl] at p6
  have p7 := whole_ax words hw (by omega)
  have ho := one_le words
  generalize readM words = R at *
  generalize writeM m = U at *
  obtain ⟨n, en⟩ := R
  obtain ⟨l, el⟩ := U
  unfold CardAE.LT TV at p0 p7 ho
  unfold RB MA SV TV NV iv at p1 p2
  unfold PA MA SV TV NV iv at p3 p4
  unfold MA SV NV at p5
  unfold TV at p6
  simp only at p1 p2 p3 p4 p5 p6
  unfold TV
  unfold MA SV NV
  refine acall_of Tryz.func11 rfl rfl (by simp [Tryz.ntmps11]) ?_; rw [Tryz.ntmps11, Tryz.results11]
  refine go rTI ?_
  refine aw_reg fun K hK => ?_; refine rn rTI ?_; refine cont_pure awake_ax ?_; refine rn rTI ?_; refine hK _ _ ?_; clear hK K
  refine ifs ?_ ?_ <;> first | exact nope | intro hb
  refine go rTI ?_
  refine aw_reg fun K hK => ?_; refine rn rTI ?_; refine cont_pure p0 ?_; refine rn rTI ?_; refine hK _ _ ?_; clear hK K
  refine go rTI ?_
  refine aw_reg fun K hK => ?_; refine rn rTI ?_; refine acall_args (zs' := [.sl words.length (SL words)]) rfl ho ?_; refine cont_pure p1 ?_; refine rn rTI ?_; refine hK _ _ ?_; clear hK K
  refine go rTI ?_
  refine aw_reg fun K hK => ?_; refine rn rTI ?_; refine cont_pure p2 ?_; refine rn rTI ?_; refine hK _ _ ?_; clear hK K
  refine go rTI ?_
  refine aw_reg fun K hK => ?_; refine rn rTI ?_; refine cont_pure p3 ?_; refine rn rTI ?_; refine hK _ _ ?_; clear hK K
  refine go rTI ?_
  refine aw_reg fun K hK => ?_; refine rn rTI ?_; refine cont_pure p4 ?_; refine rn rTI ?_; refine hK _ _ ?_; clear hK K
  refine go rTI ?_
  refine aw_reg fun K hK => ?_
  refine rn rTI ?_
  refine cont_pure p5 ?_
  refine rn rTI ?_
  refine cont_pure p6 ?_
  refine rn rTI ?_
  refine cont_pure p7 ?_
  refine rn rTI ?_
  refine hK _ _ ?_
  clear hK K
  refine go rTI ?_
  exact fun i hi => by rw [if_neg (by omega), if_neg (by omega), if_neg (by omega)]
theorem reach_eq : reachBytes = 140737488351232 := rfl
theorem models_in (ws : CardX.WordsD) (m : CardX.MdlD) : PCall Tryz.prog 11 [TV ws.1, .ag (CardX.mdlL m.1)] (.v (.bool true)) := by
  obtain ⟨m, h1, h2, h3, h4⟩ := m
  obtain ⟨ws, g1, g2⟩ := ws
  rw [reach_eq] at h1 h3 h4 g2
  exact models_ax ws m ⟨h1.1, by omega⟩ (by omega) (by omega) (fun w hw => (g1 w hw).1) (fun w hw => Nat.le_trans (g1 w hw).2 (by rw [reach_eq]; decide)) (by omega)
end Go.Proofs.YtfjelkjlfcafgaaGreatDoor.CardAH
end
