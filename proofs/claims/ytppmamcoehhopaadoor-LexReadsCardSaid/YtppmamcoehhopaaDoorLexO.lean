/- The document's Lines, walked by the abstract machine. -/
import Derived.Test.YtppmamcoehhopaaDoorAxS
import Derived.Test.YtppmamcoehhopaaDoorLexN
import Derived.Test.YtppmamcoehhopaaDoorLexJ
import Derived.Test.YtppmamcoehhopaaDoorTi
namespace Go.Proofs.YtppmamcoehhopaaDoor.LexO
open Go Go.RowKit Go.Proofs.YtppmamcoehhopaaDoor.Ax Go.Proofs.YtppmamcoehhopaaDoor.Ti Go.Proofs.YtppmamcoehhopaaDoor.Base Go.Proofs.YtppmamcoehhopaaDoor.LexA Go.Proofs.YtppmamcoehhopaaDoor.LexB Go.Proofs.YtppmamcoehhopaaDoor.LexM Go.Proofs.YtppmamcoehhopaaDoor.LexC Go.Proofs.YtppmamcoehhopaaDoor.LexD Go.Proofs.YtppmamcoehhopaaDoor.LexF Go.Proofs.YtppmamcoehhopaaDoor.LexI Go.Proofs.YtppmamcoehhopaaDoor.LexJ Go.Proofs.YtppmamcoehhopaaDoor.LexN
open Go.Proofs.YtppmamcoehhopaaDoor.LexE hiding W
set_option linter.unusedSimpArgs false
set_option linter.unusedVariables false
set_option maxRecDepth 4000
set_option maxHeartbeats 2000000
-- rows TI
theorem rTI : type_of% (cj @ti3 (cj @ti4 (cj @ti9 (cj @ti5 (cj @ti30 (cj @ti23 @ti32)))))) := cj @ti3 (cj @ti4 (cj @ti9 (cj @ti5 (cj @ti30 (cj @ti23 @ti32)))))
-- rows FR

theorem tz1 : Int.toNat 1 = 1 := rfl
theorem tz0 : Int.toNat 0 = 0 := rfl
theorem bsz (s : List UInt8) : (bs s).size = s.length := rfl
theorem bget0 (c : UInt8) (s : List UInt8) : (bs (c :: s)).data.toList.getD 0 0 = c := rfl
theorem zrow2 : zrow [Value.int .i64 0, .slice none 0 0] 2 = [.v (.int .i64 0), .v (.slice none 0 0)] := rfl
theorem bget (s : List UInt8) (k : Nat) : (bs s).data.toList.getD k 0 = s.getD k 0 := rfl
theorem SC_length (ws : W) : (SC ws).length = ws.length := List.length_map ..
theorem sc_one (ws : W) : (SC ws).all AV.one = true := by
  rw [List.all_eq_true]
  intro z hz
  obtain ⟨x, _, rfl⟩ := List.mem_map.1 hz
  rfl
theorem line_at (s : List UInt8) (j k : Nat) (hjk : j ≤ k) (hk : k ≤ s.length) (hn : ∀ b ∈ seg (bs s) j k, b ≠ 10) (he : k = s.length ∨ s.getD k 0 = 10) (hne : s.drop j ≠ []) :
    pre (s.drop j) 10 = seg (bs s) j k ∧ post (s.drop j) 10 = s.drop (k + 1) := by
  have h1 : s.drop j = seg (bs s) j k ++ s.drop k := by
    show s.drop j = (s.take k).drop j ++ s.drop k
    have h2 : s = s.take k ++ s.drop k := (List.take_append_drop k s).symm
    have h3 := congrArg (List.drop j) h2
    rw [List.drop_append_of_le_length (by rw [List.length_take]; omega)] at h3
    exact h3
  have hp : ∀ b ∈ seg (bs s) j k, (b != 10) = true := fun b hb => bne_iff_ne.2 (hn b hb)
  have e1 : pre (s.drop j) 10 = seg (bs s) j k ++ pre (s.drop k) 10 := by
    rw [h1]
    exact List.takeWhile_append_of_pos hp
  have e2 : (s.drop j).dropWhile (· != 10) = (s.drop k).dropWhile (· != 10) := by
    rw [h1]
    exact List.dropWhile_append_of_pos hp
  unfold post
  rw [e1, e2]
  rcases he with rfl | he
  · have : s.drop s.length = [] := List.drop_length
    rw [this]
    have h4 : s.drop (s.length + 1) = [] := List.drop_eq_nil_of_le (by omega)
    rw [h4]
    exact ⟨by simp [pre], rfl⟩
  · by_cases hl : k < s.length
    · have h5 : s.drop k = 10 :: s.drop (k + 1) := by
        rw [List.drop_eq_getElem_cons hl]
        rw [getD_at s k hl] at he
        rw [he]
      rw [h5]
      exact ⟨by simp [pre], by simp⟩
    · have h6 : s.drop k = [] := List.drop_eq_nil_of_le (by omega)
      have h7 : s.drop (k + 1) = [] := List.drop_eq_nil_of_le (by omega)
      rw [h6, h7]
      exact ⟨by simp [pre], rfl⟩
theorem raw_nil {l : List UInt8} (h : rawWords l = []) : lexWords l = [] := by
  show (match rawWords l with | (42 :: _) :: _ => [] | w => w) = []
  rw [h]
theorem raw_star {l t : List UInt8} {ws : List (List UInt8)} (h : rawWords l = (42 :: t) :: ws) : lexWords l = [] := by
  show (match rawWords l with | (42 :: _) :: _ => [] | w => w) = []
  rw [h]
  rfl
theorem raw_else {l t : List UInt8} {c : UInt8} {ws : List (List UInt8)} (h : rawWords l = (c :: t) :: ws) (hc : c ≠ 42) : lexWords l = (c :: t) :: ws := by
  show (match rawWords l with | (42 :: _) :: _ => [] | w => w) = _
  rw [h]
  split
  · rename_i h1
    injection h1 with h1 h2
    injection h1 with h1 h3
    exact absurd h1 hc
  · rfl
theorem cleanL_snoc (l : List UInt8) (j q : Nat) (hjq : j ≤ q) (hq : q < l.length) : cleanL (seg (bs l) j (q + 1)) = (cleanL (seg (bs l) j q) && okB (l.getD q 0)) := by
  rw [seg_snoc (bs l) j q hjq hq]
  unfold cleanL
  rw [List.all_append]
  simp [bs]
theorem clean_bad (l : List UInt8) (j q k : Nat) (hjq : j ≤ q) (hq : q < k) (hk : k ≤ l.length) (h : okB (l.getD q 0) = false) : cleanL (seg (bs l) j k) = false := by
  unfold cleanL
  rw [List.all_eq_false]
  refine ⟨l[q]'(by omega), ?_, by rw [getD_at l q (by omega)] at h; simp [h]⟩
  show l[q]'(by omega) ∈ (l.take k).drop j
  rw [List.mem_iff_getElem]
  refine ⟨q - j, by rw [List.length_drop, List.length_take]; omega, ?_⟩
  simp
  congr 1
  omega
theorem aw_wayx {P : Program} {x : Code} {m0 : Nat} {e : Env} {s : St} {Q : Exit → Env → St → Prop} (ex0 : Exit) (I : Env → St → Prop) (h1 : AW P x m0 e s fun ex e' s' => (ex = ex0 ∧ I e' s') ∨ (ex = .ret ∧ Q .ret e' s')) (h2 : ∀ e' s', I e' s' → Q ex0 e' s') : AW P x m0 e s Q :=
  aw_mono h1 fun ex e s h => by
    rcases h with ⟨rfl, h⟩ | ⟨rfl, h⟩
    · exact h2 _ _ h
    · exact h
theorem rblank_pc (r : Int) : PCall Tryd.prog 17 [.v (.int .u8 r)] (.v (.bool (blankI r))) :=
  pcall_lift (us := [.int .u8 r]) (enters_of Tryd.func17 (by kernel_rfl) rfl) (fun k => .v _) fun w => (rblank_any r w).mono fun en w' ⟨h1, h2⟩ => ⟨h1, by rw [h2]; exact Below.refl _ _⟩
theorem words_own (l : List UInt8) (hl : l.length ≤ 65536) (s : St) : ACall Tryd.prog 18 [.v (.string (bs l))] s fun r s' =>
    r = .own s.nx 0 (rawWords l).length 1 ∧ s' = s.push (SC (rawWords l)) := by
  refine ⟨enters_of Tryd.func18 (by kernel_rfl) rfl, fun w0 k w vs hs hv => ?_⟩
  have : vs = [.string (bs l)] := by
    match vs, hv with
    | [u], hv => have := hv.2 0 (.v (.string (bs l))) u rfl rfl; rw [this.v_eq]
    | [], hv => simp [RelL] at hv
    | _ :: _ :: _, hv => simp [RelL] at hv
  subst this
  refine (rwords_any l w hl).mono ?_
  rintro en w' ⟨v, rfl, ho, hb⟩
  have hs' := hs.below hb
  obtain ⟨r, h1, h2, h3⟩ := adopt_row (B := w.heap.size) hs' ho (relL_strs k _) (fun a u h => cell_block_lt (hs.fz a u h)) fun i c hi h0 e => by
    obtain ⟨u, q, _⟩ := (hs.box i c hi).2 0 h0
    have := cell_block_lt q
    have h2 : (k.φ i).b < w.heap.size := this
    have := (ho.lt _ e).1
    omega
  exact ⟨v, _, _, _, rfl, ⟨rfl, rfl⟩, h1, h2, by rw [← hs.m]; exact k.push_le r⟩
theorem LC_length (L : LL) : (LC L).length = L.length * 2 := by
  induction L with
  | nil => rfl
  | cons p L ih => simp [LC, List.flatMap_cons] at ih ⊢; omega
theorem LC_snoc (L : LL) (a : Nat) (ws : W) : LC (L ++ [(a, ws)]) = LC L ++ [.v (.int .i64 a), WV ws] := by simp [LC]
theorem lc_at (L : LL) (x y : AV) : ((LC L ++ [x, y]).drop (L.length * 2 + 1)).head? = some y := by
  rw [List.drop_append, LC_length, List.drop_of_length_le (by rw [LC_length]; omega), show L.length * 2 + 1 - L.length * 2 = 1 by omega]
  rfl
theorem lc_set (L : LL) (x y z : AV) : (LC L ++ [x, y]).set (L.length * 2 + 1) z = LC L ++ [x, z] := by
  rw [List.set_append_right _ _ (by rw [LC_length]; omega), LC_length, show L.length * 2 + 1 - L.length * 2 = 1 by omega]
  rfl
theorem sc_cons (x : List UInt8) (ws : W) : SC (x :: ws) = .v (.string (bs x)) :: SC ws := rfl
theorem sc_app (a b : W) : SC a ++ SC b = SC (a ++ b) := by simp [SC]
theorem sc_app1 (a : W) (x : List UInt8) : SC a ++ [.v (.string (bs x))] = SC (a ++ [x]) := by simp [SC]
theorem bs_tail (c : UInt8) (x : List UInt8) : (bs (c :: x)).extract 1 (x.length + 1) = bs x := by
  rw [seg_bs]
  congr 1
  unfold seg
  show ((c :: x).take (x.length + 1)).drop 1 = x
  rw [List.take_succ_cons, List.take_length]
  rfl
/-- The lines so far: all but the last one's words lie still. -/
def LP (s0 : Nat) (b : Nat) (L : LL) (s' : St) : Prop :=
  s0 ≤ b ∧ b < s'.nx ∧ ((L = [] ∧ s'.get b = some []) ∨ ∃ L0 a ws d, L = L0 ++ [(a, ws)] ∧ s0 ≤ d ∧ d < s'.nx ∧ d ≠ b ∧ s'.get b = some (LC L0 ++ [.v (.int .i64 (a : Nat)), .own d 0 ws.length 1]) ∧ s'.get d = some (SC ws))
theorem LP.push {s0 b : Nat} {L : LL} {s' : St} (h : LP s0 b L s') (c : List AV) : LP s0 b L (s'.push c) := by
  obtain ⟨h1, h2, h3⟩ := h
  refine ⟨h1, Nat.lt_succ_of_lt h2, ?_⟩
  rcases h3 with ⟨e, g⟩ | ⟨L0, a, ws, d, e, d1, d2, d3, g1, g2⟩
  · exact .inl ⟨e, by rw [St.push_ne _ _ _ (by omega)]; exact g⟩
  · exact .inr ⟨L0, a, ws, d, e, d1, Nat.lt_succ_of_lt d2, d3, by rw [St.push_ne _ _ _ (by omega)]; exact g1, by rw [St.push_ne _ _ _ (by omega)]; exact g2⟩
theorem lc_frz (i : Nat) (c : List AV) (L : LL) : frz.frzL i c (LC L) = LC L := by
  apply List.ext_getElem?
  intro j
  rw [frzL_get]
  cases h : (LC L)[j]? with
  | none => rfl
  | some z =>
    rw [Option.map_some, frz_idf]
    exact (idfL_iff _).1 (lv_idf L) z (List.mem_of_getElem? h)
theorem frzL_app (i : Nat) (c a b : List AV) : frz.frzL i c (a ++ b) = frz.frzL i c a ++ frz.frzL i c b := by
  induction a with
  | nil => rfl
  | cons x a ih => show frz i c x :: frz.frzL i c (a ++ b) = _; rw [ih]; rfl
theorem sc_take (ws : W) : ((SC ws).drop 0).take (ws.length * 1) = SC ws := by rw [List.drop_zero, Nat.mul_one, ← SC_length, List.take_length]
/-- One line more. -/
theorem lp_new {s0 b d n : Nat} {L : LL} {ws : W} {s3 : St} {x : List AV} (h0 : s0 ≤ d) (hd : s3.get d = some (SC ws)) (n3 : s3.nx = d + 1) (hb : s0 ≤ b) (hbd : b ≠ d) {s : St} (fr : ∀ i, i < s0 → s3.get i = s.get i) :
    LP s0 (d + 1 + 1) (L ++ [(n, ws)]) (((s3.push x).kill b).push (LC L ++ [.v (.int .i64 (n : Nat)), .own d 0 ws.length 1])) ∧ ∀ i, i < s0 → (((s3.push x).kill b).push (LC L ++ [.v (.int .i64 (n : Nat)), .own d 0 ws.length 1])).get i = s.get i := by
  have hnx : ((s3.push x).kill b).nx = d + 2 := by rw [St.nx_kill, St.nx_push, n3]
  refine ⟨⟨by omega, by rw [St.nx_push, hnx]; omega, .inr ⟨L, n, ws, d, rfl, h0, by rw [St.nx_push, hnx]; omega, by omega, ?_, ?_⟩⟩, fun i hi => ?_⟩
  · have : d + 1 + 1 = ((s3.push x).kill b).nx := by omega
    rw [this, St.push_same]
  · rw [St.push_ne _ _ _ (by omega), St.kill_ne _ _ _ (by omega), St.push_ne _ _ _ (by omega)]
    exact hd
  · rw [St.push_ne _ _ _ (by omega), St.kill_ne _ _ _ (by omega), St.push_ne _ _ _ (by omega)]
    exact fr i hi
theorem st_app (s : St) (b d : Nat) (Y Z : List AV) (hb : b < s.nx) : (((s.kill d).push Y).set b Z).nx = s.nx + 1 ∧ (((s.kill d).push Y).set b Z).get b = some Z ∧ (((s.kill d).push Y).set b Z).get s.nx = some Y ∧ ∀ i, i ≠ b → i ≠ d → i < s.nx → (((s.kill d).push Y).set b Z).get i = s.get i := by
  have hn : (s.kill d).nx = s.nx := rfl
  refine ⟨rfl, St.set_same _ _ _, ?_, fun i h1 h2 h3 => ?_⟩
  · rw [St.set_ne _ _ _ _ (by omega)]
    exact St.push_same _ _
  · rw [St.set_ne _ _ _ _ h1, St.push_ne _ _ _ (by omega), St.kill_ne _ _ _ h2]
structure SL (t : List UInt8) (n j k b l : Nat) (e : Env) : Prop where
  en : e.n = 148
  e0 : e.m 0 = .v (.string (bs t))
  e5 : e.m 5 = .own b 0 l 2
  e6 : e.m 6 = .v (.int .i64 n)
  e7 : e.m 7 = .v (.int .i64 j)
  e8 : e.m 8 = .v (.int .i64 k)
structure RI (s : St) (t : List UInt8) (R : LL × Int × Int) (j k n b : Nat) (L : LL) (s' : St) : Prop where
  lp : LP s.nx b L s'
  fr : ∀ i, i < s.nx → s'.get i = s.get i
  rest : lexFold (n + 1) L (linesOf (t.drop j)) = R
  kl : k ≤ t.length + 1
  jk : j ≤ k
  pos : n ≤ j
  count : L.length ≤ n
  few : ∀ p ∈ L, p.2.length ≤ 64
  seg : ∀ b ∈ seg (bs t) j k, b ≠ 10
  last : k = t.length + 1 → j = k
theorem RI.next {s s1 s2 : St} {t : List UInt8} {R : LL × Int × Int} {j k n b b' : Nat} {L L' : LL} {line : List UInt8} (h : RI s t R j k n b L s1) (hk : k ≤ t.length) (lp : LP s.nx b' L' s2) (fr : ∀ i, i < s.nx → s2.get i = s.get i)
    (HR : (if (lexStep (n + 1) L line).1 = 0 then lexFold (n + 1 + 1) (lexStep (n + 1) L line).2 (linesOf (t.drop (k + 1))) else ([], ((n + 1 : Nat) : Int), (lexStep (n + 1) L line).1)) = R)
    (hst : lexStep (n + 1) L line = (0, L')) (count : L'.length ≤ n + 1) (few : ∀ p ∈ L', p.2.length ≤ 64) : RI s t R (k + 1) (k + 1) (n + 1) b' L' s2 := by
  refine ⟨lp, fr, ?_, by omega, Nat.le_refl _, ?_, count, few, ?_, fun _ => rfl⟩
  · rw [hst] at HR
    simpa using HR
  · have := h.pos
    have := h.jk
    omega
  · intro b hb
    have e : LexM.seg (bs t) (k + 1) (k + 1) = [] := by
      unfold LexM.seg
      apply List.drop_eq_nil_of_le
      rw [List.length_take]
      omega
    rw [e] at hb
    cases hb
theorem err_out {R : LL × Int × Int} {s : List UInt8} {k n : Nat} {L : LL} {line : List UInt8} {code : Int}
    (HR : (if (lexStep (n + 1) L line).1 = 0 then lexFold (n + 1 + 1) (lexStep (n + 1) L line).2 (linesOf (s.drop (k + 1))) else ([], ((n + 1 : Nat) : Int), (lexStep (n + 1) L line).1)) = R)
    (hst : lexStep (n + 1) L line = (code, [])) (hc : ¬ code = 0) : R = ([], ((n + 1 : Nat) : Int), code) := by
  rw [hst] at HR
  rw [← HR]
  simp [hc]
theorem le_err (n code : Int) : Le (.tp [.v (.slice none 0 0), .v (.int .i64 n), .v (.int .i64 code)]) (RV ([], n, code)) :=
  Le.tp rfl fun j x y hx hy => by
    match j with
    | 0 => simp at hx hy; subst hx hy; exact Le.nil 0 0 rfl
    | 1 => simp at hx hy; subst hx hy; exact Le.refl _
    | 2 => simp at hx hy; subst hx hy; exact Le.refl _
    | j + 3 => simp at hx
theorem rv_idf (R : LL × Int × Int) : idf (RV R) = true := by
  show (idf (LV _) && true) = true
  rw [lv_idf]
  rfl
def nextL (n : Nat) (L : LL) (w : W) : LL := match w with
  | (43 :: t) :: ws => addLast L (plusWords ((43 :: t) :: ws))
  | w => L ++ [(n, w)]
theorem okB_c (b : UInt8) : okB b = true ↔ blankI (b.toNat : Int) = true ∨ (¬ (b.toNat : Int) < 33 ∧ ¬ (126 : Int) < (b.toNat : Int)) := by
  have h := okB_iff b
  rw [h]
  unfold blankI
  simp only [Bool.or_eq_true, beq_iff_eq]
  omega
set_option maxHeartbeats 8000000 in
theorem rlines_pc (t : List UInt8) : PCall Tryd.prog 10 [.v (.string (bs t))] (RV (lexAll t)) := by
  refine pcall_le fun s => ?_
  by_cases hl : 65536 < t.length
  · rw [show lexAll t = ([], 0, 2) by rw [lexAll, if_pos hl]]
    refine acall_of Tryd.func10 rfl rfl (by simp [Tryd.ntmps10]) ?_; rw [Tryd.ntmps10, Tryd.results10]
    (first | refine go (cj rTI (cj @bsz (cj @SC_length (cj @sc_one (cj @Nat.zero_add (cj @tz0 @tz1)))))) ?_ | exact go0 (cj rTI (cj @bsz (cj @SC_length (cj @sc_one (cj @Nat.zero_add (cj @tz0 @tz1)))))))
    (try rw [then_normal]); (try refine aw_seq ?_); refine aw_cond rfl ?_ ?_ <;> intro hb <;> (try (cases hb; done)) <;> (try simp only [bq] at hb) <;> (try (exfalso; omega))
    (first | refine go (cj rTI (cj @bsz (cj @SC_length (cj @sc_one (cj @Nat.zero_add (cj @tz0 @tz1)))))) ?_ | exact go0 (cj rTI (cj @bsz (cj @SC_length (cj @sc_one (cj @Nat.zero_add (cj @tz0 @tz1)))))))
    exact ⟨le_err 0 2, rv_idf _⟩
  · have hR : lexFold 1 [] (linesOf t) = lexAll t := by rw [lexAll, if_neg hl]
    have hidf := rv_idf (lexAll t)
    have hl2 : t.length ≤ 65536 := by omega
    generalize lexAll t = R at *
    clear hl
    refine acall_of Tryd.func10 rfl rfl (by simp [Tryd.ntmps10]) ?_; rw [Tryd.ntmps10, Tryd.results10]
    (first | refine go (cj rTI (cj @bsz (cj @SC_length (cj @sc_one (cj @Nat.zero_add (cj @tz0 @tz1)))))) ?_ | exact go0 (cj rTI (cj @bsz (cj @SC_length (cj @sc_one (cj @Nat.zero_add (cj @tz0 @tz1)))))))
    (try rw [then_normal]); (try refine aw_seq ?_); refine aw_cond rfl ?_ ?_ <;> intro hb <;> (try (cases hb; done)) <;> (try simp only [bq] at hb) <;> (try (exfalso; omega))
    refine aw_skip ?_
    refine aw_seq ?_
    refine aw_reg fun K hK => ?_; refine rn (cj rTI (cj @bsz (cj @SC_length (cj @sc_one (cj @Nat.zero_add (cj @tz0 @tz1)))))) ?_; refine hK _ _ ?_; clear hK K
    refine aw_seq ?_
    refine aw_reg fun K hK => ?_; refine rn (cj rTI (cj @bsz (cj @SC_length (cj @sc_one (cj @Nat.zero_add (cj @tz0 @tz1)))))) ?_; refine hK _ _ ?_; clear hK K
    refine aw_seq ?_
    refine aw_reg fun K hK => ?_; refine rn (cj rTI (cj @bsz (cj @SC_length (cj @sc_one (cj @Nat.zero_add (cj @tz0 @tz1)))))) ?_; refine hK _ _ ?_; clear hK K
    refine aw_seq ?_
    refine aw_seq ?_
    refine aw_reg fun K hK => ?_; refine rn (cj rTI (cj @bsz (cj @SC_length (cj @sc_one (cj @Nat.zero_add (cj @tz0 @tz1)))))) ?_; refine hK _ _ ?_; clear hK K
    refine aw_nil 5 2 (by (first | refine rn (cj rTI (cj @bsz (cj @SC_length (cj @sc_one (cj @Nat.zero_add (cj @tz0 @tz1)))))) ?_ | exact rn0 (cj rTI (cj @bsz (cj @SC_length (cj @sc_one (cj @Nat.zero_add (cj @tz0 @tz1)))))))) (by (first | refine rn (cj rTI (cj @bsz (cj @SC_length (cj @sc_one (cj @Nat.zero_add (cj @tz0 @tz1)))))) ?_ | exact rn0 (cj rTI (cj @bsz (cj @SC_length (cj @sc_one (cj @Nat.zero_add (cj @tz0 @tz1)))))))) ?_
    refine Ax.aw_way (fun e s' => ∃ b L, e.n = 148 ∧ e.m 5 = .own b 0 L.length 2 ∧ LP s.nx b L s' ∧ (∀ i, i < s.nx → s'.get i = s.get i) ∧ R = (L, 0, 0)) ?_ ?_
    · refine aw_block ?_
      refine aw_loop (fun m e s' => ∃ j k n b L, m = t.length + 2 - k ∧ SL t n j k b L.length e ∧ RI s t R j k n b L s') (t.length + 2) ?_ ?_
      · refine ⟨0, 0, 0, s.nx, [], by omega, ?_, ?_⟩
        · constructor
          all_goals ((repeat' refine And.intro ?_ ?_) <;> (first | done | exact rfl | (intro i hi; exact rn0 (cj rTI (cj @bsz (cj @SC_length (cj @sc_one (cj @Nat.zero_add (cj @tz0 @tz1)))))); done) | (exact rn0 (cj rTI (cj @bsz (cj @SC_length (cj @sc_one (cj @Nat.zero_add (cj @tz0 @tz1)))))); done) | skip))
        · refine ⟨⟨Nat.le_refl _, Nat.lt_succ_self _, .inl ⟨rfl, St.push_same _ _⟩⟩, fun i hi => St.push_ne _ _ _ (by omega), hR, by omega, Nat.le_refl _, Nat.le_refl _, Nat.le_refl _, fun p hp => (by cases hp), fun b hb => ?_, fun h => by omega⟩
          simp [LexM.seg] at hb
      · rintro m e s1 ⟨j, k, n, b, L, rfl, H, I⟩
        have h1 := H.en
        have k0 := H.e0
        have k5 := H.e5
        have k6 := H.e6
        have k7 := H.e7
        have k8 := H.e8
        have hjk := I.jk
        have hkl := I.kl
        clear H
        by_cases hend : k = t.length + 1
        · have hr := I.rest
          rw [I.last hend, List.drop_eq_nil_of_le (by omega), linesOf_nil] at hr
          (first | refine go (cj rTI (cj @bsz (cj @SC_length (cj @sc_one (cj @Nat.zero_add (cj @tz0 (cj @tz1 (cj @h1 (cj @k0 @k8))))))))) ?_ | exact go0 (cj rTI (cj @bsz (cj @SC_length (cj @sc_one (cj @Nat.zero_add (cj @tz0 (cj @tz1 (cj @h1 (cj @k0 @k8))))))))))
          (try rw [then_normal]); (try refine aw_seq ?_); refine aw_cond rfl ?_ ?_ <;> intro hb <;> (try (cases hb; done)) <;> (try simp only [bq] at hb) <;> (try (exfalso; omega))
          (first | refine go trivial ?_ | exact go0 trivial)
          exact .inl ⟨b, L, h1, k5, I.lp, I.fr, hr.symm⟩
        · have hk : k ≤ t.length := by omega
          (first | refine go (cj rTI (cj @bsz (cj @SC_length (cj @sc_one (cj @Nat.zero_add (cj @tz0 (cj @tz1 (cj @h1 (cj @k0 @k8))))))))) ?_ | exact go0 (cj rTI (cj @bsz (cj @SC_length (cj @sc_one (cj @Nat.zero_add (cj @tz0 (cj @tz1 (cj @h1 (cj @k0 @k8))))))))))
          (try rw [then_normal]); (try refine aw_seq ?_); refine aw_cond rfl ?_ ?_ <;> intro hb <;> (try (cases hb; done)) <;> (try simp only [bq] at hb) <;> (try (exfalso; omega))
          refine aw_skip ?_
          refine aw_seq ?_
          refine aw_block ?_
          refine aw_seq ?_
          refine aw_seq ?_
          refine aw_only (fun e' s' => ∃ bb : Bool, SL t n j k b L.length e' ∧ s' = s1 ∧ e'.m 29 = .v (.bool bb) ∧ (bb = true ↔ k < t.length ∧ t.getD k 0 ≠ 10)) ?_ ?_
          · by_cases hkl : k = t.length
            · have t1 : decide ((k : Int) < (t.length : Int)) = false := by simp; omega
              refine aw_reg fun K hK => ?_; refine rn (cj rTI (cj @bsz (cj @SC_length (cj @sc_one (cj @Nat.zero_add (cj @tz0 (cj @tz1 (cj @h1 (cj @k0 (cj @k8 @t1)))))))))) ?_; refine hK _ _ ?_; clear hK K
              refine ⟨rfl, false, ?_, rfl, ?_, by simp; omega⟩
              · constructor
                all_goals ((first | refine rn (cj @h1 (cj @k0 (cj @k5 (cj @k6 (cj @k7 @k8))))) ?_ | exact rn0 (cj @h1 (cj @k0 (cj @k5 (cj @k6 (cj @k7 @k8)))))))
              · (first | refine rn @h1 ?_ | exact rn0 @h1)
            · have t1 : decide ((k : Int) < (t.length : Int)) = true := by simp; omega
              have hx : (((t.getD k 0).toNat : Int) != 10) = !(t.getD k 0 == 10) := by
                rw [Bool.eq_iff_iff]
                simp [← UInt8.toNat_inj]
                omega
              generalize hc : t.getD k 0 = c at *
              refine aw_reg fun K hK => ?_; refine rn (cj rTI (cj @bsz (cj @SC_length (cj @sc_one (cj @Nat.zero_add (cj @tz0 (cj @tz1 (cj @h1 (cj @k0 (cj @k8 (cj @t1 (cj @bget (cj @Int.toNat_natCast (cj @hc @hx)))))))))))))) ?_; refine hK _ _ ?_; clear hK K
              refine ⟨rfl, !(c == 10), ?_, rfl, ?_, by simp; omega⟩
              · constructor
                all_goals ((first | refine rn (cj @h1 (cj @k0 (cj @k5 (cj @k6 (cj @k7 @k8))))) ?_ | exact rn0 (cj @h1 (cj @k0 (cj @k5 (cj @k6 (cj @k7 @k8)))))))
              · (first | refine rn @h1 ?_ | exact rn0 @h1)
          · clear h1 k0 k5 k6 k7 k8 e
            rintro e s1' ⟨bb, H, rfl, k29, hbb⟩
            have h1 := H.en
            have k0 := H.e0
            have k5 := H.e5
            have k6 := H.e6
            have k7 := H.e7
            have k8 := H.e8
            clear H
            cases bb with
            | true =>
              obtain ⟨hb1, hb2⟩ := hbb.1 rfl
              refine aw_cond k29 (fun _ => ?_) (fun h => by cases h)
              (first | refine go (cj rTI (cj @bsz (cj @SC_length (cj @sc_one (cj @Nat.zero_add (cj @tz0 (cj @tz1 (cj @h1 @k8)))))))) ?_ | exact go0 (cj rTI (cj @bsz (cj @SC_length (cj @sc_one (cj @Nat.zero_add (cj @tz0 (cj @tz1 (cj @h1 @k8)))))))))
              simp only [block_normal, loop_normal]
              refine ⟨t.length + 2 - (k + 1), by omega, j, k + 1, n, b, L, rfl, ?_, ?_⟩
              · constructor
                all_goals ((first | refine rn (cj @h1 (cj @k0 (cj @k5 (cj @k6 (cj @k7 @k8))))) ?_ | exact rn0 (cj @h1 (cj @k0 (cj @k5 (cj @k6 (cj @k7 @k8)))))))
                all_goals rfl
              · refine ⟨I.lp, I.fr, I.rest, by omega, by omega, I.pos, I.count, I.few, fun x hx => ?_, by omega⟩
                rw [seg_snoc (bs t) j k hjk hb1] at hx
                rcases List.mem_append.1 hx with hx | hx
                · exact I.seg x hx
                · rw [List.mem_singleton] at hx
                  subst hx
                  exact hb2
            | false =>
              refine aw_cond k29 (fun h => by cases h) (fun _ => ?_)
              refine aw_skip ?_
              have hk10 : k = t.length ∨ t.getD k 0 = 10 := by
                by_cases q1 : k = t.length
                · exact .inl q1
                · by_cases q2 : t.getD k 0 = 10
                  · exact .inr q2
                  · have := hbb.2 ⟨by omega, q2⟩
                    cases this
              refine aw_seq ?_
              refine aw_seq ?_
              refine aw_only (fun e' s' => ∃ bb : Bool, SL t n j k b L.length e' ∧ s' = s1' ∧ e'.m 38 = .v (.bool bb) ∧ (bb = true ↔ k = t.length ∧ j = k)) ?_ ?_
              · by_cases hkl : k = t.length
                · have t1 : ((k : Int) == (t.length : Int)) = true := by simp [hkl]
                  have t2 : ((j : Int) == (k : Int)) = decide (j = k) := by
                    rw [Bool.eq_iff_iff]
                    simp
                    omega
                  refine aw_reg fun K hK => ?_; refine rn (cj rTI (cj @bsz (cj @SC_length (cj @sc_one (cj @Nat.zero_add (cj @tz0 (cj @tz1 (cj @h1 (cj @k0 (cj @k7 (cj @k8 (cj @t1 @t2)))))))))))) ?_; refine hK _ _ ?_; clear hK K
                  refine ⟨rfl, decide (j = k), ?_, rfl, ?_, by simp [hkl]⟩
                  · constructor
                    all_goals ((first | refine rn (cj @h1 (cj @k0 (cj @k5 (cj @k6 (cj @k7 @k8))))) ?_ | exact rn0 (cj @h1 (cj @k0 (cj @k5 (cj @k6 (cj @k7 @k8)))))))
                  · (first | refine rn @h1 ?_ | exact rn0 @h1)
                · have t1 : ((k : Int) == (t.length : Int)) = false := by simp; omega
                  refine aw_reg fun K hK => ?_; refine rn (cj rTI (cj @bsz (cj @SC_length (cj @sc_one (cj @Nat.zero_add (cj @tz0 (cj @tz1 (cj @h1 (cj @k0 (cj @k7 (cj @k8 @t1))))))))))) ?_; refine hK _ _ ?_; clear hK K
                  refine ⟨rfl, false, ?_, rfl, ?_, by simp [hkl]⟩
                  · constructor
                    all_goals ((first | refine rn (cj @h1 (cj @k0 (cj @k5 (cj @k6 (cj @k7 @k8))))) ?_ | exact rn0 (cj @h1 (cj @k0 (cj @k5 (cj @k6 (cj @k7 @k8)))))))
                  · (first | refine rn @h1 ?_ | exact rn0 @h1)
              · clear h1 k0 k5 k6 k7 k8 k29 hbb e
                rintro e s1 ⟨bb, H, rfl, k38, hbb⟩
                have h1 := H.en
                have k0 := H.e0
                have k5 := H.e5
                have k6 := H.e6
                have k7 := H.e7
                have k8 := H.e8
                clear H
                cases bb with
                | true =>
                  obtain ⟨hkt, hj⟩ := hbb.1 rfl
                  have hr := I.rest
                  rw [hj, hkt, List.drop_length, linesOf_nil] at hr
                  refine aw_cond k38 (fun _ => ?_) (fun h => by cases h)
                  (first | refine go trivial ?_ | exact go0 trivial)
                  exact .inl ⟨b, L, h1, k5, I.lp, I.fr, hr.symm⟩
                | false =>
                  refine aw_cond k38 (fun h => by cases h) (fun _ => ?_)
                  have hne : t.drop j ≠ [] := by
                    rw [ne_eq, List.drop_eq_nil_iff]
                    intro h
                    have h1 := hbb.2 ⟨by omega, by omega⟩
                    cases h1
                  have HLN := line_at t j k hjk hk I.seg hk10 hne
                  have hrest := I.rest
                  rw [linesOf_cons _ hne, HLN.1, HLN.2, lexFold] at hrest
                  have hpos := I.pos
                  clear hne HLN hbb k38
                  (first | refine go (cj rTI (cj @bsz (cj @SC_length (cj @sc_one (cj @Nat.zero_add (cj @tz0 (cj @tz1 (cj @h1 (cj @k6 @k7))))))))) ?_ | exact go0 (cj rTI (cj @bsz (cj @SC_length (cj @sc_one (cj @Nat.zero_add (cj @tz0 (cj @tz1 (cj @h1 (cj @k6 @k7))))))))))
                  refine aw_wayx (.exit 2) (fun e' s' => SL t (n + 1) j k b L.length e' ∧ s' = s1 ∧ cleanL (LexM.seg (bs t) j k) = true) ?_ ?_
                  · refine aw_loop (fun m e' s' => ∃ q, j ≤ q ∧ q ≤ k ∧ m = k - q ∧ SL t (n + 1) j k b L.length e' ∧ e'.m 9 = .v (.int .i64 q) ∧ s' = s1 ∧ cleanL (LexM.seg (bs t) j q) = true) (k - j) ?_ ?_
                    · refine ⟨j, Nat.le_refl _, hjk, rfl, ?_, ?_, rfl, by rw [seg_self _ _ (by show j ≤ t.length; omega)]; rfl⟩
                      · constructor
                        all_goals ((first | refine rn (cj @h1 (cj @k0 (cj @k5 (cj @k6 (cj @k7 @k8))))) ?_ | exact rn0 (cj @h1 (cj @k0 (cj @k5 (cj @k6 (cj @k7 @k8)))))))
                        all_goals rfl
                      · (first | refine rn @h1 ?_ | exact rn0 @h1)
                    · clear h1 k0 k5 k6 k7 k8 e
                      rintro m e s2 ⟨q, hq1, hq2, rfl, H, k9, rfl, hcl⟩
                      have h1 := H.en
                      have k0 := H.e0
                      have k5 := H.e5
                      have k6 := H.e6
                      have k7 := H.e7
                      have k8 := H.e8
                      clear H
                      by_cases hq : q < k
                      · have hsn := cleanL_snoc t j q hq1 (by omega)
                        rw [hcl, Bool.true_and] at hsn
                        have ho := okB_c (t.getD q 0)
                        have hbad := clean_bad t j q k hq1 hq hk
                        have hpc := rblank_pc ((t.getD q 0).toNat : Int)
                        have hql : q < t.length := by omega
                        generalize okB (t.getD q 0) = ok at *
                        generalize hcc : ((t.getD q 0).toNat : Int) = c at *
                        generalize blankI c = bl at *
                        cases bl with
                        | true =>
                          have hok := ho.2 (.inl rfl)
                          clear ho
                          (first | refine go (cj rTI (cj @bsz (cj @SC_length (cj @sc_one (cj @Nat.zero_add (cj @tz0 (cj @tz1 (cj @h1 (cj @k8 @k9))))))))) ?_ | exact go0 (cj rTI (cj @bsz (cj @SC_length (cj @sc_one (cj @Nat.zero_add (cj @tz0 (cj @tz1 (cj @h1 (cj @k8 @k9))))))))))
                          (try rw [then_normal]); (try refine aw_seq ?_); refine aw_cond rfl ?_ ?_ <;> intro hb <;> (try (cases hb; done)) <;> (try simp only [bq] at hb) <;> (try (exfalso; omega))
                          (first | refine go trivial ?_ | exact go0 trivial)
                          refine aw_reg fun K hK => ?_; refine rn (cj rTI (cj @bsz (cj @SC_length (cj @sc_one (cj @Nat.zero_add (cj @tz0 (cj @tz1 (cj @h1 (cj @k0 (cj @k9 (cj @bget (cj @Int.toNat_natCast @hcc)))))))))))) ?_; refine cont_pure hpc ?_; refine rn (cj rTI (cj @bsz (cj @SC_length (cj @sc_one (cj @Nat.zero_add (cj @tz0 (cj @tz1 (cj @h1 (cj @k0 (cj @k9 (cj @bget (cj @Int.toNat_natCast @hcc)))))))))))) ?_; refine hK _ _ ?_; clear hK K
                          (try rw [then_normal]); (try refine aw_seq ?_); refine aw_cond rfl ?_ ?_ <;> intro hb <;> (try (cases hb; done)) <;> (try simp only [bq] at hb) <;> (try (exfalso; omega))
                          (first | refine go (cj rTI (cj @bsz (cj @SC_length (cj @sc_one (cj @Nat.zero_add (cj @tz0 (cj @tz1 (cj @h1 @k9)))))))) ?_ | exact go0 (cj rTI (cj @bsz (cj @SC_length (cj @sc_one (cj @Nat.zero_add (cj @tz0 (cj @tz1 (cj @h1 @k9)))))))))
                          simp only [block_normal, loop_normal]
                          refine ⟨k - (q + 1), by omega, q + 1, by omega, by omega, by first | rfl | trivial, ?_, ?_, by first | rfl | trivial, by rw [hsn, hok]⟩
                          · constructor
                            all_goals ((first | refine rn (cj @h1 (cj @k0 (cj @k5 (cj @k6 (cj @k7 @k8))))) ?_ | exact rn0 (cj @h1 (cj @k0 (cj @k5 (cj @k6 (cj @k7 @k8)))))))
                          · (first | refine rn @h1 ?_ | exact rn0 @h1)
                            rfl
                        | false =>
                          by_cases c33 : c < 33
                          · have hok : ok = false := by
                              rw [Bool.eq_false_iff]
                              intro h
                              rcases ho.1 h with h | h
                              · cases h
                              · exact h.1 c33
                            have hst : lexStep (n + 1) L (LexM.seg (bs t) j k) = (60, []) := by rw [lexStep, hbad hok]; rfl
                            rw [err_out hrest hst (by decide)]
                            have c33' : decide (c < 33) = true := by simp [c33]
                            clear hrest hst hidf
                            (first | refine go (cj rTI (cj @bsz (cj @SC_length (cj @sc_one (cj @Nat.zero_add (cj @tz0 (cj @tz1 (cj @h1 (cj @k8 @k9))))))))) ?_ | exact go0 (cj rTI (cj @bsz (cj @SC_length (cj @sc_one (cj @Nat.zero_add (cj @tz0 (cj @tz1 (cj @h1 (cj @k8 @k9))))))))))
                            (try rw [then_normal]); (try refine aw_seq ?_); refine aw_cond rfl ?_ ?_ <;> intro hb <;> (try (cases hb; done)) <;> (try simp only [bq] at hb) <;> (try (exfalso; omega))
                            (first | refine go trivial ?_ | exact go0 trivial)
                            refine aw_reg fun K hK => ?_; refine rn (cj rTI (cj @bsz (cj @SC_length (cj @sc_one (cj @Nat.zero_add (cj @tz0 (cj @tz1 (cj @h1 (cj @k0 (cj @k9 (cj @bget (cj @Int.toNat_natCast (cj @hcc @c33'))))))))))))) ?_; refine cont_pure hpc ?_; refine rn (cj rTI (cj @bsz (cj @SC_length (cj @sc_one (cj @Nat.zero_add (cj @tz0 (cj @tz1 (cj @h1 (cj @k0 (cj @k9 (cj @bget (cj @Int.toNat_natCast (cj @hcc @c33'))))))))))))) ?_; refine hK _ _ ?_; clear hK K
                            (try rw [then_normal]); (try refine aw_seq ?_); refine aw_cond rfl ?_ ?_ <;> intro hb <;> (try (cases hb; done)) <;> (try simp only [bq] at hb) <;> (try (exfalso; omega))
                            (first | refine go (cj rTI (cj @bsz (cj @SC_length (cj @sc_one (cj @Nat.zero_add (cj @tz0 (cj @tz1 (cj @h1 @k6)))))))) ?_ | exact go0 (cj rTI (cj @bsz (cj @SC_length (cj @sc_one (cj @Nat.zero_add (cj @tz0 (cj @tz1 (cj @h1 @k6)))))))))
                            exact .inr (.inr ⟨le_err _ _, rv_idf _, I.fr⟩)
                          · have c33' : decide (c < 33) = false := by simp [c33]
                            by_cases c126 : 126 < c
                            · have hok : ok = false := by
                                rw [Bool.eq_false_iff]
                                intro h
                                rcases ho.1 h with h | h
                                · cases h
                                · exact h.2 c126
                              have hst : lexStep (n + 1) L (LexM.seg (bs t) j k) = (60, []) := by rw [lexStep, hbad hok]; rfl
                              rw [err_out hrest hst (by decide)]
                              have c126' : decide (126 < c) = true := by simp [c126]
                              clear hrest hst hidf
                              (first | refine go (cj rTI (cj @bsz (cj @SC_length (cj @sc_one (cj @Nat.zero_add (cj @tz0 (cj @tz1 (cj @h1 (cj @k8 @k9))))))))) ?_ | exact go0 (cj rTI (cj @bsz (cj @SC_length (cj @sc_one (cj @Nat.zero_add (cj @tz0 (cj @tz1 (cj @h1 (cj @k8 @k9))))))))))
                              (try rw [then_normal]); (try refine aw_seq ?_); refine aw_cond rfl ?_ ?_ <;> intro hb <;> (try (cases hb; done)) <;> (try simp only [bq] at hb) <;> (try (exfalso; omega))
                              (first | refine go trivial ?_ | exact go0 trivial)
                              refine aw_reg fun K hK => ?_; refine rn (cj rTI (cj @bsz (cj @SC_length (cj @sc_one (cj @Nat.zero_add (cj @tz0 (cj @tz1 (cj @h1 (cj @k0 (cj @k9 (cj @bget (cj @Int.toNat_natCast (cj @hcc (cj @c33' @c126')))))))))))))) ?_; refine cont_pure hpc ?_; refine rn (cj rTI (cj @bsz (cj @SC_length (cj @sc_one (cj @Nat.zero_add (cj @tz0 (cj @tz1 (cj @h1 (cj @k0 (cj @k9 (cj @bget (cj @Int.toNat_natCast (cj @hcc (cj @c33' @c126')))))))))))))) ?_; refine hK _ _ ?_; clear hK K
                              (try rw [then_normal]); (try refine aw_seq ?_); refine aw_cond rfl ?_ ?_ <;> intro hb <;> (try (cases hb; done)) <;> (try simp only [bq] at hb) <;> (try (exfalso; omega))
                              (first | refine go (cj rTI (cj @bsz (cj @SC_length (cj @sc_one (cj @Nat.zero_add (cj @tz0 (cj @tz1 (cj @h1 @k6)))))))) ?_ | exact go0 (cj rTI (cj @bsz (cj @SC_length (cj @sc_one (cj @Nat.zero_add (cj @tz0 (cj @tz1 (cj @h1 @k6)))))))))
                              exact .inr (.inr ⟨le_err _ _, rv_idf _, I.fr⟩)
                            · have hok := ho.2 (.inr ⟨c33, c126⟩)
                              have c126' : decide (126 < c) = false := by simp [c126]
                              clear ho
                              (first | refine go (cj rTI (cj @bsz (cj @SC_length (cj @sc_one (cj @Nat.zero_add (cj @tz0 (cj @tz1 (cj @h1 (cj @k8 @k9))))))))) ?_ | exact go0 (cj rTI (cj @bsz (cj @SC_length (cj @sc_one (cj @Nat.zero_add (cj @tz0 (cj @tz1 (cj @h1 (cj @k8 @k9))))))))))
                              (try rw [then_normal]); (try refine aw_seq ?_); refine aw_cond rfl ?_ ?_ <;> intro hb <;> (try (cases hb; done)) <;> (try simp only [bq] at hb) <;> (try (exfalso; omega))
                              (first | refine go trivial ?_ | exact go0 trivial)
                              refine aw_reg fun K hK => ?_; refine rn (cj rTI (cj @bsz (cj @SC_length (cj @sc_one (cj @Nat.zero_add (cj @tz0 (cj @tz1 (cj @h1 (cj @k0 (cj @k9 (cj @bget (cj @Int.toNat_natCast (cj @hcc (cj @c33' @c126')))))))))))))) ?_; refine cont_pure hpc ?_; refine rn (cj rTI (cj @bsz (cj @SC_length (cj @sc_one (cj @Nat.zero_add (cj @tz0 (cj @tz1 (cj @h1 (cj @k0 (cj @k9 (cj @bget (cj @Int.toNat_natCast (cj @hcc (cj @c33' @c126')))))))))))))) ?_; refine hK _ _ ?_; clear hK K
                              (try rw [then_normal]); (try refine aw_seq ?_); refine aw_cond rfl ?_ ?_ <;> intro hb <;> (try (cases hb; done)) <;> (try simp only [bq] at hb) <;> (try (exfalso; omega))
                              (first | refine go (cj rTI (cj @bsz (cj @SC_length (cj @sc_one (cj @Nat.zero_add (cj @tz0 (cj @tz1 (cj @h1 @k9)))))))) ?_ | exact go0 (cj rTI (cj @bsz (cj @SC_length (cj @sc_one (cj @Nat.zero_add (cj @tz0 (cj @tz1 (cj @h1 @k9)))))))))
                              simp only [block_normal, loop_normal]
                              refine ⟨k - (q + 1), by omega, q + 1, by omega, by omega, by first | rfl | trivial, ?_, ?_, by first | rfl | trivial, by rw [hsn, hok]⟩
                              · constructor
                                all_goals ((first | refine rn (cj @h1 (cj @k0 (cj @k5 (cj @k6 (cj @k7 @k8))))) ?_ | exact rn0 (cj @h1 (cj @k0 (cj @k5 (cj @k6 (cj @k7 @k8)))))))
                              · (first | refine rn @h1 ?_ | exact rn0 @h1)
                                rfl
                      · obtain rfl : q = k := by omega
                        (first | refine go (cj rTI (cj @bsz (cj @SC_length (cj @sc_one (cj @Nat.zero_add (cj @tz0 (cj @tz1 (cj @h1 (cj @k8 @k9))))))))) ?_ | exact go0 (cj rTI (cj @bsz (cj @SC_length (cj @sc_one (cj @Nat.zero_add (cj @tz0 (cj @tz1 (cj @h1 (cj @k8 @k9))))))))))
                        (try rw [then_normal]); (try refine aw_seq ?_); refine aw_cond rfl ?_ ?_ <;> intro hb <;> (try (cases hb; done)) <;> (try simp only [bq] at hb) <;> (try (exfalso; omega))
                        (first | refine go trivial ?_ | exact go0 trivial)
                        refine .inl ⟨?_, hcl⟩
                        constructor
                        all_goals ((first | refine rn (cj @h1 (cj @k0 (cj @k5 (cj @k6 (cj @k7 @k8))))) ?_ | exact rn0 (cj @h1 (cj @k0 (cj @k5 (cj @k6 (cj @k7 @k8)))))))
                  · clear h1 k0 k5 k6 k7 k8 e
                    rintro e s2 ⟨H, rfl, hcl⟩
                    have h1 := H.en
                    have k0 := H.e0
                    have k5 := H.e5
                    have k6 := H.e6
                    have k7 := H.e7
                    have k8 := H.e8
                    clear H
                    simp only [block_exit, if_true, then_normal]
                    have hwo := words_own (LexM.seg (bs t) j k) (by unfold LexM.seg; rw [List.length_drop, List.length_take]; omega) s2
                    (first | refine go (cj rTI (cj @bsz (cj @SC_length (cj @sc_one (cj @Nat.zero_add (cj @tz0 (cj @tz1 (cj @h1 (cj @k0 (cj @k7 @k8)))))))))) ?_ | exact go0 (cj rTI (cj @bsz (cj @SC_length (cj @sc_one (cj @Nat.zero_add (cj @tz0 (cj @tz1 (cj @h1 (cj @k0 (cj @k7 @k8)))))))))))
                    refine aw_reg fun K hK => ?_; refine rn (cj rTI (cj @bsz (cj @SC_length (cj @sc_one (cj @Nat.zero_add (cj @tz0 (cj @tz1 (cj @h1 (cj @k0 (cj @k7 (cj @k8 @seg_bs))))))))))) ?_; refine cont_go hwo ?_; rintro _ s3 ⟨rfl, hs3⟩; refine rn (cj rTI (cj @bsz (cj @SC_length (cj @sc_one (cj @Nat.zero_add (cj @tz0 (cj @tz1 (cj @h1 (cj @k0 (cj @k7 (cj @k8 @seg_bs))))))))))) ?_; refine hK _ _ ?_; clear hK K
                    have n3 : s3.nx = s2.nx + 1 := by rw [hs3]; rfl
                    have g3 : s3.get s2.nx = some (SC (rawWords (LexM.seg (bs t) j k))) := by rw [hs3, St.push_same]
                    have lp3 : LP s.nx b L s3 := by rw [hs3]; exact I.lp.push _
                    have hbn : b ≠ s2.nx := by have := I.lp.2.1; omega
                    have old3 : ∀ i, i < s2.nx → s3.get i = s2.get i := fun i hi => by rw [hs3, St.push_ne _ _ _ (by omega)]
                    have hs2n : s.nx ≤ s2.nx := by have := I.lp.1; have := I.lp.2.1; omega
                    have fr3 : ∀ i, i < s.nx → s3.get i = s.get i := fun i hi => by rw [hs3, St.push_ne _ _ _ (by omega)]; exact I.fr i hi
                    clear hs3 hwo
                    have hnx := fun b' L' s' lp fr hst hc few => RI.next (s2 := s') (b' := b') (L' := L') (line := LexM.seg (bs t) j k) I hk lp fr hrest hst hc few
                    have hst : lexStep (n + 1) L (LexM.seg (bs t) j k) = stepWords (n + 1) L (lexWords (LexM.seg (bs t) j k)) := by rw [lexStep, hcl]; rfl
                    have hne : ∀ x ∈ rawWords (LexM.seg (bs t) j k), x ≠ [] := fun x hx => fieldsB_ne _ x hx
                    have hWl : (rawWords (LexM.seg (bs t) j k)).length ≤ 65537 := by
                      have q1 : (rawWords (LexM.seg (bs t) j k)).length ≤ ((pre (LexM.seg (bs t) j k) 59).map Lib.lowerB).length + 1 := fieldsGo_length _ []
                      have q2 := pre_length (LexM.seg (bs t) j k) 59
                      have q3 : (LexM.seg (bs t) j k).length ≤ t.length := by
                        unfold LexM.seg
                        rw [List.length_drop, List.length_take]
                        show min k t.length - j ≤ t.length
                        omega
                      rw [List.length_map] at q1
                      omega
                    have hw0 := @raw_nil (LexM.seg (bs t) j k)
                    have hw1 := @raw_star (LexM.seg (bs t) j k)
                    have hw2 := @raw_else (LexM.seg (bs t) j k)
                    generalize LexM.seg (bs t) j k = line at *
                    generalize rawWords line = W at *
                    cases W with
                    | nil =>
                      rw [hw0 rfl] at hst
                      (first | refine go (cj rTI (cj @bsz (cj @SC_length (cj @sc_one (cj @Nat.zero_add (cj @tz0 (cj @tz1 (cj @h1 @k8)))))))) ?_ | exact go0 (cj rTI (cj @bsz (cj @SC_length (cj @sc_one (cj @Nat.zero_add (cj @tz0 (cj @tz1 (cj @h1 @k8)))))))))
                      (try rw [then_normal]); (try refine aw_seq ?_); refine aw_cond rfl ?_ ?_ <;> intro hb <;> (try (cases hb; done)) <;> (try simp only [bq] at hb) <;> (try (exfalso; omega))
                      (first | refine go (cj rTI (cj @bsz (cj @SC_length (cj @sc_one (cj @Nat.zero_add (cj @tz0 (cj @tz1 (cj @h1 @k8)))))))) ?_ | exact go0 (cj rTI (cj @bsz (cj @SC_length (cj @sc_one (cj @Nat.zero_add (cj @tz0 (cj @tz1 (cj @h1 @k8)))))))))
                      simp only [block_normal, loop_normal]
                      refine ⟨t.length + 2 - (k + 1), by omega, k + 1, k + 1, n + 1, b, L, rfl, ?_, hnx b L s3 lp3 fr3 hst (by have := I.count; omega) I.few⟩
                      constructor
                      all_goals ((first | refine rn (cj @h1 (cj @k0 (cj @k5 (cj @k6 (cj @k7 @k8))))) ?_ | exact rn0 (cj @h1 (cj @k0 (cj @k5 (cj @k6 (cj @k7 @k8)))))))
                      all_goals rfl
                    | cons w xs =>
                      obtain ⟨c0, t0, rfl⟩ : ∃ c0 t0, w = c0 :: t0 := by
                        cases w with
                        | nil => exact absurd rfl (hne [] (List.mem_cons_self ..))
                        | cons c0 t0 => exact ⟨c0, t0, rfl⟩
                      have hx42 : ((c0.toNat : Int) == 42) = decide (c0 = 42) := by
                        rw [Bool.eq_iff_iff]
                        simp [← UInt8.toNat_inj]
                        omega
                      have hx43 : ((c0.toNat : Int) == 43) = decide (c0 = 43) := by
                        rw [Bool.eq_iff_iff]
                        simp [← UInt8.toNat_inj]
                        omega
                      have hz0 : (((xs.length + 1 : Nat) : Int) == 0) = false := by simp; omega
                      by_cases h42 : c0 = 42
                      · subst h42
                        rw [hw1 rfl] at hst
                        (first | refine go (cj rTI (cj @bsz (cj @SC_length (cj @sc_one (cj @Nat.zero_add (cj @tz0 (cj @tz1 (cj @h1 (cj @k8 (cj @g3 (cj @hz0 (cj @sc_cons @bget0)))))))))))) ?_ | exact go0 (cj rTI (cj @bsz (cj @SC_length (cj @sc_one (cj @Nat.zero_add (cj @tz0 (cj @tz1 (cj @h1 (cj @k8 (cj @g3 (cj @hz0 (cj @sc_cons @bget0)))))))))))))
                        (try rw [then_normal]); (try refine aw_seq ?_); refine aw_cond rfl ?_ ?_ <;> intro hb <;> (try (cases hb; done)) <;> (try simp only [bq] at hb) <;> (try (exfalso; omega))
                        (first | refine go (cj rTI (cj @bsz (cj @SC_length (cj @sc_one (cj @Nat.zero_add (cj @tz0 (cj @tz1 (cj @h1 @k8)))))))) ?_ | exact go0 (cj rTI (cj @bsz (cj @SC_length (cj @sc_one (cj @Nat.zero_add (cj @tz0 (cj @tz1 (cj @h1 @k8)))))))))
                        simp only [block_normal, loop_normal]
                        refine ⟨t.length + 2 - (k + 1), by omega, k + 1, k + 1, n + 1, b, L, rfl, ?_, hnx b L s3 lp3 fr3 hst (by have := I.count; omega) I.few⟩
                        constructor
                        all_goals ((first | refine rn (cj @h1 (cj @k0 (cj @k5 (cj @k6 (cj @k7 @k8))))) ?_ | exact rn0 (cj @h1 (cj @k0 (cj @k5 (cj @k6 (cj @k7 @k8)))))))
                        all_goals rfl
                      · rw [hw2 rfl h42] at hst
                        have h42' : decide (c0 = 42) = false := by simp [h42]
                        (first | refine go (cj rTI (cj @bsz (cj @SC_length (cj @sc_one (cj @Nat.zero_add (cj @tz0 (cj @tz1 (cj @h1 (cj @k8 (cj @g3 (cj @hz0 (cj @sc_cons (cj @bget0 (cj @hx42 @h42')))))))))))))) ?_ | exact go0 (cj rTI (cj @bsz (cj @SC_length (cj @sc_one (cj @Nat.zero_add (cj @tz0 (cj @tz1 (cj @h1 (cj @k8 (cj @g3 (cj @hz0 (cj @sc_cons (cj @bget0 (cj @hx42 @h42')))))))))))))))
                        (try rw [then_normal]); (try refine aw_seq ?_); refine aw_cond rfl ?_ ?_ <;> intro hb <;> (try (cases hb; done)) <;> (try simp only [bq] at hb) <;> (try (exfalso; omega))
                        refine aw_skip ?_
                        refine aw_seq ?_
                        refine aw_seq ?_
                        refine aw_only (fun e' s' => SL t (n + 1) (k + 1) k b L.length e' ∧ e'.m 10 = .own s2.nx 0 (xs.length + 1) 1 ∧ e'.m 86 = .v (.bool (decide (c0 = 43))) ∧ s' = s3) ?_ ?_
                        · refine aw_reg fun K hK => ?_; refine rn (cj rTI (cj @bsz (cj @SC_length (cj @sc_one (cj @Nat.zero_add (cj @tz0 (cj @tz1 (cj @h1 (cj @k8 (cj @g3 (cj @sc_cons (cj @bget0 @hx43)))))))))))) ?_; refine hK _ _ ?_; clear hK K
                          refine ⟨rfl, ?_, ?_, ?_, rfl⟩
                          · constructor
                            all_goals ((first | refine rn (cj @h1 (cj @k0 (cj @k5 (cj @k6 (cj @k7 @k8))))) ?_ | exact rn0 (cj @h1 (cj @k0 (cj @k5 (cj @k6 (cj @k7 @k8)))))))
                            all_goals rfl
                          · (first | refine rn @h1 ?_ | exact rn0 @h1)
                          · (first | refine rn @h1 ?_ | exact rn0 @h1)
                        · clear h1 k0 k5 k6 k7 k8 hx42 hx43 hz0 h42' e
                          rintro e s3' ⟨H, k10, k86, rfl⟩
                          have h1 := H.en
                          have k0 := H.e0
                          have k5 := H.e5
                          have k6 := H.e6
                          have k7 := H.e7
                          have k8 := H.e8
                          clear H
                          refine Ax.aw_way (fun e' s' => ∃ b' L', SL t (n + 1) (k + 1) k b' L'.length e' ∧ LP s.nx b' L' s' ∧ (∀ i, i < s.nx → s'.get i = s.get i) ∧ L' ≠ [] ∧ L'.length ≤ n + 1 ∧ (∀ p ∈ L'.dropLast, p.2.length ≤ 64) ∧ stepWords (n + 1) L ((c0 :: t0) :: xs) = if 64 < lastLen L' then (7, []) else (0, L')) ?_ ?_
                          · have hsw := stepWords_new (n + 1) L c0 t0 xs
                            have hsp := stepWords_plus (n + 1) L t0 xs
                            obtain ⟨lp1, lp2, lp4⟩ := I.lp
                            have hcnt := I.count
                            have hIk := I.jk
                            have hIp := I.pos
                            have hIf := I.few
                            clear hnx hw0 hw1 hw2 hcl I lp3
                            by_cases h43 : c0 = 43
                            · rw [decide_eq_true h43] at k86
                              refine aw_cond k86 (fun _ => ?_) (fun h => by cases h)
                              subst h43
                              rcases lp4 with ⟨rfl, gb⟩ | ⟨L0, a, ws, d, rfl, d1, d2, d3, gb, gd⟩
                              · rw [hsp] at hst
                                rw [err_out hrest hst (by decide)]
                                clear hidf
                                (first | refine go (cj rTI (cj @bsz (cj @SC_length (cj @sc_one (cj @Nat.zero_add (cj @tz0 (cj @tz1 (cj @h1 @k5)))))))) ?_ | exact go0 (cj rTI (cj @bsz (cj @SC_length (cj @sc_one (cj @Nat.zero_add (cj @tz0 (cj @tz1 (cj @h1 @k5)))))))))
                                (try rw [then_normal]); (try refine aw_seq ?_); refine aw_cond rfl ?_ ?_ <;> intro hb <;> (try (cases hb; done)) <;> (try simp only [bq] at hb) <;> (try (exfalso; omega))
                                (first | refine go (cj rTI (cj @bsz (cj @SC_length (cj @sc_one (cj @Nat.zero_add (cj @tz0 (cj @tz1 (cj @h1 @k6)))))))) ?_ | exact go0 (cj rTI (cj @bsz (cj @SC_length (cj @sc_one (cj @Nat.zero_add (cj @tz0 (cj @tz1 (cj @h1 @k6)))))))))
                                exact .inr (.inr ⟨le_err _ _, rv_idf _, fr3⟩)
                              · clear hrest hst
                                have hlz : (((L0.length + 1 : Nat) : Int) == 0) = false := by simp; omega
                                rw [show (L0 ++ [(a, ws)]).length = L0.length + 1 by simp] at k5 hcnt
                                rw [← old3 b lp2] at gb
                                rw [← old3 d d2] at gd
                                have hbd : b ≠ s2.nx := hbn
                                have hdd : d ≠ s2.nx := by omega
                                have hws : ws.length ≤ 64 := hIf (a, ws) (by simp)
                                (first | refine go (cj rTI (cj @bsz (cj @SC_length (cj @sc_one (cj @Nat.zero_add (cj @tz0 (cj @tz1 (cj @h1 (cj @k5 @hlz))))))))) ?_ | exact go0 (cj rTI (cj @bsz (cj @SC_length (cj @sc_one (cj @Nat.zero_add (cj @tz0 (cj @tz1 (cj @h1 (cj @k5 @hlz))))))))))
                                (try rw [then_normal]); (try refine aw_seq ?_); refine aw_cond rfl ?_ ?_ <;> intro hb <;> (try (cases hb; done)) <;> (try simp only [bq] at hb) <;> (try (exfalso; omega))
                                refine aw_skip ?_
                                refine aw_seq ?_
                                refine aw_seq ?_
                                refine aw_reg fun K hK => ?_; refine rn (cj rTI (cj @bsz (cj @SC_length (cj @sc_one (cj @Nat.zero_add (cj @tz0 (cj @tz1 (cj @h1 (cj @k10 (cj @g3 @sc_cons)))))))))) ?_; refine hK _ _ ?_; clear hK K
                                refine aw_only (fun e' s' => ∃ d', SL t (n + 1) (k + 1) k b (L0.length + 1) e' ∧ e'.m 10 = .own s2.nx 0 (xs.length + 1) 1 ∧ s.nx ≤ d' ∧ d' < s'.nx ∧ d' ≠ b ∧ d' ≠ s2.nx ∧ s'.get b = some (LC L0 ++ [.v (.int .i64 (a : Nat)), .own d' 0 (if t0.isEmpty then ws else ws ++ [t0]).length 1]) ∧ s'.get d' = some (SC (if t0.isEmpty then ws else ws ++ [t0])) ∧ s'.get s2.nx = some (SC ((43 :: t0) :: xs)) ∧ b < s'.nx ∧ ∀ i, i < s.nx → s'.get i = s.get i) ?_ ?_
                                · cases t0 with
                                  | nil =>
                                    (try rw [then_normal]); (try refine aw_seq ?_); refine aw_cond rfl ?_ ?_ <;> intro hb <;> (try (cases hb; done)) <;> (try simp only [bq] at hb) <;> (try (exfalso; omega))
                                    (first | refine go trivial ?_ | exact go0 trivial)
                                    refine ⟨d, ?_, ?_, d1, by omega, d3, hdd, gb, gd, g3, by omega, fr3⟩
                                    · constructor
                                      all_goals ((first | refine rn (cj @h1 (cj @k0 (cj @k5 (cj @k6 (cj @k7 @k8))))) ?_ | exact rn0 (cj @h1 (cj @k0 (cj @k5 (cj @k6 (cj @k7 @k8)))))))
                                    · (first | refine rn (cj @h1 @k10) ?_ | exact rn0 (cj @h1 @k10))
                                  | cons c1 t1 =>
                                    have hlt1 : 0 < (c1 :: t1).length := Nat.succ_pos _
                                    (try rw [then_normal]); (try refine aw_seq ?_); refine aw_cond rfl ?_ ?_ <;> intro hb <;> (try (cases hb; done)) <;> (try simp only [bq] at hb) <;> (try (exfalso; omega))
                                    have hlc := LC_length L0
                                    have hdb : ¬ d = b := d3
                                    have hbd1 : ¬ b = d := fun e => d3 e.symm
                                    have hbd2 : ¬ b = s2.nx := hbd
                                    have hbd3 : ¬ s2.nx = d := fun e => hdd e.symm
                                    have hbt : (bs (43 :: c1 :: t1)).extract 1 (t1.length + 1 + 1) = bs (c1 :: t1) := bs_tail 43 (c1 :: t1)
                                    refine aw_drwR (.take 0 (.take 1 (.take 2 (.take 3 (.take 4 (.take 5 (.take 6 (.take 7 (.take 8 (.take 9 (.take 10 (.take 11 (.take 12 (.take 13 (.take 14 (.one 15 (.one 16 (.done)))))))))))))))))) 17 [18, 19] [b, s2.nx] (by kernel_rfl) (by kernel_rfl) fun K hK => ?_; refine dt (cj rTI (cj @bsz (cj @SC_length (cj @sc_one (cj @Nat.zero_add (cj @tz0 (cj @tz1 (cj @h1 (cj @k5 (cj @k10 (cj @gb (cj @gd (cj @g3 (cj @lc_at (cj @lc_set (cj @sc_cons (cj @hbt (cj @Nat.add_sub_cancel (cj rla (cj @hlc (cj @hbd1 (cj @hbd2 (cj @hbd3 @n3))))))))))))))))))))))) ?_; refine hK _ _ ?_; clear hK K
                                    obtain ⟨a1, a2, a3, a4⟩ := st_app (s3'.push [AV.v (Value.string (bs (c1 :: t1)))]) b d (SC ws ++ [AV.v (Value.string (bs (c1 :: t1)))]) (LC L0 ++ [AV.v (Value.int IntKind.i64 ↑a), AV.own (s2.nx + 1 + 1) 0 (List.length ws + 1) 1]) (by rw [St.nx_push]; omega)
                                    rw [St.nx_push, n3] at a1 a3 a4
                                    refine ⟨rfl, s2.nx + 1 + 1, ?_, ?_, by omega, by rw [a1]; omega, by omega, by omega, ?_, ?_, ?_, by rw [a1]; omega, fun i hi => ?_⟩
                                    · constructor
                                      all_goals ((first | refine rn (cj @h1 (cj @k0 (cj @k5 (cj @k6 (cj @k7 @k8))))) ?_ | exact rn0 (cj @h1 (cj @k0 (cj @k5 (cj @k6 (cj @k7 @k8)))))))
                                    · (first | refine rn (cj @h1 @k10) ?_ | exact rn0 (cj @h1 @k10))
                                    · rw [a2]
                                      simp
                                    · rw [a3, sc_app1]
                                      simp
                                    · rw [a4 _ (by omega) (by omega) (by omega), St.push_ne _ _ _ (by omega)]
                                      exact g3
                                    · rw [a4 _ (by omega) (by omega) (by omega), St.push_ne _ _ _ (by omega)]
                                      exact fr3 i hi
                                · clear h1 k0 k5 k6 k7 k8 k10 k86 gb gd g3 fr3 e
                                  have hws2 : (if t0.isEmpty then ws else ws ++ [t0]).length ≤ 65 := by
                                    split
                                    · omega
                                    · rw [List.length_append]
                                      show ws.length + 1 ≤ 65
                                      omega
                                  have hpw : ws ++ plusWords ((43 :: t0) :: xs) = (if t0.isEmpty then ws else ws ++ [t0]) ++ xs := by
                                    show ws ++ (if t0.isEmpty then xs else t0 :: xs) = _
                                    cases t0 with
                                    | nil => rfl
                                    | cons c1 t1 => simp
                                  rintro e s4 ⟨d', H, k10, d1', d2', d3', d4', gb, gd, g3, hb4, fr3⟩
                                  have h1 := H.en
                                  have k0 := H.e0
                                  have k5 := H.e5
                                  have k6 := H.e6
                                  have k7 := H.e7
                                  have k8 := H.e8
                                  clear H
                                  rw [hsp]
                                  rw [if_neg (by simp), addLast_snoc, hpw]
                                  clear hsp hpw
                                  generalize (if t0.isEmpty then ws else ws ++ [t0]) = ws2 at *
                                  have hlc := LC_length L0
                                  have hbd1 : ¬ b = d' := fun e => d3' e.symm
                                  have hbd2 : ¬ b = s2.nx := hbd
                                  have hbd3 : ¬ s2.nx = d' := fun e => d4' e.symm
                                  have hct : List.take xs.length (SC xs) = SC xs := by rw [← SC_length, List.take_length]
                                  rw [List.length_cons] at hWl
                                  refine aw_drwR (.take 0 (.take 1 (.take 2 (.take 3 (.take 4 (.take 5 (.take 6 (.take 7 (.take 8 (.take 9 (.take 10 (.take 11 (.take 12 (.one 13 (.done))))))))))))))) 14 [15, 16] [b] (by kernel_rfl) (by kernel_rfl) fun K hK => ?_; refine dt (cj rTI (cj @bsz (cj @SC_length (cj @sc_one (cj @Nat.zero_add (cj @tz0 (cj @tz1 (cj @h1 (cj @k5 (cj @k10 (cj @gb (cj @gd (cj @g3 (cj @lc_at (cj @lc_set (cj @sc_cons (cj @Nat.add_sub_cancel (cj rla (cj @hlc (cj @hbd1 (cj @hbd2 (cj @hbd3 @hct)))))))))))))))))))))) ?_; refine hK _ _ ?_; clear hK K
                                  rw [sc_app]
                                  obtain ⟨a1, a2, a3, a4⟩ := st_app s4 b d' (SC (ws2 ++ xs)) (LC L0 ++ [AV.v (Value.int IntKind.i64 ↑a), AV.own s4.nx 0 (List.length ws2 + xs.length) 1]) hb4
                                  refine .inl ⟨rfl, b, L0 ++ [(a, ws2 ++ xs)], ?_, ⟨lp1, by rw [a1]; omega, .inr ⟨L0, a, ws2 ++ xs, s4.nx, rfl, by omega, by rw [a1]; omega, by omega, by rw [a2, List.length_append], a3⟩⟩, fun i hi => ?_, by simp, by rw [List.length_append]; exact Nat.le_trans hcnt (Nat.le_succ _), fun p hp => (by rw [List.dropLast_concat] at hp; exact hIf p (by simp [hp])), rfl⟩
                                  · rw [show (L0 ++ [(a, ws2 ++ xs)]).length = L0.length + 1 by simp]
                                    constructor
                                    all_goals ((first | refine rn (cj @h1 (cj @k0 (cj @k5 (cj @k6 (cj @k7 @k8))))) ?_ | exact rn0 (cj @h1 (cj @k0 (cj @k5 (cj @k6 (cj @k7 @k8)))))))
                                  · rw [a4 i (by omega) (by omega) (by omega)]
                                    exact fr3 i hi
                            · rw [decide_eq_false h43] at k86
                              refine aw_cond k86 (fun h => by cases h) (fun _ => ?_)
                              rw [hsw h43]
                              have hL2 : ∀ L' : LL, (L' ++ [(n + 1, (c0 :: t0) :: xs)]).length = L'.length + 1 := fun L' => by rw [List.length_append]; rfl
                              rcases lp4 with ⟨rfl, gb⟩ | ⟨L0, a, ws, d, rfl, d1, d2, d3, gb, gd⟩
                              · have hlt : b ≠ s3'.nx := by omega
                                have hbd : b ≠ s2.nx := hbn
                                rw [← old3 b lp2] at gb
                                refine aw_reg fun K hK => ?_; refine rn (cj rTI (cj @bsz (cj @SC_length (cj @sc_one (cj @Nat.zero_add (cj @tz0 (cj @tz1 (cj @h1 (cj @k5 (cj @k6 (cj @k10 (cj @gb (cj @n3 (cj @hlt @zrow2)))))))))))))) ?_; refine hK _ _ ?_; clear hK K
                                obtain ⟨q1, q2⟩ := lp_new (L := []) (n := n + 1) (x := [AV.v (Value.int IntKind.i64 ↑(n + 1)), AV.own s2.nx 0 (xs.length + 1) 1]) hs2n g3 n3 lp1 hbd fr3
                                refine .inl ⟨rfl, s2.nx + 1 + 1, [] ++ [(n + 1, (c0 :: t0) :: xs)], ?_, q1, q2, by simp, by rw [hL2]; omega, fun p hp => (by rw [List.dropLast_concat] at hp; exact hIf p hp), by rw [lastLen_snoc]⟩
                                constructor
                                all_goals ((first | refine rn (cj @h1 (cj @k0 (cj @k5 (cj @k6 (cj @k7 @k8))))) ?_ | exact rn0 (cj @h1 (cj @k0 (cj @k5 (cj @k6 (cj @k7 @k8)))))))
                                all_goals rfl
                              · have hbd : b ≠ s2.nx := hbn
                                have hdd : d ≠ s2.nx := by omega
                                rw [← old3 b lp2] at gb
                                rw [← old3 d d2] at gd
                                refine aw_freeze2 d (SC ws) gd (fun i => i == b) fun e' s'' f1 f2 f3 f4 => ?_
                                have n4 : s''.nx = s2.nx + 1 := f3.trans n3
                                have g4 : s''.get s2.nx = some (SC ((c0 :: t0) :: xs)) := by
                                  rw [f4, if_neg (by omega), if_neg (by simp; omega)]
                                  exact g3
                                have gb4 : s''.get b = some (LC (L0 ++ [(a, ws)])) := by
                                  rw [f4, if_neg (by omega), if_pos (by simp), gb, Option.map_some, frzL_app, lc_frz, LC_snoc]
                                  show some (LC L0 ++ [.v _, frz d (SC ws) (.own d 0 ws.length 1)]) = _
                                  unfold frz WV
                                  rw [if_pos rfl, sc_take]
                                have fr4 : ∀ i, i < s.nx → s''.get i = s.get i := fun i hi => by
                                  rw [f4, if_neg (by omega), if_neg (by simp; omega)]
                                  exact fr3 i hi
                                have hlt : b ≠ s''.nx := by omega
                                have hlc := LC_length (L0 ++ [(a, ws)])
                                have hdb : ¬ d = b := d3
                                have hd2 : ¬ d = s2.nx := hdd
                                refine aw_reg fun K hK => ?_; refine rn (cj rTI (cj @bsz (cj @SC_length (cj @sc_one (cj @Nat.zero_add (cj @tz0 (cj @tz1 (cj @h1 (cj @k5 (cj @k6 (cj @k10 (cj @f1 (cj @f2 (cj @frw (cj @gb4 (cj @n4 (cj @hlt (cj @hlc (cj @hdb (cj @hd2 @zrow2)))))))))))))))))))) ?_; refine hK _ _ ?_; clear hK K
                                obtain ⟨q1, q2⟩ := lp_new (L := L0 ++ [(a, ws)]) (n := n + 1) (x := [AV.v (Value.int IntKind.i64 ↑(n + 1)), AV.own s2.nx 0 (xs.length + 1) 1]) hs2n g4 n4 lp1 hbd fr4
                                refine .inl ⟨rfl, s2.nx + 1 + 1, (L0 ++ [(a, ws)]) ++ [(n + 1, (c0 :: t0) :: xs)], ?_, q1, q2, by simp, by rw [hL2]; omega, fun p hp => (by rw [List.dropLast_concat] at hp; exact hIf p hp), by rw [lastLen_snoc]⟩
                                constructor
                                all_goals ((first | refine rn (cj @h1 (cj @k0 (cj @k5 (cj @k6 (cj @k7 (cj @k8 (cj @f1 (cj @f2 @frw)))))))) ?_ | exact rn0 (cj @h1 (cj @k0 (cj @k5 (cj @k6 (cj @k7 (cj @k8 (cj @f1 (cj @f2 @frw))))))))))
                                rw [hL2]
                          · clear h1 k0 k5 k6 k7 k8 k10 k86 e
                            rintro e s4 ⟨b', L', H, lp4, fr4, hL0, hc4, hf4, hsw⟩
                            have h1 := H.en
                            have k0 := H.e0
                            have k5 := H.e5
                            have k6 := H.e6
                            have k7 := H.e7
                            have k8 := H.e8
                            clear H
                            rw [hsw] at hst
                            have hfew := I.few
                            have lp5 := lp4
                            obtain ⟨l1, l2, l3⟩ := lp5
                            rcases l3 with ⟨rfl, _⟩ | ⟨L0, a, ws, d, rfl, d1, d2, d3, gb, gd⟩
                            · exact absurd rfl hL0
                            · have hlc := LC_length L0
                              rw [lastLen_snoc] at hst
                              rw [show (L0 ++ [(a, ws)]).length = L0.length + 1 by simp] at k5 hc4
                              rw [then_normal]
                              refine aw_seq ?_
                              refine aw_reg fun K hK => ?_; refine rn (cj rTI (cj @bsz (cj @SC_length (cj @sc_one (cj @Nat.zero_add (cj @tz0 (cj @tz1 (cj @h1 (cj @k5 (cj @gb (cj @lc_at @Nat.add_sub_cancel))))))))))) ?_; refine hK _ _ ?_; clear hK K
                              by_cases h64 : 64 < ws.length
                              · rw [if_pos h64] at hst
                                rw [err_out hrest hst (by decide)]
                                clear hidf
                                (try rw [then_normal]); (try refine aw_seq ?_); refine aw_cond rfl ?_ ?_ <;> intro hb <;> (try (cases hb; done)) <;> (try simp only [bq] at hb) <;> (try (exfalso; omega))
                                (first | refine go (cj rTI (cj @bsz (cj @SC_length (cj @sc_one (cj @Nat.zero_add (cj @tz0 (cj @tz1 (cj @h1 @k6)))))))) ?_ | exact go0 (cj rTI (cj @bsz (cj @SC_length (cj @sc_one (cj @Nat.zero_add (cj @tz0 (cj @tz1 (cj @h1 @k6)))))))))
                                exact .inr ⟨le_err _ _, rv_idf _, fr4⟩
                              · rw [if_neg h64] at hst
                                (try rw [then_normal]); (try refine aw_seq ?_); refine aw_cond rfl ?_ ?_ <;> intro hb <;> (try (cases hb; done)) <;> (try simp only [bq] at hb) <;> (try (exfalso; omega))
                                (first | refine go (cj rTI (cj @bsz (cj @SC_length (cj @sc_one (cj @Nat.zero_add (cj @tz0 (cj @tz1 (cj @h1 @k8)))))))) ?_ | exact go0 (cj rTI (cj @bsz (cj @SC_length (cj @sc_one (cj @Nat.zero_add (cj @tz0 (cj @tz1 (cj @h1 @k8)))))))))
                                simp only [block_normal, loop_normal]
                                refine ⟨t.length + 2 - (k + 1), by omega, k + 1, k + 1, n + 1, b', L0 ++ [(a, ws)], rfl, ?_, hnx b' _ s4 lp4 fr4 hst (by simpa using hc4) fun p hp => ?_⟩
                                · rw [show (L0 ++ [(a, ws)]).length = L0.length + 1 by simp]
                                  constructor
                                  all_goals ((first | refine rn (cj @h1 (cj @k0 (cj @k5 (cj @k6 (cj @k7 @k8))))) ?_ | exact rn0 (cj @h1 (cj @k0 (cj @k5 (cj @k6 (cj @k7 @k8)))))))
                                  all_goals rfl
                                · rcases List.mem_append.1 hp with hp | hp
                                  · exact hf4 p (by rw [List.dropLast_concat]; exact hp)
                                  · rw [List.mem_singleton] at hp
                                    subst hp
                                    show ws.length ≤ 64
                                    omega
    · rintro e s1 ⟨b, L, h1, k5, ⟨l1, l2, l3⟩, fr, rfl⟩
      rw [then_normal]
      rcases l3 with ⟨rfl, gb⟩ | ⟨L0, a, ws, d, rfl, d1, d2, d3, gb, gd⟩
      · refine aw_freeze2 b [] gb (fun i => false) fun e' s'' f1 f2 f3 f4 => ?_
        (first | refine go (cj rTI (cj @bsz (cj @SC_length (cj @sc_one (cj @Nat.zero_add (cj @tz0 (cj @tz1 (cj @h1 (cj @k5 (cj @f1 (cj @f2 @frw))))))))))) ?_ | exact go0 (cj rTI (cj @bsz (cj @SC_length (cj @sc_one (cj @Nat.zero_add (cj @tz0 (cj @tz1 (cj @h1 (cj @k5 (cj @f1 (cj @f2 @frw))))))))))))
        refine ⟨Le.refl _, rv_idf _, fun i hi => ?_⟩
        rw [f4, if_neg (by omega), if_neg (by simp)]
        exact fr i hi
      · refine aw_freeze2 d (SC ws) gd (fun i => i == b) fun e' s'' f1 f2 f3 f4 => ?_
        have gb4 : s''.get b = some (LC (L0 ++ [(a, ws)])) := by
          rw [f4, if_neg (by omega), if_pos (by simp), gb, Option.map_some, frzL_app, lc_frz, LC_snoc]
          show some (LC L0 ++ [.v _, frz d (SC ws) (.own d 0 ws.length 1)]) = _
          unfold frz WV
          rw [if_pos rfl, sc_take]
        have k5' : e'.m 5 = .own b 0 (L0 ++ [(a, ws)]).length 2 := by
          rw [f2, k5, frz, if_neg (by omega)]
        have h1' := f1.trans h1
        have fr4 : ∀ i, i < s.nx → s''.get i = s.get i := fun i hi => by
          rw [f4, if_neg (by omega), if_neg (by simp; omega)]
          exact fr i hi
        clear f1 f2 f3 f4 gb h1 k5 e
        refine aw_freeze2 b _ gb4 (fun i => false) fun e s3 f1 f2 f3 f4 => ?_
        have hlt : List.take ((L0 ++ [(a, ws)]).length * 2) (LC (L0 ++ [(a, ws)])) = LC (L0 ++ [(a, ws)]) := by rw [← LC_length, List.take_length]
        (first | refine go (cj rTI (cj @bsz (cj @SC_length (cj @sc_one (cj @Nat.zero_add (cj @tz0 (cj @tz1 (cj @h1' (cj @k5' (cj @f1 (cj @f2 (cj @frw @hlt)))))))))))) ?_ | exact go0 (cj rTI (cj @bsz (cj @SC_length (cj @sc_one (cj @Nat.zero_add (cj @tz0 (cj @tz1 (cj @h1' (cj @k5' (cj @f1 (cj @f2 (cj @frw @hlt)))))))))))))
        refine ⟨Le.refl _, rv_idf _, fun i hi => ?_⟩
        rw [f4, if_neg (by omega), if_neg (by simp)]
        exact fr4 i hi
end Go.Proofs.YtppmamcoehhopaaDoor.LexO
