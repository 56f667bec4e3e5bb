/- The abstract machine, part K: functions; boxes that nobody writes any more; calls that leave the memory alone. -/
import Derived.Test.YtppmamcoehhopaaDoorAxJ
set_option linter.unusedVariables false
set_option linter.unusedSimpArgs false
namespace Go.Proofs.YtppmamcoehhopaaDoor.Ax
open Go Go.RowKit
variable {P : Program}

/-- The parameters' slots. -/
def num (zs : List AV) (t : Nat) : AV := zs.getD t .no
/-- What a function returns. -/
def resA (P : Program) (e : Env) (s : St) : List ResultVar → Option (List AV)
  | [] => some []
  | .tmp t :: r => (resA P e s r).map (e.m t :: ·)
  | .cell a t :: r => match xload P s t (e.m a), resA P e s r with
    | some z, some l => some (z :: l)
    | _, _ => none
def retA : List AV → AV
  | [z] => z
  | l => .tp l
def fpost (P : Program) (rs : List ResultVar) (R : AV → St → Prop) : Exit → Env → St → Prop
  | .normal, e, s => match resA P e s rs with | some l => R (retA l) s | none => False
  | .ret, e, s => match resA P e s rs with | some l => R (retA l) s | none => False
  | _, _, _ => False
def resF (a : Act) : ResultVar → Sem Value
  | .tmp t => pure (a.tmps.getD t undef)
  | .cell x t => do loadVar t (← asAddr (a.tmps.getD x undef))
theorem run_results_list {w0 w : World} {k : KW} {s : St} (hs : Sim w0 k w s) {e : Env} {a : Act} (he : EnvRel k e a) (rs : List ResultVar) : ∀ (l : List AV), resA P e s rs = some l →
    ∃ vs : List Value, (rs.mapM (m := Sem) (resF a)).run P w = .ok vs w ∧ RelL k l vs := by
  induction rs with
  | nil =>
    intro l h
    injection h with h
    subst h
    exact ⟨[], by simp, rfl, fun j z u hz => by simp at hz⟩
  | cons r rs ih =>
    intro l h
    cases r with
    | tmp t =>
      rw [resA] at h
      cases hr : resA P e s rs with
      | none => rw [hr] at h; cases h
      | some l' =>
        rw [hr] at h
        injection h with h
        subst h
        obtain ⟨vs, h1, h2, h3⟩ := ih l' hr
        refine ⟨a.tmps.getD t undef :: vs, by simp only [List.mapM_cons, Sem.run_bind, resF, Sem.run_pure, Result.andThen_ok, h1], by simp [h2], fun j z u hz hu => ?_⟩
        cases j with
        | zero =>
          simp at hz hu
          subst hz hu
          have := he.r t
          simpa using this
        | succ j => exact h3 j z u (by simpa using hz) (by simpa using hu)
    | cell x t =>
      rw [resA] at h
      split at h
      · rename_i z l' hz hr
        injection h with h
        subst h
        obtain ⟨vs, h1, h2, h3⟩ := ih l' hr
        obtain ⟨v, w', k', q1, q2, q3, q4⟩ := load_gives (P := P) hs (he.r x) hz
        have hp : ∃ a', a.tmps.getD x undef = .pointer (some a') := by
          have hr := he.r x
          unfold xload at hz
          split at hz
          · cases hz
          · split at hz
            · rename_i e1; rw [e1] at hr; obtain ⟨a', h, _⟩ := reads_rf hs hr; exact ⟨a', h⟩
            · rename_i e1; rw [e1] at hr; generalize a.tmps.getD x undef = u at hr; cases hr; exact ⟨_, rfl⟩
            · cases hz
        obtain ⟨a', ha'⟩ := hp
        rw [ha'] at q1
        simp only [Instr.loadAt, Instr.sureAddr, Sem.run_bind, Sem.run_pure, Result.andThen_ok] at q1
        have hw : w' = w ∧ Rel k z v := by
          have hr := he.r x
          rw [ha'] at hr
          unfold xload at hz
          split at hz
          · cases hz
          · rename_i ti ht
            split at hz
            · rename_i c e1
              rw [e1] at hr
              obtain ⟨a2, h5, h6⟩ := reads_rf hs hr
              injection h5 with h5
              injection h5 with h5
              subst h5
              obtain ⟨v2, g1, g2⟩ := load_reads (P := P) h6 ht hz
              rw [g1] at q1
              cases q1
              exact ⟨rfl, g2⟩
            · rename_i id off e1
              split at hz
              · rename_i c hc
                rw [e1] at hr
                obtain ⟨a2, h5, _, h6⟩ := reads_ptr hs hc hr
                injection h5 with h5
                injection h5 with h5
                subst h5
                obtain ⟨v2, g1, g2⟩ := load_reads (P := P) h6 ht hz
                rw [g1] at q1
                cases q1
                exact ⟨rfl, g2⟩
              · cases hz
            · cases hz
        obtain ⟨rfl, hrel⟩ := hw
        refine ⟨v :: vs, ?_, by simp [h2], fun j z u hz hu => ?_⟩
        · simp only [List.mapM_cons, Sem.run_bind, resF, ha', asAddr, Sem.run_pure, Result.andThen_ok, q1, h1]
        cases j with
        | zero =>
          simp at hz hu
          subst hz hu
          exact hrel
        | succ j => exact h3 j z u (by simpa using hz) (by simpa using hu)
      · cases h
theorem run_results {w0 w : World} {k : KW} {s : St} (hs : Sim w0 k w s) {e : Env} {a : Act} (he : EnvRel k e a) {fn : Func} {l : List AV} (h : resA P e s fn.results.toList = some l) : ∃ v, (results fn a.tmps).run P w = .ok v w ∧ Rel k (retA l) v := by
  obtain ⟨vs, h1, h2, h3⟩ := run_results_list hs he _ l h
  have hm : (results fn a.tmps).run P w = .ok (if h : vs.toArray.size = 1 then vs.toArray[0] else .tuple vs.toArray) w := by
    have : fn.results = fn.results.toList.toArray := by simp
    have hf : results fn a.tmps = (do
        let vs ← fn.results.mapM (resF a)
        pure (if h : vs.size = 1 then vs[0] else .tuple vs)) := rfl
    rw [hf, Array.mapM_eq_mapM_toList]
    simp [Sem.run_bind, h1]
  refine ⟨_, hm, ?_⟩
  match l, vs, h2, h3 with
  | [], [], _, h3 => exact .tp [] [] rfl h3
  | [z], [v], _, h3 => exact h3 0 z v rfl rfl
  | z :: y :: l, v :: u :: vs, h2, h3 =>
    have : ¬ ((v :: u :: vs).toArray.size = 1) := by simp
    rw [dif_neg this]
    exact .tp _ _ h2 h3
/-- A function, by its body. -/
theorem acall_of {f : FuncId} {fn : Func} {c : Code} {zs : List AV} {s : St} {R : AV → St → Prop} (hf : P.funcs[f]? = some fn) (hname : (fn.name == "runtime.NumGoroutine") = false) (hb : fn.body = some c) (hn : zs.length ≤ fn.ntmps)
    (h : AW P c s.nx ⟨fn.ntmps, num zs⟩ s (fpost P fn.results.toList R)) : ACall P f zs s R := by
  refine ⟨enters_of hf hname hb, fun w0 k w vs hs hv => calls_of_wp hf hb (wp_mono (h w0 k k w _ (KW.le_refl (by rw [hs.m]; exact Nat.le_refl _)) hs ?_) ?_)⟩
  · refine ⟨rfl, by simp [hv.1]; omega, fun t => ?_⟩
    show Rel k (zs.getD t .no) _
    rw [List.getD_eq_getElem?_getD]
    cases hz : zs[t]? with
    | none => exact .no _
    | some z =>
      have ht := (List.getElem?_eq_some_iff.1 hz).1
      have hu : vs[t]? = some (vs[t]'(by rw [hv.1]; exact ht)) := List.getElem?_eq_getElem _
      have e1 : (vs.toArray ++ Array.replicate (fn.ntmps - vs.toArray.size) undef).getD t undef = vs[t]'(by rw [hv.1]; exact ht) := by
        rw [Array.getD_eq_getD_getElem?, Array.getElem?_append_left (by simp [hv.1]; exact ht)]
        simp [hv.1, ht]
      rw [e1]
      exact hv.2 t z _ hz hu
  · rintro ex a w' ⟨e', s', k', q, hk, hs', he'⟩
    have fin : ∀ l, resA P e' s' fn.results.toList = some l → R (retA l) s' → a.defers = [] ∧ ∃ v, (results fn a.tmps).run P w' = .ok v w' ∧ ∃ v' r s'' k'', Ending.returned v = .returned v' ∧ R r s'' ∧ Sim w0 k'' w' s'' ∧ Rel k'' r v' ∧ KW.le s.nx k k'' := by
      intro l hl hR
      obtain ⟨v, h1, h2⟩ := run_results hs' he' hl
      exact ⟨he'.d, v, h1, v, _, _, k', rfl, hR, hs', h2, hk⟩
    cases ex with
    | normal =>
      unfold fpost at q
      simp only at q
      split at q
      · rename_i l hl; exact fin l hl q
      · exact q.elim
    | ret =>
      unfold fpost at q
      simp only at q
      split at q
      · rename_i l hl; exact fin l hl q
      · exact q.elim
    | _ => exact q.elim

/-- A box is laid down: from now on nobody writes it. -/
def frz (i : Nat) (c : List AV) : AV → AV
  | .own id off n sz => if id = i then .sl n ((c.drop off).take (n * sz)) else .own id off n sz
  | .ptr id off => if id = i then .rf (c.drop off) else .ptr id off
  | .ag l => .ag (frzL i c l)
  | .tp l => .tp (frzL i c l)
  | .sl n l => .sl n (frzL i c l)
  | .rf l => .rf (frzL i c l)
  | .v x => .v x
  | .no => .no
where frzL (i : Nat) (c : List AV) : List AV → List AV
  | [] => []
  | z :: r => frz i c z :: frzL i c r
theorem frzL_get (i : Nat) (c : List AV) (l : List AV) : ∀ (j : Nat), (frz.frzL i c l)[j]? = (l[j]?).map (frz i c) := by
  induction l with
  | nil => intro j; simp [frz.frzL]
  | cons z l ih =>
    intro j
    cases j with
    | zero => simp [frz.frzL]
    | succ j => simpa [frz.frzL] using ih j
theorem frzL_length (i : Nat) (c : List AV) (l : List AV) : (frz.frzL i c l).length = l.length := by
  induction l with
  | nil => rfl
  | cons z l ih => simp [frz.frzL, ih]
def Env.frz (e : Env) (i : Nat) (c : List AV) : Env := ⟨e.n, fun t => Ax.frz i c (e.m t)⟩
/-- The boxes that g names are told of it. -/
def St.frz (s : St) (i : Nat) (c : List AV) (g : Nat → Bool) : St := ⟨fun j => if j = i then none else if g j then (s.get j).map (Ax.frz.frzL i c) else s.get j, s.nx⟩
theorem sim_frz {w0 w : World} {k : KW} {s : St} (hs : Sim w0 k w s) {i : Nat} {c : List AV} (hi : s.get i = some c) (g : Nat → Bool) :
    ∃ k', k'.φ = k.φ ∧ k'.m = k.m ∧ (∀ a u, k.S a = some u → k'.S a = some u) ∧ Sim w0 k' w (s.frz i c g) ∧ ∀ z u, Rel k z u → Rel k' (frz i c z) u := by
  classical
  obtain ⟨hcl, hbox⟩ := hs.box i c hi
  let S' : Addr → Option Value := fun a => if ∃ j, j < c.length ∧ a = (k.φ i).at j then w.cell? a else k.S a
  have hS : ∀ a u, k.S a = some u → S' a = some u := by
    intro a u ha
    show (if ∃ j, j < c.length ∧ a = (k.φ i).at j then w.cell? a else k.S a) = some u
    split
    · exact hs.fz a u ha
    · exact ha
  let k' : KW := ⟨k.φ, k.m, S', k.tab.mono hS⟩
  have hle : KW.le k.m k k' := ⟨Nat.le_refl _, fun _ _ => rfl, hS⟩
  have hin : ∀ j, (hj : j < c.length) → ∃ u, S' ((k.φ i).at j) = some u ∧ Rel k c[j] u := by
    intro j hj
    obtain ⟨u, h1, h2, h3, h4⟩ := hbox j (by omega)
    refine ⟨u, ?_, h4 _ (by simp [hj])⟩
    show (if ∃ j', j' < c.length ∧ (k.φ i).at j = (k.φ i).at j' then _ else _) = _
    rw [if_pos ⟨j, hj, rfl⟩]
    exact h1
  have tail : ∀ off (d : List AV), (∀ (j : Nat) (z : AV), d[j]? = some z → c[off + j]? = some z) → ∃ us : Nat → Value, (∀ j, j < d.length → S' (((k.φ i).at off).add j) = some (us j)) ∧ ∀ (j : Nat) (z : AV), d[j]? = some z → Rel k' z (us j) := by
    intro off d hd
    have hx : ∀ j, ∃ u, j < d.length → S' (((k.φ i).at off).add j) = some u ∧ ∀ z, d[j]? = some z → Rel k' z u := by
      intro j
      by_cases hj : j < d.length
      · have hz : d[j]? = some d[j] := by simp [hj]
        have hc := hd j _ hz
        have hlt := (List.getElem?_eq_some_iff.1 hc).1
        obtain ⟨u, h1, h2⟩ := hin (off + j) hlt
        refine ⟨u, fun _ => ⟨by rw [Rng.at_add]; exact h1, fun z hz' => ?_⟩⟩
        have hc' := hd j z hz'
        rw [List.getElem?_eq_getElem hlt] at hc'
        injection hc' with hc'
        rw [← hc']
        exact h2.mono hle
      · exact ⟨undef, fun h => absurd h hj⟩
    refine ⟨fun j => Classical.choose (hx j), fun j hj => (Classical.choose_spec (hx j) hj).1, fun j z hz => ?_⟩
    have hj := (List.getElem?_eq_some_iff.1 hz).1
    exact (Classical.choose_spec (hx j) hj).2 z hz
  have hrel : ∀ z u, Rel k z u → Rel k' (frz i c z) u := by
    intro z u h
    induction h with
    | v x => exact .v x
    | sl n cap l a us hn h1 h2 ih => exact .sl n cap _ a us hn (fun j hj => hS _ _ (h1 j (by rwa [frzL_length] at hj))) (fun j z hz => by
        rw [frzL_get] at hz
        cases hl : l[j]? with
        | none => rw [hl] at hz; cases hz
        | some y =>
          rw [hl] at hz
          injection hz with hz
          subst hz
          exact ih j y hl)
    | sl0 a cap => exact .sl0 a cap
    | rf l a us h1 h2 ih => exact .rf _ a us (fun j hj => hS _ _ (h1 j (by rwa [frzL_length] at hj))) (fun j z hz => by
        rw [frzL_get] at hz
        cases hl : l[j]? with
        | none => rw [hl] at hz; cases hz
        | some y =>
          rw [hl] at hz
          injection hz with hz
          subst hz
          exact ih j y hl)
    | own id off n sz cap hid hn hc =>
      rw [frz]
      split
      · rename_i e
        subst e
        obtain ⟨us, h1, h2⟩ := tail off ((c.drop off).take (n * sz)) (fun j z hz => by
          rw [List.getElem?_take] at hz
          split at hz
          · rwa [List.getElem?_drop] at hz
          · cases hz)
        exact .sl n cap _ _ us hn h1 h2
      · exact .own id off n sz cap hid hn hc
    | own0 id off sz a hid hc =>
      rw [frz]
      split
      · rw [Nat.zero_mul, List.take_zero]; exact .sl0 _ _
      · exact .own0 id off sz a hid hc
    | ptr id off hid =>
      rw [frz]
      split
      · rename_i e
        subst e
        obtain ⟨us, h1, h2⟩ := tail off (c.drop off) (fun j z hz => by rwa [List.getElem?_drop] at hz)
        exact .rf _ _ us h1 h2
      · exact .ptr id off hid
    | ag l us hl h ih => exact .ag _ us (by rw [frzL_length]; exact hl) (fun j z u hz hu => by
        rw [frzL_get] at hz
        cases hl : l[j]? with
        | none => rw [hl] at hz; cases hz
        | some y =>
          rw [hl] at hz
          injection hz with hz
          subst hz
          exact ih j y u hl hu)
    | tp l us hl h ih => exact .tp _ us (by rw [frzL_length]; exact hl) (fun j z u hz hu => by
        rw [frzL_get] at hz
        cases hl : l[j]? with
        | none => rw [hl] at hz; cases hz
        | some y =>
          rw [hl] at hz
          injection hz with hz
          subst hz
          exact ih j y u hl hu)
    | no u => exact .no u
  refine ⟨k', rfl, rfl, hS, ⟨hs.m, ?_, ?_, ?_, ?_, hs.shp, hs.tz⟩, hrel⟩
  · intro a u ha
    have ha' : (if ∃ j, j < c.length ∧ a = (k.φ i).at j then w.cell? a else k.S a) = some u := ha
    split at ha'
    · exact ha'
    · exact hs.fz a u ha'
  all_goals
    have alive : ∀ q cq, (s.frz i c g).get q = some cq → q ≠ i ∧ ∃ c0, s.get q = some c0 ∧ (cq = c0 ∨ cq = frz.frzL i c c0) := by
      intro q cq hq
      have hq' : (if q = i then none else if g q then (s.get q).map (frz.frzL i c) else s.get q) = some cq := hq
      by_cases e : q = i
      · rw [if_pos e] at hq'; cases hq'
      · rw [if_neg e] at hq'
        refine ⟨e, ?_⟩
        split at hq'
        · cases hc0 : s.get q with
          | none => rw [hc0] at hq'; cases hq'
          | some c0 => rw [hc0] at hq'; injection hq' with hq'; exact ⟨c0, rfl, .inr hq'.symm⟩
        · exact ⟨cq, hq', .inl rfl⟩
  · intro q cq hq
    obtain ⟨_, c0, h0, _⟩ := alive q cq hq
    exact hs.lt q c0 h0
  · intro q cq hq
    obtain ⟨hqi, c0, h0, hcq⟩ := alive q cq hq
    obtain ⟨hl, hb⟩ := hs.box q c0 h0
    refine ⟨by rcases hcq with rfl | rfl <;> simpa [frzL_length] using hl, fun j hj => ?_⟩
    obtain ⟨u, h1, h2, h3, h4⟩ := hb j hj
    refine ⟨u, h1, h2, ?_, fun z hz => ?_⟩
    · show (if ∃ j', j' < c.length ∧ (k.φ q).at j = (k.φ i).at j' then _ else _) = _
      rw [if_neg]
      · exact h3
      · rintro ⟨j', hj', he⟩
        exact hs.sep q i c0 c h0 hi hqi j j' hj (by omega) he
    · rcases hcq with rfl | rfl
      · exact (h4 z hz).mono hle
      · rw [frzL_get] at hz
        cases hl : c0[j]? with
        | none => rw [hl] at hz; cases hz
        | some y =>
          rw [hl] at hz
          injection hz with hz
          subst hz
          exact hrel _ _ (h4 y hl)
  · intro a b ca cb ha hb
    obtain ⟨_, c1, h1, _⟩ := alive a ca ha
    obtain ⟨_, c2, h2, _⟩ := alive b cb hb
    exact hs.sep a b c1 c2 h1 h2
theorem aw_freeze {code : Code} {m0 : Nat} {e : Env} {s : St} {Q : Exit → Env → St → Prop} (i : Nat) (c : List AV) (hi : s.get i = some c) (g : Nat → Bool) (h : AW P code m0 (e.frz i c) (s.frz i c g) Q) : AW P code m0 e s Q := by
  intro w0 kb k w a hk hs he
  obtain ⟨k', h1, h2, h3, h4, h5⟩ := sim_frz hs hi g
  exact h w0 kb k' w a ⟨by rw [h2]; exact hk.1, fun j hj => by rw [h1]; exact hk.2.1 j hj, fun a u ha => h3 a u (hk.2.2 a u ha)⟩ h4 ⟨he.d, he.n, fun t => h5 _ _ (he.r t)⟩
end Go.Proofs.YtppmamcoehhopaaDoor.Ax
