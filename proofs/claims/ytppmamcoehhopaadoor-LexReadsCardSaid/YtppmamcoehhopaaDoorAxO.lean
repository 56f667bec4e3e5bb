/- The abstract machine, part O: cuts. -/
import Derived.Test.YtppmamcoehhopaaDoorAxN
set_option linter.unusedVariables false
set_option linter.unusedSimpArgs false
namespace Go.Proofs.YtppmamcoehhopaaDoor.Ax
open Go Go.RowKit
variable {P : Program}
/-- Ways that meet again: what holds behind the first part is named. -/
theorem aw_mid {x y : Code} {m0 : Nat} {e : Env} {s : St} {Q : Exit → Env → St → Prop} (I : Env → St → Prop) (h1 : AW P x m0 e s fun ex e' s' => ex = .normal ∧ I e' s') (h2 : ∀ e' s', I e' s' → AW P y m0 e' s' Q) : AW P (.seq x y) m0 e s Q :=
  aw_seq (aw_mono h1 fun ex e' s' ⟨hn, hI⟩ => by subst hn; exact h2 e' s' hI)
/-- A part that leaves no other way. -/
theorem aw_only {x : Code} {m0 : Nat} {e : Env} {s : St} {Q : Exit → Env → St → Prop} (I : Env → St → Prop) (h1 : AW P x m0 e s fun ex e' s' => ex = .normal ∧ I e' s') (h2 : ∀ e' s', I e' s' → Q .normal e' s') : AW P x m0 e s Q :=
  aw_mono h1 fun ex e' s' ⟨hn, hI⟩ => by subst hn; exact h2 e' s' hI
/-- A part that is left in one way. -/
theorem aw_at {x : Code} {m0 : Nat} {e : Env} {s : St} {Q : Exit → Env → St → Prop} (ex0 : Exit) (I : Env → St → Prop) (h1 : AW P x m0 e s fun ex e' s' => ex = ex0 ∧ I e' s') (h2 : ∀ e' s', I e' s' → Q ex0 e' s') : AW P x m0 e s Q :=
  aw_mono h1 fun ex e' s' ⟨hn, hI⟩ => by subst hn; exact h2 e' s' hI
/-- A box laid down behind a call. -/
theorem acall_lay {f : FuncId} {zs : List AV} {s : St} {R : AV → St → Prop} (h : ACall P f zs s fun r s' => ∃ i c g, s'.get i = some c ∧ R (frz i c r) (s'.frz i c g)) : ACall P f zs s R :=
  ⟨h.1, fun w0 k w vs hs hv => (h.2 w0 k w vs hs hv).mono fun en w' ⟨v, r, s', k', h1, ⟨i, c, g, hi, hR⟩, h3, h4, h5⟩ => by
    obtain ⟨k'', q1, q2, q3, q4, q5⟩ := sim_frz h3 hi g
    exact ⟨v, _, _, k'', h1, hR, q4, q5 _ _ h4, ⟨by rw [q2]; exact h5.1, fun j hj => by rw [q1]; exact h5.2.1 j hj, fun a u ha => q3 a u (h5.2.2 a u ha)⟩⟩⟩
theorem frz_false (s : St) (i : Nat) (c : List AV) (j : Nat) (h : j ≠ i) : (s.frz i c fun _ => false).get j = s.get j := by
  show (if j = i then none else if false = true then _ else s.get j) = _
  rw [if_neg h]
  rfl
/-- A call whose answer is a new box that nobody writes any more. -/
theorem pcall_own {f : FuncId} {zs : List AV} {r : AV} (hf : idf r = true) (h : ∀ s, ACall P f zs s fun r' s' => ∃ i c, s.nx ≤ i ∧ s'.get i = some c ∧ frz i c r' = r ∧ ∀ j, j < s.nx → s'.get j = s.get j) : PCall P f zs r :=
  pcall_of fun s => acall_lay ((h s).mono fun r' s' ⟨i, c, h1, h2, h3, h4⟩ => ⟨i, c, fun _ => false, h2, h3, hf, fun j hj => by rw [frz_false _ _ _ _ (by omega)]; exact h4 j hj⟩)
/-- The same of two boxes. -/
theorem pcall_own2 {f : FuncId} {zs : List AV} {r : AV} (hf : idf r = true) (h : ∀ s, ACall P f zs s fun r' s' => ∃ i c j d, s.nx ≤ i ∧ s.nx ≤ j ∧ j ≠ i ∧ s'.get i = some c ∧ s'.get j = some d ∧ frz j d (frz i c r') = r ∧ ∀ k, k < s.nx → s'.get k = s.get k) : PCall P f zs r :=
  pcall_of fun s => acall_lay (acall_lay ((h s).mono fun r' s' ⟨i, c, j, d, h1, h2, h3, h4, h5, h6, h7⟩ => ⟨i, c, fun _ => false, h4, j, d, fun _ => false, by rw [frz_false _ _ _ _ h3]; exact h5, h6, hf, fun k hk => by
    rw [frz_false _ _ _ _ (by omega), frz_false _ _ _ _ (by omega)]
    exact h7 k hk⟩))
end Go.Proofs.YtppmamcoehhopaaDoor.Ax
