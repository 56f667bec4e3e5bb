/- The abstract machine, part Q: boxes lent to a call that only reads. -/
import Derived.Test.YtppmamcoehhopaaDoorAxP
set_option linter.unusedVariables false
set_option linter.unusedSimpArgs false
namespace Go.Proofs.YtppmamcoehhopaaDoor.Ax
open Go Go.RowKit
variable {P : Program}

/-- What a value says, its boxes read now. -/
inductive Lies (s : St) : AV → AV → Prop
  | same (z : AV) (h : idf z = true) : Lies s z z
  | nil (cap : Nat) : Lies s (.v (.slice none 0 cap)) (.sl 0 [])
  | own (id off n sz : Nat) (c c' : List AV) (hi : s.get id = some c) (hl : c'.length = n * sz) (hc : off + n * sz ≤ c.length) (h : ∀ (j : Nat) (z z' : AV), (c.drop off)[j]? = some z → c'[j]? = some z' → Lies s z z') : Lies s (.own id off n sz) (.sl n c')
  | ptr (id off : Nat) (c c' : List AV) (hi : s.get id = some c) (hl : c'.length = (c.drop off).length) (h : ∀ (j : Nat) (z z' : AV), (c.drop off)[j]? = some z → c'[j]? = some z' → Lies s z z') : Lies s (.ptr id off) (.rf c')
  | sl (n : Nat) (c c' : List AV) (hl : c'.length = c.length) (h : ∀ (j : Nat) (z z' : AV), c[j]? = some z → c'[j]? = some z' → Lies s z z') : Lies s (.sl n c) (.sl n c')
  | rf (c c' : List AV) (hl : c'.length = c.length) (h : ∀ (j : Nat) (z z' : AV), c[j]? = some z → c'[j]? = some z' → Lies s z z') : Lies s (.rf c) (.rf c')
  | ag (c c' : List AV) (hl : c'.length = c.length) (h : ∀ (j : Nat) (z z' : AV), c[j]? = some z → c'[j]? = some z' → Lies s z z') : Lies s (.ag c) (.ag c')
def LiesL (s : St) (c c' : List AV) : Prop := c'.length = c.length ∧ ∀ (j : Nat) (z z' : AV), c[j]? = some z → c'[j]? = some z' → Lies s z z'
theorem LiesL.nil (s : St) : LiesL s [] [] := ⟨rfl, fun j z z' h => by cases h⟩
theorem LiesL.cons {s : St} {z z' : AV} {c c' : List AV} (h : Lies s z z') (g : LiesL s c c') : LiesL s (z :: c) (z' :: c') := ⟨by rw [List.length_cons, List.length_cons, g.1], fun j x y hx hy => by
  cases j with
  | zero => simp at hx hy; subst hx hy; exact h
  | succ j => exact g.2 j x y (by simpa using hx) (by simpa using hy)⟩
theorem LiesL.app {s : St} {a b a' b' : List AV} (h : LiesL s a a') (g : LiesL s b b') : LiesL s (a ++ b) (a' ++ b') := ⟨by rw [List.length_append, List.length_append, h.1, g.1], fun j x y hx hy => by
  by_cases hj : j < a.length
  · rw [List.getElem?_append_left hj] at hx
    rw [List.getElem?_append_left (by rw [h.1]; exact hj)] at hy
    exact h.2 j x y hx hy
  · rw [List.getElem?_append_right (by omega)] at hx
    rw [List.getElem?_append_right (by rw [h.1]; omega), h.1] at hy
    exact g.2 _ x y hx hy⟩
theorem LiesL.same (s : St) (c : List AV) (h : idf.idfL c = true) : LiesL s c c := ⟨rfl, fun j z z' hz hz' => by
  rw [hz] at hz'
  injection hz' with e
  subst e
  exact .same _ ((idfL_iff c).1 h _ (List.mem_of_getElem? hz))⟩
theorem Lies.whole {s : St} {id n sz : Nat} {c c' : List AV} (hi : s.get id = some c) (hl : c.length = n * sz) (h : LiesL s c c') : Lies s (.own id 0 n sz) (.sl n c') :=
  .own id 0 n sz c c' hi (h.1.trans hl) (by omega) fun j z z' hz hz' => h.2 j z z' (by simpa using hz) hz'
theorem Lies.box {s : St} {id : Nat} {c c' : List AV} (hi : s.get id = some c) (h : LiesL s c c') : Lies s (.ptr id 0) (.rf c') :=
  .ptr id 0 c c' hi h.1 fun j z z' hz hz' => h.2 j z z' (by simpa using hz) hz'
theorem Lies.agg {s : St} {c c' : List AV} (h : LiesL s c c') : Lies s (.ag c) (.ag c') := .ag c c' h.1 h.2
/-- The memory as it is, of which nothing is written. -/
def still (w : World) (h : Tabs w.cell?) : KW := ⟨fun _ => ⟨0, 0, 0⟩, 0, w.cell?, h⟩
theorem lies_rel {w0 w : World} {k : KW} {s : St} (hs : Sim w0 k w s) (ht : Tabs w.cell?) {z z' : AV} (h : Lies s z z') : ∀ u, Rel k z u → Rel (still w ht) z' u := by
  have hbox : ∀ id c, s.get id = some c → ∀ j, j < c.length → ∃ u, w.cell? ((k.φ id).at j) = some u ∧ ∀ z, c[j]? = some z → Rel k z u := fun id c hi j hj => by
    obtain ⟨hc, hb⟩ := hs.box id c hi
    obtain ⟨u, h1, _, _, h4⟩ := hb j (Nat.lt_of_lt_of_le hj hc)
    exact ⟨u, h1, h4⟩
  induction h with
  | same z h => exact fun u hr => rel_free hr (fun a u hu => hs.fz a u hu) h
  | nil cap => intro u hr; obtain rfl := hr.v_eq; exact .sl0 none cap
  | own id off n sz c c' hi hl hc h ih =>
    intro u hr
    cases hr with
    | own _ _ _ _ cap h1 h2 h3 =>
      have key : ∀ j, j < c'.length → ∃ u, w.cell? ((k.φ id).at (off + j)) = some u ∧ ∀ z, c[off + j]? = some z → Rel k z u := fun j hj => hbox id c hi (off + j) (by omega)
      refine .sl n cap c' _ (fun j => (w.cell? ((k.φ id).at (off + j))).getD undef) h2 (fun j hj => ?_) (fun j z' hz' => ?_)
      · obtain ⟨u, q1, q2⟩ := key j hj
        rw [Rng.at_add]
        show w.cell? _ = _
        rw [q1]
        rfl
      · have hj := (List.getElem?_eq_some_iff.1 hz').1
        obtain ⟨u, q1, q2⟩ := key j hj
        have hj2 : off + j < c.length := by omega
        have hz : (c.drop off)[j]? = some c[off + j] := by rw [List.getElem?_drop, List.getElem?_eq_getElem hj2]
        refine ih j _ z' hz hz' _ ?_
        rw [q1]
        exact q2 _ (List.getElem?_eq_getElem hj2)
    | own0 _ _ _ a h1 h2 =>
      have : c' = [] := List.eq_nil_of_length_eq_zero (by omega)
      subst this
      exact .sl0 a 0
  | ptr id off c c' hi hl h ih =>
    intro u hr
    cases hr with
    | ptr _ _ h1 =>
      rw [List.length_drop] at hl
      have key : ∀ j, j < c'.length → ∃ u, w.cell? ((k.φ id).at (off + j)) = some u ∧ ∀ z, c[off + j]? = some z → Rel k z u := fun j hj => hbox id c hi (off + j) (by omega)
      refine .rf c' _ (fun j => (w.cell? ((k.φ id).at (off + j))).getD undef) (fun j hj => ?_) (fun j z' hz' => ?_)
      · obtain ⟨u, q1, q2⟩ := key j hj
        rw [Rng.at_add]
        show w.cell? _ = _
        rw [q1]
        rfl
      · have hj := (List.getElem?_eq_some_iff.1 hz').1
        obtain ⟨u, q1, q2⟩ := key j hj
        have hj2 : off + j < c.length := by omega
        have hz : (c.drop off)[j]? = some c[off + j] := by rw [List.getElem?_drop, List.getElem?_eq_getElem hj2]
        refine ih j _ z' hz hz' _ ?_
        rw [q1]
        exact q2 _ (List.getElem?_eq_getElem hj2)
  | sl n c c' hl h ih =>
    intro u hr
    cases hr with
    | sl _ cap _ a us hn h1 h2 =>
      refine .sl n cap c' a us hn (fun j hj => hs.fz _ _ (h1 j (by omega))) (fun j z' hz' => ?_)
      have hj := (List.getElem?_eq_some_iff.1 hz').1
      have hj2 : j < c.length := by omega
      exact ih j _ z' (List.getElem?_eq_getElem hj2) hz' _ (h2 j _ (List.getElem?_eq_getElem hj2))
    | sl0 a cap =>
      have : c' = [] := List.eq_nil_of_length_eq_zero (by simpa using hl)
      subst this
      exact .sl0 a cap
  | rf c c' hl h ih =>
    intro u hr
    cases hr with
    | rf _ a us h1 h2 =>
      refine .rf c' a us (fun j hj => hs.fz _ _ (h1 j (by omega))) (fun j z' hz' => ?_)
      have hj := (List.getElem?_eq_some_iff.1 hz').1
      have hj2 : j < c.length := by omega
      exact ih j _ z' (List.getElem?_eq_getElem hj2) hz' _ (h2 j _ (List.getElem?_eq_getElem hj2))
  | ag c c' hl h ih =>
    intro u hr
    cases hr with
    | ag _ us hl' h' =>
      refine .ag c' us (hl'.trans hl.symm) fun j z' u hz' hu => ?_
      have hj := (List.getElem?_eq_some_iff.1 hz').1
      have hj2 : j < c.length := by omega
      exact ih j _ z' (List.getElem?_eq_getElem hj2) hz' _ (h' j _ u (List.getElem?_eq_getElem hj2) hu)
/-- A plain value: no memory in it. -/
def pln : AV → Bool
  | .v _ => true
  | .tp c | .ag c => plnL c
  | _ => false
where plnL : List AV → Bool
  | [] => true
  | z :: r => pln z && plnL r
theorem plnL_iff (l : List AV) : pln.plnL l = true ↔ ∀ z ∈ l, pln z = true := by
  induction l with
  | nil => simp [pln.plnL]
  | cons a l ih => simp [pln.plnL, ih]
theorem pln_rel {k k' : KW} {z : AV} {u : Value} (h : Rel k z u) : pln z = true → Rel k' z u := by
  induction h with
  | v x => exact fun _ => .v x
  | sl | rf | own | own0 | ptr | sl0 => intro h; cases h
  | no u => exact fun _ => .no u
  | ag c us hl h ih => exact fun hp => .ag c us hl fun j z u hz hu => ih j z u hz hu ((plnL_iff c).1 hp z (List.mem_of_getElem? hz))
  | tp c us hl h ih => exact fun hp => .tp c us hl fun j z u hz hu => ih j z u hz hu ((plnL_iff c).1 hp z (List.mem_of_getElem? hz))
/-- Boxes are lent to a call that only reads and answers by a plain value. -/
theorem acall_lend {f : FuncId} {zs zs' : List AV} {s : St} {r : AV} (h : PCall P f zs' r) (hp : pln r = true) (hz : LiesL s zs zs') : ACall P f zs s fun r' s' => r' = r ∧ s' = s := by
  refine ⟨(h s).1, fun w0 k w vs hs hv => ?_⟩
  have ht : Tabs w.cell? := k.tab.mono hs.fz
  have hv' : RelL (still w ht) zs' vs := ⟨hv.1.trans hz.1.symm, fun j z' u hz' hu => by
    have hj : j < zs.length := by rw [← hz.1]; exact (List.getElem?_eq_some_iff.1 hz').1
    exact lies_rel hs ht (hz.2 j _ z' (List.getElem?_eq_getElem hj) hz') u (hv.2 j _ u (List.getElem?_eq_getElem hj) hu)⟩
  refine (calls_of_pcall h w ht (hs.shp.tz hs.tz) vs hv').mono ?_
  rintro en w' ⟨v, k', rfl, hb, hr⟩
  exact ⟨v, r, s, k, rfl, ⟨rfl, rfl⟩, hs.below hb, pln_rel hr hp, KW.le_refl (by rw [hs.m]; exact Nat.le_refl _)⟩
end Go.Proofs.YtppmamcoehhopaaDoor.Ax
