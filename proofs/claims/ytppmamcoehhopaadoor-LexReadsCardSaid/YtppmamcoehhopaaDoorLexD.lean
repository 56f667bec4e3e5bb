/- The lines that a call has laid: a row of its own of structs, each with a row of its own of words. -/
import Derived.Test.YtppmamcoehhopaaDoorLexC
import Derived.Maps.AppendAt
namespace Go.Proofs.YtppmamcoehhopaaDoor.LexD
open Go.RowKit Go.Proofs.YtppmamcoehhopaaDoor.Base Go.Proofs.YtppmamcoehhopaaDoor.LexA Go.Proofs.YtppmamcoehhopaaDoor.LexB Go.Proofs.YtppmamcoehhopaaDoor.LexM Go.Proofs.YtppmamcoehhopaaDoor.LexC
set_option linter.unusedVariables false
set_option linter.unusedSimpArgs false

abbrev W := List (List UInt8)
abbrev Piece := Nat × W × Value
def cellsOf (P : List Piece) : List Value := P.flatMap fun p => [.int .i64 p.1, p.2.2]
theorem cellsOf_length (P : List Piece) : (cellsOf P).length = P.length * 2 := by
  induction P with
  | nil => rfl
  | cons p P ih => simp [cellsOf, List.flatMap_cons] at ih ⊢; omega
theorem cellsOf_snoc (P : List Piece) (p : Piece) : cellsOf (P ++ [p]) = cellsOf P ++ [.int .i64 p.1, p.2.2] := by simp [cellsOf]

theorem own_ne {w : World} {B B' e e' s s' n n' : Nat} {v v' : Value} {xs xs' : List Value} (h : w.ownsRow B e s v n xs) (h' : w.ownsRow B' e' s' v' n' xs') (he : e ≠ e') : v.ownBlock = none ∨ v.ownBlock ≠ v'.ownBlock := by
  rcases h.2 with ⟨rfl, _⟩ | ⟨g, cap, cur, rfl, _, hg, _⟩
  · exact .inl rfl
  · right
    rcases h'.2 with ⟨rfl, _⟩ | ⟨g', cap', cur', rfl, _, hg', _⟩
    · simp [Value.ownBlock]
    · simp only [Value.ownBlock, ne_eq, Option.some.injEq]
      rintro rfl
      rw [hg] at hg'
      simp at hg'
      exact he hg'.2

structure LOwn (w : World) (B : Nat) (v : Value) (P : List Piece) : Prop where
  row : w.ownsRow B 32 2 v P.length (cellsOf P)
  inner : ∀ p ∈ P, w.ownsRow B 9 1 p.2.2 p.2.1.length (strs p.2.1)
  apart : P.Pairwise fun p q => ∀ k, p.2.2.ownBlock = some k → q.2.2.ownBlock ≠ some k

theorem LOwn.nil (w : World) (B : Nat) : LOwn w B (.slice none 0 0) [] := ⟨World.ownsRow_nil _ _ _ _, by simp, List.Pairwise.nil⟩

theorem own_lt {w : World} {B e s n : Nat} {v : Value} {xs : List Value} (h : w.ownsRow B e s v n xs) {k : Nat} (hk : v.ownBlock = some k) : B ≤ k ∧ k < w.heap.size := h.lt k hk

/-- What is not of the row that was written stays. -/
theorem own_grown {w w' : World} {B e s n : Nat} {v : Value} {xs : List Value} {row : Option Nat} (h : w.ownsRow B e s v n xs) (hg : w.grownBy w' row) (hne : v.ownBlock = none ∨ v.ownBlock ≠ row) : w'.ownsRow B e s v n xs := h.kept hg hne
theorem own_below {w w' : World} {B e s n : Nat} {v : Value} {xs : List Value} (h : w.ownsRow B e s v n xs) (hb : Below w.heap.size w w') : w'.ownsRow B e s v n xs := by
  refine h.kept (row := none) ⟨hb.os, hb.tape, hb.output, hb.size, fun k hk _ => hb.block k hk⟩ ?_
  rcases h.2 with ⟨rfl, _⟩ | ⟨g, cap, cur, rfl, _⟩ <;> simp [Value.ownBlock]
theorem LOwn.below {w w' : World} {B : Nat} {v : Value} {P : List Piece} (h : LOwn w B v P) (hb : Below w.heap.size w w') : LOwn w' B v P :=
  ⟨own_below h.row hb, fun p hp => own_below (h.inner p hp) hb, h.apart⟩

theorem LOwn.alloc {w : World} {B : Nat} {v : Value} {P : List Piece} (h : LOwn w B v P) (o : Obj) : LOwn (w.alloc o) B v P :=
  ⟨h.row.alloc o, fun p hp => (h.inner p hp).alloc o, h.apart⟩
/-- The last line's cells, and its words' row. -/
theorem LOwn.last {w : World} {B g c a : Nat} {u : Value} {x : W} {P : List Piece} (h : LOwn w B (.slice (some ⟨g, 0, none⟩) (P.length + 1) c) (P ++ [(a, x, u)])) : w.cell? ⟨g, P.length * 2 + 1, none⟩ = some u ∧ w.frozen? ⟨g, P.length * 2 + 1, none⟩ = false ∧ w.ownsRow B 9 1 u x.length (strs x) := by
  have h1 : w.ownsRow B 32 2 (.slice (some ⟨g, 0, none⟩) (P.length + 1) c) (P.length + 1) (cellsOf (P ++ [(a, x, u)])) := by
    have := h.row
    rwa [List.length_append] at this
  refine ⟨?_, h1.frozenAt _, h.inner (a, x, u) (by simp)⟩
  rw [h1.cellAt (P.length * 2 + 1) (by omega)]
  rw [cellsOf_snoc, List.getElem?_append_right (by rw [cellsOf_length]; omega), cellsOf_length]
  rw [show P.length * 2 + 1 - P.length * 2 = 1 by omega]
  rfl
/-- One line more, without words yet. -/
theorem LOwn.push {w w' : World} {B : Nat} {v v' : Value} {P : List Piece} (h : LOwn w B v P) (n : Nat)
    (hr : w'.ownsRow B 32 2 v' (P.length + 1) (cellsOf P ++ [.int .i64 n, .slice none 0 0])) (hg : w.grownBy w' v.ownBlock) : LOwn w' B v' (P ++ [(n, [], .slice none 0 0)]) := by
  refine ⟨?_, ?_, ?_⟩
  · rw [cellsOf_snoc, List.length_append]
    exact hr
  · intro p hp
    rcases List.mem_append.1 hp with hp | hp
    · exact own_grown (h.inner p hp) hg (own_ne (h.inner p hp) h.row (by decide))
    · rw [List.mem_singleton] at hp
      subst hp
      exact World.ownsRow_nil _ _ _ _
  · rw [List.pairwise_append]
    refine ⟨h.apart, List.pairwise_singleton _ _, fun p hp q hq k hk => ?_⟩
    rw [List.mem_singleton] at hq
    subst hq
    simp [Value.ownBlock]

theorem own_form {w : World} {B e s n : Nat} {v : Value} {xs : List Value} (h : w.ownsRow B e s v n xs) (hn : 0 < n) : ∃ g cap, v = .slice (some ⟨g, 0, none⟩) n cap ∧ B ≤ g ∧ g < w.heap.size ∧ n ≤ cap ∧ cap ≤ maxLen := by
  rcases h.2 with ⟨_, h0⟩ | ⟨g, cap, cur, rfl, hb, hg, hc, hm, _⟩
  · omega
  · exact ⟨g, cap, rfl, hb, (Array.getElem?_eq_some_iff.1 hg).1, hc, hm⟩

theorem LOwn.kept {w w' : World} {B g c a : Nat} {u : Value} {x : W} {P : List Piece} (h : LOwn w B (.slice (some ⟨g, 0, none⟩) (P.length + 1) c) (P ++ [(a, x, u)])) (hg : w.grownBy w' u.ownBlock) : w'.cell? ⟨g, P.length * 2 + 1, none⟩ = some u ∧ w'.frozen? ⟨g, P.length * 2 + 1, none⟩ = false := by
  have h0 := h.last
  have hi := own_ne h.row h0.2.2 (by decide)
  have hlt := (own_lt h.row (k := g) rfl).2
  have hne : some g ≠ u.ownBlock := by simpa [Value.ownBlock] using hi
  have hk := hg.block g hlt hne
  exact ⟨(World.cell?_of_block (w := w) hk).trans h0.1, (World.frozen?_of_block (w := w) hk).trans h0.2.1⟩
theorem cellsOf_last (P : List Piece) (p : Piece) : (cellsOf (P ++ [p]))[P.length * 2 + 1]? = some p.2.2 := by
  rw [cellsOf_snoc, List.getElem?_append_right (by rw [cellsOf_length]; omega), cellsOf_length]
  rw [show P.length * 2 + 1 - P.length * 2 = 1 by omega]
  rfl
theorem cellsOf_set (P : List Piece) (p : Piece) (u : Value) : (cellsOf (P ++ [p])).set (P.length * 2 + 1) u = cellsOf (P ++ [(p.1, p.2.1, u)]) := by
  rw [cellsOf_snoc, cellsOf_snoc, List.set_append_right _ _ (by rw [cellsOf_length]; omega), cellsOf_length]
  rw [show P.length * 2 + 1 - P.length * 2 = 1 by omega]
  rfl
theorem cellsOf_words (P : List Piece) (a : Nat) (x y : W) (u : Value) : cellsOf (P ++ [(a, x, u)]) = cellsOf (P ++ [(a, y, u)]) := by rw [cellsOf_snoc, cellsOf_snoc]

/-- The last line's words have grown: its row, then the cell that leads to it. -/
theorem LOwn.grow {w w' : World} {B g c a : Nat} {u u' : Value} {x y : W} {P : List Piece} (h : LOwn w B (.slice (some ⟨g, 0, none⟩) (P.length + 1) c) (P ++ [(a, x, u)]))
    (hr : w'.ownsRow B 9 1 u' (x.length + y.length) (strs x ++ strs y)) (hg : w.grownBy w' u.ownBlock) (hat : u'.ownBlock = u.ownBlock ∨ u'.ownBlock = some w.heap.size) :
    LOwn (w'.setCell ⟨g, P.length * 2 + 1, none⟩ u') B (.slice (some ⟨g, 0, none⟩) (P.length + 1) c) (P ++ [(a, x ++ y, u')]) := by
  have hi := h.inner (a, x, u) (by simp)
  have hne : some g ≠ u.ownBlock := by
    have := own_ne h.row hi (by decide)
    simpa [Value.ownBlock] using this
  have hrow : w'.ownsRow B 32 2 (.slice (some ⟨g, 0, none⟩) (P.length + 1) c) (P.length + 1) (cellsOf (P ++ [(a, x, u)])) := by
    have := own_grown h.row hg (.inr hne)
    rwa [List.length_append] at this
  have hst := hrow.stored (P.length * 2 + 1) u'
  rw [cellsOf_set, cellsOf_words P a x (x ++ y)] at hst
  have hfar : ∀ {v : Value} {n : Nat} {xs : List Value}, w'.ownsRow B 9 1 v n xs → (w'.setCell ⟨g, P.length * 2 + 1, none⟩ u').ownsRow B 9 1 v n xs := by
    intro v n xs ho
    have hv := own_ne ho hrow (by decide)
    obtain ⟨h1, h2⟩ := ho
    refine ⟨h1, ?_⟩
    rcases h2 with h2 | ⟨g', cap, cur, rfl, hb, hh, r⟩
    · exact .inl h2
    · refine .inr ⟨g', cap, cur, rfl, hb, ?_, r⟩
      rw [Below.heap_setCell _ _ _ _ (by
        rcases hv with hv | hv
        · simp [Value.ownBlock] at hv
        · simpa [Value.ownBlock] using hv)]
      exact hh
  have hap := List.pairwise_append.1 h.apart
  refine ⟨?_, ?_, ?_⟩
  · rw [List.length_append]
    exact hst.1
  · intro p hp
    rcases List.mem_append.1 hp with hp | hp
    · have hpi := h.inner p (List.mem_append_left _ hp)
      refine hfar (own_grown hpi hg ?_)
      cases hk : p.2.2.ownBlock with
      | none => exact .inl rfl
      | some k => exact .inr fun e => hap.2.2 p hp _ (List.mem_singleton.2 rfl) k hk e.symm
    · rw [List.mem_singleton] at hp
      subst hp
      have e : (x ++ y).length = x.length + y.length := List.length_append
      have e2 : strs (x ++ y) = strs x ++ strs y := List.map_append
      show World.ownsRow _ B _ 1 u' (x ++ y).length (strs (x ++ y))
      rw [e, e2]
      exact hfar hr
  · rw [List.pairwise_append]
    refine ⟨hap.1, List.pairwise_singleton _ _, fun p hp q hq k hk => ?_⟩
    rw [List.mem_singleton] at hq
    subst hq
    show u'.ownBlock ≠ some k
    rcases hat with hat | hat
    · rw [hat]
      exact hap.2.2 p hp _ (List.mem_singleton.2 rfl) k hk
    · rw [hat]
      have := (own_lt (h.inner p (List.mem_append_left _ hp)) hk).2
      intro e
      injection e with e
      omega
end Go.Proofs.YtppmamcoehhopaaDoor.LexD
