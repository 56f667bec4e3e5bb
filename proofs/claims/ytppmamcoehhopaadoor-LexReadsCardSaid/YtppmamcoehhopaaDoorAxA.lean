/- The abstract machine of this claim's walks, part A: abstract values, how they read in memory, and what a step may turn. -/
import Derived.Below
import Derived.Deep.Draws
import Derived.OrdersHeld
import Derived.OwnWalk
import Derived.Tactics
import Derived.WalkKit
import Derived.KernelRfl
import Derived.Laws.OwnMore
import Derived.Laws.IdiomCopy
set_option linter.unusedVariables false
set_option linter.unusedSimpArgs false
namespace Go.Proofs.YtppmamcoehhopaaDoor.Ax
open Go Go.RowKit

/-- An abstract value: a plain value; a slice of n elements that nobody writes any more, by its cells; a pointer to cells that nobody writes any more; a slice into a box; a pointer into a box; a struct's cells; several results; anything. -/
inductive AV where
  | v (x : Value)
  | sl (n : Nat) (c : List AV)
  | rf (c : List AV)
  | own (id off n sz : Nat)
  | ptr (id off : Nat)
  | ag (c : List AV)
  | tp (c : List AV)
  | no

structure Rng where
  b : Nat
  o : Nat
  cap : Nat
def Rng.at (r : Rng) (j : Nat) : Addr := ⟨r.b, r.o + j, none⟩
theorem Rng.at_add (r : Rng) (i j : Nat) : (r.at i).add j = r.at (i + j) := by
  unfold Rng.at
  rw [Addr.add_lit, Nat.add_assoc]

/-- The tables of Go's library that these cells hold. -/
def Tabs (S : Addr → Option Value) : Prop :=
  True
theorem Tabs.mono {S S' : Addr → Option Value} (h : Tabs S) (hS : ∀ a u, S a = some u → S' a = some u) : Tabs S' := by
  refine ?_
  exact trivial

/-- The tables' blocks have just their cells. -/
def TabSize (w : World) : Prop :=
  True

/-- Where the boxes lie, how many there have been, and the cells that stay. -/
structure KW where
  φ : Nat → Rng
  m : Nat
  S : Addr → Option Value
  tab : Tabs S

def KW.le (m0 : Nat) (k k' : KW) : Prop := m0 ≤ k'.m ∧ (∀ i, i < m0 → k'.φ i = k.φ i) ∧ ∀ a u, k.S a = some u → k'.S a = some u
theorem KW.le_refl {m0 : Nat} {k : KW} (h : m0 ≤ k.m) : KW.le m0 k k := ⟨h, fun _ _ => rfl, fun _ _ h => h⟩
theorem KW.le_trans {m0 : Nat} {a b c : KW} (h : KW.le m0 a b) (g : KW.le m0 b c) : KW.le m0 a c :=
  ⟨g.1, fun i hi => (g.2.1 i hi).trans (h.2.1 i hi), fun x u hx => g.2.2 x u (h.2.2 x u hx)⟩
theorem KW.le_mono {m0 m1 : Nat} {a b : KW} (h : KW.le m1 a b) (hm : m0 ≤ m1) : KW.le m0 a b := ⟨Nat.le_trans hm h.1, fun i hi => h.2.1 i (by omega), h.2.2⟩

/-- An abstract value reads as a value. -/
inductive Rel (k : KW) : AV → Value → Prop
  | v (x : Value) : Rel k (.v x) x
  | sl (n cap : Nat) (c : List AV) (a : Addr) (us : Nat → Value) (hn : n ≤ cap) (h1 : ∀ j, j < c.length → k.S (a.add j) = some (us j)) (h2 : ∀ (j : Nat) (z : AV), c[j]? = some z → Rel k z (us j)) : Rel k (.sl n c) (.slice (some a) n cap)
  | sl0 (a : Option Addr) (cap : Nat) : Rel k (.sl 0 []) (.slice a 0 cap)
  | rf (c : List AV) (a : Addr) (us : Nat → Value) (h1 : ∀ j, j < c.length → k.S (a.add j) = some (us j)) (h2 : ∀ (j : Nat) (z : AV), c[j]? = some z → Rel k z (us j)) : Rel k (.rf c) (.pointer (some a))
  | own (id off n sz cap : Nat) (hi : id < k.m) (hn : n ≤ cap) (hc : off + cap * sz ≤ (k.φ id).cap) : Rel k (.own id off n sz) (.slice (some ((k.φ id).at off)) n cap)
  | own0 (id off sz : Nat) (a : Option Addr) (hi : id < k.m) (hc : off ≤ (k.φ id).cap) : Rel k (.own id off 0 sz) (.slice a 0 0)
  | ptr (id off : Nat) (hi : id < k.m) : Rel k (.ptr id off) (.pointer (some ((k.φ id).at off)))
  | ag (c : List AV) (us : List Value) (hl : us.length = c.length) (h : ∀ (j : Nat) (z : AV) (u : Value), c[j]? = some z → us[j]? = some u → Rel k z u) : Rel k (.ag c) (.agg us.toArray)
  | tp (c : List AV) (us : List Value) (hl : us.length = c.length) (h : ∀ (j : Nat) (z : AV) (u : Value), c[j]? = some z → us[j]? = some u → Rel k z u) : Rel k (.tp c) (.tuple us.toArray)
  | no (u : Value) : Rel k .no u

theorem Rel.mono {k k' : KW} {z : AV} {u : Value} (h : Rel k z u) (hk : KW.le k.m k k') : Rel k' z u := by
  induction h with
  | v x => exact .v x
  | sl n cap c a us hn h1 h2 ih => exact .sl n cap c a us hn (fun j hj => hk.2.2 _ _ (h1 j hj)) ih
  | sl0 a cap => exact .sl0 a cap
  | rf c a us h1 h2 ih => exact .rf c a us (fun j hj => hk.2.2 _ _ (h1 j hj)) ih
  | own id off n sz cap hi hn hc =>
    have e := hk.2.1 id hi
    rw [← e]
    exact .own id off n sz cap (Nat.lt_of_lt_of_le hi hk.1) hn (by rw [e]; exact hc)
  | own0 id off sz a hi hc => exact .own0 id off sz a (Nat.lt_of_lt_of_le hi hk.1) (by rw [hk.2.1 id hi]; exact hc)
  | ptr id off hi =>
    rw [← hk.2.1 id hi]
    exact .ptr id off (Nat.lt_of_lt_of_le hi hk.1)
  | ag c us hl h ih => exact .ag c us hl ih
  | tp c us hl h ih => exact .tp c us hl ih
  | no u => exact .no u

/-- The abstract memory: the boxes that are alive, and how many there have been. -/
structure St where
  get : Nat → Option (List AV)
  nx : Nat
def St.set (s : St) (i : Nat) (c : List AV) : St := ⟨fun j => if j = i then some c else s.get j, s.nx⟩
def St.kill (s : St) (i : Nat) : St := ⟨fun j => if j = i then none else s.get j, s.nx⟩
def St.push (s : St) (c : List AV) : St := ⟨fun j => if j = s.nx then some c else s.get j, s.nx + 1⟩
theorem St.set_same (s : St) (i : Nat) (c : List AV) : (s.set i c).get i = some c := if_pos rfl
theorem St.set_ne (s : St) (i j : Nat) (c : List AV) (h : j ≠ i) : (s.set i c).get j = s.get j := if_neg h
theorem St.kill_same (s : St) (i : Nat) : (s.kill i).get i = none := if_pos rfl
theorem St.kill_ne (s : St) (i j : Nat) (h : j ≠ i) : (s.kill i).get j = s.get j := if_neg h
theorem St.push_same (s : St) (c : List AV) : (s.push c).get s.nx = some c := if_pos rfl
theorem St.push_ne (s : St) (j : Nat) (c : List AV) (h : j ≠ s.nx) : (s.push c).get j = s.get j := if_neg h
theorem St.nx_set (s : St) (i : Nat) (c : List AV) : (s.set i c).nx = s.nx := rfl
theorem St.nx_kill (s : St) (i : Nat) : (s.kill i).nx = s.nx := rfl
theorem St.nx_push (s : St) (c : List AV) : (s.push c).nx = s.nx + 1 := rfl

/-- Of what was there only cells have turned; the streams are as they were. -/
structure Shp (w w' : World) : Prop where
  os : w'.os = w.os
  tape : w'.tape = w.tape
  output : w'.output = w.output
  size : w.heap.size ≤ w'.heap.size
  block : ∀ i, i < w.heap.size → (∃ c c' e f, w.heap[i]? = some (.cells c e f) ∧ w'.heap[i]? = some (.cells c' e f) ∧ c'.size = c.size) ∨ ((∀ c e f, w.heap[i]? ≠ some (.cells c e f)) ∧ w'.heap[i]? = w.heap[i]?)
theorem Shp.refl (w : World) : Shp w w := ⟨rfl, rfl, rfl, Nat.le_refl _, fun i hi => by
  cases h : w.heap[i]? with
  | none => exact .inr ⟨fun c e f => nofun, rfl⟩
  | some o =>
    cases o with
    | cells c e f => exact .inl ⟨c, c, e, f, rfl, rfl, rfl⟩
    | _ => exact .inr ⟨fun c e f => nofun, rfl⟩⟩
theorem Shp.trans {a b c : World} (h : Shp a b) (g : Shp b c) : Shp a c := by
  refine ⟨g.os.trans h.os, g.tape.trans h.tape, g.output.trans h.output, Nat.le_trans h.size g.size, fun i hi => ?_⟩
  rcases h.block i hi with ⟨x, y, e, f, h1, h2, h3⟩ | ⟨h1, h2⟩
  · rcases g.block i (Nat.lt_of_lt_of_le hi h.size) with ⟨x', y', e', f', g1, g2, g3⟩ | ⟨g1, g2⟩
    · rw [h2] at g1
      injection g1 with g1
      injection g1 with p1 p2 p3
      subst p1 p2 p3
      exact .inl ⟨x, y', e, f, h1, g2, g3.trans h3⟩
    · exact absurd h2 (g1 _ _ _)
  · rcases g.block i (Nat.lt_of_lt_of_le hi h.size) with ⟨x', y', e', f', g1, g2, g3⟩ | ⟨g1, g2⟩
    · rw [h2] at g1
      exact absurd g1 (h1 _ _ _)
    · exact .inr ⟨h1, g2.trans h2⟩
theorem Shp.drew {a b : World} (h : Shp a b) (n : Nat) : Shp a { b with drawn := n } := ⟨h.os, h.tape, h.output, h.size, h.block⟩
theorem Shp.alloc {a b : World} (h : Shp a b) (o : Obj) : Shp a (b.alloc o) :=
  h.trans ⟨rfl, rfl, rfl, by simp, fun i hi => by
    rw [Below.heap_alloc _ _ _ hi]
    exact (Shp.refl b).block i hi⟩
theorem Shp.setCell {a b : World} (h : Shp a b) (p : Addr) (u : Value) : Shp a (b.setCell p u) := by
  refine h.trans ⟨rfl, rfl, rfl, by simp [World.setCell], fun i hi => ?_⟩
  by_cases hp : i = p.block
  · subst hp
    cases hh : b.heap[p.block]? with
    | none => exact .inr ⟨fun c e f => nofun, by simp [World.setCell, Array.getElem?_modify, hh]⟩
    | some o =>
      cases o with
      | cells c e f =>
        refine .inl ⟨c, if p.spot.isSome then c else c.setIfInBounds p.off u, e, f, rfl, by simp [World.setCell, Array.getElem?_modify, hh], ?_⟩
        split <;> simp
      | _ => exact .inr ⟨fun c e f => nofun, by simp [World.setCell, Array.getElem?_modify, hh]⟩
  · rw [Below.heap_setCell _ _ _ _ hp]
    exact (Shp.refl b).block i hi
/-- Where every elder cell reads as it did, the elder memory is as it was. -/
theorem Shp.below {w w' : World} (h : Shp w w') (hc : ∀ a u, w.cell? a = some u → w'.cell? a = some u) : Below w.heap.size w w' := by
  refine ⟨h.os, h.tape, h.output, h.size, fun i hi => ?_⟩
  rcases h.block i hi with ⟨x, y, e, f, h1, h2, h3⟩ | ⟨h1, h2⟩
  · rw [h1, h2]
    congr 2
    apply Array.ext h3
    intro j hj1 hj2
    have c1 : w.cell? ⟨i, j, none⟩ = some x[j] := by simp [World.cell?, h1, hj2]
    have c2 := hc _ _ c1
    simp [World.cell?, h2, hj1] at c2
    exact c2
  · exact h2

theorem Shp.tz {w w' : World} (h : Shp w w') (g : TabSize w) : TabSize w' := by
  refine ?_
  exact trivial

/-- A box in memory. -/
def BoxOk (k : KW) (w : World) (r : Rng) (c : List AV) : Prop :=
  c.length ≤ r.cap ∧ ∀ j, j < r.cap → ∃ u, w.cell? (r.at j) = some u ∧ w.frozen? (r.at j) = false ∧ k.S (r.at j) = none ∧ ∀ z, c[j]? = some z → Rel k z u

structure Sim (w0 : World) (k : KW) (w : World) (s : St) : Prop where
  m : k.m = s.nx
  fz : ∀ a u, k.S a = some u → w.cell? a = some u
  lt : ∀ i c, s.get i = some c → i < s.nx
  box : ∀ i c, s.get i = some c → BoxOk k w (k.φ i) c
  sep : ∀ i j c d, s.get i = some c → s.get j = some d → i ≠ j → ∀ x y, x < (k.φ i).cap → y < (k.φ j).cap → (k.φ i).at x ≠ (k.φ j).at y
  shp : Shp w0 w
  tz : TabSize w0

theorem cell_block_lt {w : World} {a : Addr} {u : Value} (h : w.cell? a = some u) : a.block < w.heap.size := World.block_lt_of_cell? w a h

/-- The world has drawn. -/
theorem Sim.drew {w0 w : World} {k : KW} {s : St} (h : Sim w0 k w s) (n : Nat) : Sim w0 k { w with drawn := n } s :=
  ⟨h.m, h.fz, h.lt, h.box, h.sep, h.shp.drew n, h.tz⟩

def KW.push (k : KW) (r : Rng) : KW := ⟨fun i => if i = k.m then r else k.φ i, k.m + 1, k.S, k.tab⟩
theorem KW.push_le (k : KW) (r : Rng) : KW.le k.m k (k.push r) := ⟨Nat.le_succ _, fun i hi => if_neg (Nat.ne_of_lt hi), fun _ _ h => h⟩
theorem KW.push_same (k : KW) (r : Rng) : (k.push r).φ k.m = r := if_pos rfl
theorem KW.push_ne (k : KW) (r : Rng) (i : Nat) (h : i ≠ k.m) : (k.push r).φ i = k.φ i := if_neg h

/-- A new box. -/
theorem Sim.push {w0 w : World} {k : KW} {s : St} (h : Sim w0 k w s) (us : List Value) (t : TypeId) (c : List AV) (hl : c.length ≤ us.length) (hr : ∀ (j : Nat) (z : AV) (u : Value), c[j]? = some z → us[j]? = some u → Rel k z u) :
    Sim w0 (k.push ⟨w.heap.size, 0, us.length⟩) (w.alloc (.cells us.toArray t)) (s.push c) := by
  have hle := k.push_le ⟨w.heap.size, 0, us.length⟩
  have hm := h.m
  have old : ∀ a u, w.cell? a = some u → (w.alloc (.cells us.toArray t)).cell? a = some u := fun a u hu => (World.cell?_alloc_lt _ _ _ (cell_block_lt hu)).trans hu
  have hbox : ∀ i c', s.get i = some c' → i ≠ k.m := fun i c' hi => by have := h.lt i c' hi; omega
  refine ⟨by rw [St.nx_push, ← hm]; rfl, fun a u hu => old a u (h.fz a u hu), ?_, ?_, ?_, h.shp.alloc _, h.tz⟩
  · intro i c' hi
    rw [St.nx_push]
    by_cases e : i = s.nx
    · omega
    · rw [St.push_ne _ _ _ e] at hi
      have := h.lt i c' hi
      omega
  · intro i c' hi
    by_cases e : i = s.nx
    · subst e
      rw [St.push_same] at hi
      injection hi with hi
      subst hi
      rw [← hm, KW.push_same]
      refine ⟨hl, fun j hj => ?_⟩
      have hj' : j < us.length := hj
      refine ⟨us[j], ?_, ?_, ?_, fun z hz => (hr j z us[j] hz (by simp [hj'])).mono hle⟩
      · show (w.alloc (.cells us.toArray t)).cell? ⟨w.heap.size, 0 + j, none⟩ = _
        rw [World.cell?_alloc_new, Nat.zero_add]
        simp [hj']
      · show (w.alloc (.cells us.toArray t)).frozen? ⟨w.heap.size, 0 + j, none⟩ = _
        rw [World.frozen?_alloc_new]
      · show k.S ⟨w.heap.size, 0 + j, none⟩ = none
        cases hS : k.S ⟨w.heap.size, 0 + j, none⟩ with
        | none => rfl
        | some u => exact absurd (cell_block_lt (h.fz _ _ hS)) (Nat.lt_irrefl _)
    · rw [St.push_ne _ _ _ e] at hi
      rw [KW.push_ne _ _ _ (hbox i c' hi)]
      obtain ⟨hc, hb⟩ := h.box i c' hi
      refine ⟨hc, fun j hj => ?_⟩
      obtain ⟨u, h1, h2, h3, h4⟩ := hb j hj
      exact ⟨u, old _ _ h1, (World.frozen?_alloc_old _ _ _ (Nat.ne_of_lt (cell_block_lt h1))).trans h2, h3, fun z hz => (h4 z hz).mono hle⟩
  · intro i j c' d' hi hj hij x y hx hy
    by_cases e : i = s.nx
    · subst e
      rw [St.push_ne _ _ _ (Ne.symm hij)] at hj
      rw [← hm, KW.push_same] at hx ⊢
      rw [KW.push_ne _ _ _ (hbox j d' hj)] at hy ⊢
      intro he
      obtain ⟨u, h1, _⟩ := (h.box j d' hj).2 y hy
      rw [← he] at h1
      exact absurd (cell_block_lt h1) (Nat.lt_irrefl _)
    · rw [St.push_ne _ _ _ e] at hi
      rw [KW.push_ne _ _ _ (hbox i c' hi)] at hx ⊢
      by_cases e' : j = s.nx
      · subst e'
        rw [← hm, KW.push_same] at hy ⊢
        intro he
        obtain ⟨u, h1, _⟩ := (h.box i c' hi).2 x hx
        rw [he] at h1
        exact absurd (cell_block_lt h1) (Nat.lt_irrefl _)
      · rw [St.push_ne _ _ _ e'] at hj
        rw [KW.push_ne _ _ _ (hbox j d' hj)] at hy ⊢
        exact h.sep i j c' d' hi hj hij x y hx hy

/-- One cell of a box is written. -/
theorem Sim.write {w0 w : World} {k : KW} {s : St} (h : Sim w0 k w s) {i : Nat} {c : List AV} (hi : s.get i = some c) {j : Nat} (hj : j < c.length) {z : AV} {u : Value} (hz : Rel k z u) :
    Sim w0 k (w.setCell ((k.φ i).at j) u) (s.set i (c.set j z)) := by
  obtain ⟨hc, hb⟩ := h.box i c hi
  have hj' : j < (k.φ i).cap := Nat.lt_of_lt_of_le hj hc
  obtain ⟨u0, g1, g2, g3, g4⟩ := hb j hj'
  have far : ∀ a, a ≠ (k.φ i).at j → (w.setCell ((k.φ i).at j) u).cell? a = w.cell? a := fun a ha => World.cell?_setCell_other _ _ _ _ (Ne.symm ha)
  refine ⟨h.m, fun a x hx => ?_, ?_, ?_, ?_, h.shp.setCell _ _, h.tz⟩
  · rw [far a (fun e => by rw [e, g3] at hx; cases hx)]
    exact h.fz a x hx
  · intro i' c' hi'
    rw [St.nx_set]
    by_cases e : i' = i
    · subst e; exact h.lt _ c hi
    · rw [St.set_ne _ _ _ _ e] at hi'; exact h.lt i' c' hi'
  · intro i' c' hi'
    by_cases e : i' = i
    · subst e
      rw [St.set_same] at hi'
      injection hi' with hi'
      subst hi'
      refine ⟨by simpa using hc, fun j' hj2 => ?_⟩
      obtain ⟨x, f1, f2, f3, f4⟩ := hb j' hj2
      by_cases ej : j' = j
      · subst ej
        refine ⟨u, World.cell?_setCell_same _ _ _ f1, by rw [World.frozen?_setCell]; exact f2, f3, fun y hy => ?_⟩
        rw [List.getElem?_set_self hj] at hy
        injection hy with hy
        subst hy
        exact hz
      · refine ⟨x, ?_, by rw [World.frozen?_setCell]; exact f2, f3, fun y hy => ?_⟩
        · rw [far _ (fun e => ej (by unfold Rng.at at e; injection e with e1 e2 e3; omega))]
          exact f1
        · rw [List.getElem?_set_ne (Ne.symm ej)] at hy
          exact f4 y hy
    · rw [St.set_ne _ _ _ _ e] at hi'
      obtain ⟨hc', hb'⟩ := h.box i' c' hi'
      refine ⟨hc', fun j' hj2 => ?_⟩
      obtain ⟨x, f1, f2, f3, f4⟩ := hb' j' hj2
      refine ⟨x, ?_, by rw [World.frozen?_setCell]; exact f2, f3, f4⟩
      rw [far _ (h.sep i' i c' c hi' hi e j' j hj2 hj')]
      exact f1
  · intro a b ca cb ha hb2 hab x y hx hy
    have alive : ∀ q cq, (s.set i (c.set j z)).get q = some cq → ∃ cq', s.get q = some cq' := fun q cq hq => by
      by_cases e : q = i
      · subst e; exact ⟨c, hi⟩
      · rw [St.set_ne _ _ _ _ e] at hq; exact ⟨cq, hq⟩
    obtain ⟨ca', ha'⟩ := alive a ca ha
    obtain ⟨cb', hb'⟩ := alive b cb hb2
    exact h.sep a b ca' cb' ha' hb' hab x y hx hy

/-- Boxes may be forgotten. -/
theorem Sim.kill {w0 w : World} {k : KW} {s : St} (h : Sim w0 k w s) (i : Nat) : Sim w0 k w (s.kill i) := by
  have alive : ∀ q cq, (s.kill i).get q = some cq → s.get q = some cq := fun q cq hq => by
    by_cases e : q = i
    · subst e; rw [St.kill_same] at hq; cases hq
    · rwa [St.kill_ne _ _ _ e] at hq
  exact ⟨h.m, h.fz, fun q c hq => h.lt q c (alive q c hq), fun q c hq => h.box q c (alive q c hq), fun a b ca cb ha hb => h.sep a b ca cb (alive _ _ ha) (alive _ _ hb), h.shp, h.tz⟩
/-- An empty box, of no place. -/
theorem Sim.ghost {w0 w : World} {k : KW} {s : St} (h : Sim w0 k w s) : Sim w0 (k.push ⟨0, 0, 0⟩) w (s.push []) := by
  have hle := k.push_le ⟨0, 0, 0⟩
  have hm := h.m
  have hne : ∀ q c, s.get q = some c → q ≠ k.m := fun q c hq => by have := h.lt q c hq; omega
  refine ⟨by rw [St.nx_push, ← hm]; rfl, h.fz, ?_, ?_, ?_, h.shp, h.tz⟩
  · intro i c hi
    rw [St.nx_push]
    by_cases e : i = s.nx
    · omega
    · rw [St.push_ne _ _ _ e] at hi
      have := h.lt i c hi
      omega
  · intro i c hi
    by_cases e : i = s.nx
    · subst e
      rw [St.push_same] at hi
      injection hi with hi
      subst hi
      rw [← hm, KW.push_same]
      exact ⟨Nat.zero_le _, fun j hj => absurd hj (Nat.not_lt_zero _)⟩
    · rw [St.push_ne _ _ _ e] at hi
      rw [KW.push_ne _ _ _ (hne i c hi)]
      obtain ⟨hc, hb⟩ := h.box i c hi
      refine ⟨hc, fun j hj => ?_⟩
      obtain ⟨u, h1, h2, h3, h4⟩ := hb j hj
      exact ⟨u, h1, h2, h3, fun z hz => (h4 z hz).mono hle⟩
  · intro i j c d hi hj hij x y hx hy
    by_cases e : i = s.nx
    · subst e
      rw [← hm, KW.push_same] at hx
      exact absurd hx (Nat.not_lt_zero _)
    · rw [St.push_ne _ _ _ e] at hi
      rw [KW.push_ne _ _ _ (hne i c hi)] at hx ⊢
      by_cases e' : j = s.nx
      · subst e'
        rw [← hm, KW.push_same] at hy
        exact absurd hy (Nat.not_lt_zero _)
      · rw [St.push_ne _ _ _ e'] at hj
        rw [KW.push_ne _ _ _ (hne j d hj)] at hy ⊢
        exact h.sep i j c d hi hj hij x y hx hy
end Go.Proofs.YtppmamcoehhopaaDoor.Ax
