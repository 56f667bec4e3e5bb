/- The lines of a text, told to the abstract machine: as slices that nobody writes, and as boxes. -/
import Derived.Test.YtppmamcoehhopaaDoorAxP
import Derived.Test.YtppmamcoehhopaaDoorLexH
namespace Go.Proofs.YtppmamcoehhopaaDoor.LexN
open Go Go.RowKit Go.Proofs.YtppmamcoehhopaaDoor.Ax Go.Proofs.YtppmamcoehhopaaDoor.Base Go.Proofs.YtppmamcoehhopaaDoor.LexB Go.Proofs.YtppmamcoehhopaaDoor.LexM Go.Proofs.YtppmamcoehhopaaDoor.LexD Go.Proofs.YtppmamcoehhopaaDoor.LexF Go.Proofs.YtppmamcoehhopaaDoor.LexH
open Go.Proofs.YtppmamcoehhopaaDoor.LexE hiding W
set_option linter.unusedVariables false
set_option linter.unusedSimpArgs false
variable {P : Program}

/-- Cells that nobody writes any more may be added to those that stay. -/
theorem sim_more {w0 w : World} {k : KW} {s : St} (hs : Sim w0 k w s) (b : Nat) (hb : ∀ i c, s.get i = some c → ∀ j, j < (k.φ i).cap → ((k.φ i).at j).block < b) :
    ∃ k' : KW, k'.φ = k.φ ∧ k'.m = k.m ∧ (∀ a u, k.S a = some u → k'.S a = some u) ∧ (∀ a u, b ≤ a.block → w.cell? a = some u → k'.S a = some u) ∧ Sim w0 k' w s := by
  have hS : ∀ a u, k.S a = some u → (match k.S a with | some u => some u | none => if b ≤ a.block then w.cell? a else none) = some u := fun a u h => by rw [h]
  refine ⟨⟨k.φ, k.m, fun a => match k.S a with | some u => some u | none => if b ≤ a.block then w.cell? a else none, k.tab.mono hS⟩, rfl, rfl, hS, fun a u ha hu => ?_, ⟨hs.m, fun a u hu => ?_, hs.lt, fun i c hi => ?_, hs.sep, hs.shp, hs.tz⟩⟩
  · show (match k.S a with | some u => some u | none => if b ≤ a.block then w.cell? a else none) = some u
    cases h : k.S a with
    | none => simp only [if_pos ha]; exact hu
    | some u' =>
      have := hs.fz a u' h
      rw [hu] at this
      exact this.symm
  · have hu' : (match k.S a with | some u => some u | none => if b ≤ a.block then w.cell? a else none) = some u := hu
    cases h : k.S a with
    | none =>
      rw [h] at hu'
      simp only at hu'
      split at hu'
      · exact hu'
      · cases hu'
    | some u' =>
      rw [h] at hu'
      rw [← hu']
      exact hs.fz a u' h
  · obtain ⟨h1, h2⟩ := hs.box i c hi
    refine ⟨h1, fun j hj => ?_⟩
    obtain ⟨u, q1, q2, q3, q4⟩ := h2 j hj
    refine ⟨u, q1, q2, ?_, fun z hz => (q4 z hz).mono ⟨Nat.le_refl _, fun _ _ => rfl, hS⟩⟩
    show (match k.S ((k.φ i).at j) with | some u => some u | none => if b ≤ ((k.φ i).at j).block then w.cell? ((k.φ i).at j) else none) = none
    rw [q3]
    have := hb i c hi j hj
    simp only
    rw [if_neg (by omega)]

/-- A contract whose answer lies in new memory that nobody writes any more. -/
theorem pcall_mem {f : FuncId} {us : List Value} {r : AV} (hf : idf r = true) (hen : Enters P f)
    (h : ∀ w, Calls P f us.toArray w fun en w' => ∃ v, en = .returned v ∧ Below w.heap.size w w' ∧ ∀ k : KW, (∀ a u, w.heap.size ≤ a.block → w'.cell? a = some u → k.S a = some u) → Rel k r v) : PCall P f (us.map .v) r := by
  refine fun s => ⟨hen, fun w0 k w vs hs hv => ?_⟩
  have : vs = us := by
    apply List.ext_getElem
    · simpa using hv.1
    · intro j h1 h2
      have := hv.2 j (.v us[j]) vs[j] (by simp [h2]) (by simp [h1])
      exact this.v_eq
  subst this
  refine (h w).mono ?_
  rintro en w' ⟨v, rfl, hb, hr⟩
  have hs' := hs.below hb
  obtain ⟨k', e1, e2, e3, e4, hs2⟩ := sim_more hs' w.heap.size fun i c hi j hj => by
    obtain ⟨u, q, _⟩ := (hs.box i c hi).2 j hj
    exact cell_block_lt q
  exact ⟨v, r, s, k', rfl, ⟨rfl, rfl⟩, hs2, hr k' e4, by rw [← hs.m]; exact ⟨by rw [e2]; exact Nat.le_refl _, fun i hi => by rw [e1], e3⟩⟩

/-- A row that a call has laid, read as a slice that nobody writes. -/
theorem row_rel {k : KW} {w : World} {B e sz n : Nat} {v : Value} {xs : List Value} {c : List AV} (h : w.ownsRow B e sz v n xs) (hc : RelL k c xs) (hS : ∀ a u, B ≤ a.block → w.cell? a = some u → k.S a = some u) : Rel k (.sl n c) v := by
  have h0 := h
  rcases h.2 with ⟨rfl, rfl⟩ | ⟨g, cap, cur, rfl, hb, hg, hc', hm, hz, ht⟩
  · have h1 := h.1
    have h2 := hc.1
    have : c = [] := List.eq_nil_of_length_eq_zero (by omega)
    subst this
    exact .sl0 none 0
  · refine .sl n cap c _ (fun j => xs.getD j undef) hc' (fun j hj => hS _ _ (by rw [Addr.add_lit]; exact hb) ?_) (fun j z hz => ?_)
    · have hj' : j < xs.length := by rw [hc.1]; exact hj
      rw [Addr.add_lit, Nat.zero_add, h0.cellAt j (by rw [← h0.1]; exact hj')]
      simp [List.getD, List.getElem?_eq_getElem hj']
    · have hj' : j < xs.length := by rw [hc.1]; exact (List.getElem?_eq_some_iff.1 hz).1
      refine hc.2 j z _ hz ?_
      simp [List.getD, List.getElem?_eq_getElem hj']

def SC (ws : W) : List AV := ws.map fun x => .v (.string (bs x))
def WV (ws : W) : AV := .sl ws.length (SC ws)
def LC (L : LL) : List AV := L.flatMap fun p => [.v (.int .i64 p.1), WV p.2]
def LV (L : LL) : AV := .sl L.length (LC L)
theorem idfL_strs (ws : W) : idf.idfL (SC ws) = true := by
  rw [idfL_iff]
  intro z hz
  obtain ⟨x, _, rfl⟩ := List.mem_map.1 hz
  rfl
theorem wv_idf (ws : W) : idf (WV ws) = true := idfL_strs ws
theorem lv_idf (L : LL) : idf (LV L) = true := by
  show idf.idfL (LC L) = true
  rw [idfL_iff]
  intro z hz
  obtain ⟨p, _, hz⟩ := List.mem_flatMap.1 hz
  rcases List.mem_cons.1 hz with rfl | hz
  · rfl
  · rcases List.mem_cons.1 hz with rfl | hz
    · exact wv_idf _
    · cases hz
theorem relL_strs (k : KW) (ws : W) : RelL k (SC ws) (strs ws) := by
  refine ⟨by simp [SC, strs], fun j z u hz hu => ?_⟩
  simp only [SC, strs, List.getElem?_map, Option.map_eq_some_iff] at hz hu
  obtain ⟨x, hx, rfl⟩ := hz
  obtain ⟨y, hy, rfl⟩ := hu
  rw [hx] at hy
  injection hy with hy
  subst hy
  exact .v _
theorem relL_two {k : KW} {a b : AV} {x y : Value} (h : Rel k a x) (g : Rel k b y) : RelL k [a, b] [x, y] := ⟨rfl, fun j z u hz hu => by
  match j with
  | 0 => simp at hz hu; subst hz hu; exact h
  | 1 => simp at hz hu; subst hz hu; exact g
  | j + 2 => simp at hz⟩
theorem lines_rel {k : KW} {w : World} {B : Nat} {v : Value} {P : List Piece} (h : LOwn w B v P) (hS : ∀ a u, B ≤ a.block → w.cell? a = some u → k.S a = some u) : Rel k (LV (said P)) v := by
  have hl : (said P).length = P.length := by simp [said]
  have key : ∀ Q : List Piece, (∀ p ∈ Q, w.ownsRow B 9 1 p.2.2 p.2.1.length (strs p.2.1)) → RelL k (LC (said Q)) (cellsOf Q) := by
    intro Q
    induction Q with
    | nil => exact fun _ => ⟨rfl, fun j z u hz => by cases hz⟩
    | cons p Q ih =>
      intro hq
      have e1 : cellsOf (p :: Q) = [.int .i64 p.1, p.2.2] ++ cellsOf Q := by simp [cellsOf]
      have e2 : LC (said (p :: Q)) = [.v (.int .i64 p.1), WV p.2.1] ++ LC (said Q) := by simp [LC, said]
      rw [e1, e2]
      exact (relL_two (.v _) (row_rel (hq p (by simp)) (relL_strs k _) hS)).append (ih fun q hq' => hq q (by simp [hq']))
  unfold LV
  rw [hl]
  exact row_rel h.row (key P h.inner) hS
theorem relL_three {k : KW} {a b c : AV} {x y z : Value} (h : Rel k a x) (g : Rel k b y) (f : Rel k c z) : RelL k [a, b, c] [x, y, z] := ⟨rfl, fun j p u hz hu => by
  match j with
  | 0 => simp at hz hu; subst hz hu; exact h
  | 1 => simp at hz hu; subst hz hu; exact g
  | 2 => simp at hz hu; subst hz hu; exact f
  | j + 3 => simp at hz⟩
def RV (R : LL × Int × Int) : AV := .tp [LV R.1, .v (.int .i64 R.2.1), .v (.int .i64 R.2.2)]
theorem lines_pc (t : List UInt8) : PCall Tryd.prog 9 [.v (.string (bs t))] (RV (lexAll t)) := by
  refine pcall_mem (us := [.string (bs t)]) ?_ (enters_of Tryd.func9 (by kernel_rfl) rfl) fun w => (lines_any t w).mono ?_
  · show (idf (LV _) && true) = true
    rw [lv_idf]
    rfl
  · rintro en w' ⟨v, P, rfl, ho, hsd, hb⟩
    refine ⟨_, rfl, hb, fun k hS => ?_⟩
    obtain ⟨h1, h2⟩ := relL_three (lines_rel ho hS) (.v (.int .i64 (lexAll t).2.1)) (.v (.int .i64 (lexAll t).2.2))
    rw [hsd] at h2 h1
    exact .tp _ _ h1 h2

/-- A block that a call has laid becomes a box. -/
theorem adopt {w0 w : World} {k : KW} {s : St} (hs : Sim w0 k w s) {g e : Nat} {cur : Array Value} (hg : w.heap[g]? = some (.cells cur e (0, 0))) (hS : ∀ j, k.S ⟨g, j, none⟩ = none) (hb : ∀ i c, s.get i = some c → 0 < (k.φ i).cap → (k.φ i).b ≠ g)
    {c : List AV} {us : List Value} (hc : RelL k c us) (hu : cur.toList.take us.length = us) : Sim w0 (k.push ⟨g, 0, cur.size⟩) w (s.push c) := by
  have hle := k.push_le ⟨g, 0, cur.size⟩
  have hm := hs.m
  have hne : ∀ q c, s.get q = some c → q ≠ k.m := fun q c hq => by have := hs.lt q c hq; omega
  have hlen : us.length ≤ cur.size := by
    have := congrArg List.length hu
    rw [List.length_take] at this
    simp at this
    omega
  refine ⟨by rw [St.nx_push, ← hm]; rfl, hs.fz, ?_, ?_, ?_, hs.shp, hs.tz⟩
  · intro i c hi
    rw [St.nx_push]
    by_cases e : i = s.nx
    · omega
    · rw [St.push_ne _ _ _ e] at hi
      have := hs.lt i c hi
      omega
  · intro i c' hi
    by_cases e : i = s.nx
    · subst e
      rw [St.push_same] at hi
      injection hi with hi
      subst hi
      rw [← hm, KW.push_same]
      refine ⟨by rw [← hc.1]; exact hlen, fun j hj => ?_⟩
      have hj' : j < cur.size := hj
      refine ⟨cur[j], ?_, ?_, ?_, fun z hz => ?_⟩
      · simp [World.cell?, Rng.at, hg, hj']
      · simp [World.frozen?, Rng.at, hg]
      · show k.S ⟨g, 0 + j, none⟩ = none
        exact hS _
      · have hj2 : j < us.length := by rw [hc.1]; exact (List.getElem?_eq_some_iff.1 hz).1
        refine (hc.2 j z cur[j] hz ?_).mono hle
        rw [← hu, List.getElem?_take, if_pos hj2]
        simp [hj']
    · rw [St.push_ne _ _ _ e] at hi
      rw [KW.push_ne _ _ _ (hne i c' hi)]
      obtain ⟨h1, h2⟩ := hs.box i c' hi
      refine ⟨h1, fun j hj => ?_⟩
      obtain ⟨u, g1, g2, g3, g4⟩ := h2 j hj
      exact ⟨u, g1, g2, g3, fun z hz => (g4 z hz).mono hle⟩
  · intro i j c1 d hi hj hij x y hx hy
    by_cases e : i = s.nx
    · subst e
      rw [St.push_ne _ _ _ (Ne.symm hij)] at hj
      rw [← hm, KW.push_same] at hx ⊢
      rw [KW.push_ne _ _ _ (hne j d hj)] at hy ⊢
      intro he
      exact hb j d hj (by omega) (congrArg Addr.block he).symm
    · rw [St.push_ne _ _ _ e] at hi
      rw [KW.push_ne _ _ _ (hne i c1 hi)] at hx ⊢
      by_cases e' : j = s.nx
      · subst e'
        rw [← hm, KW.push_same] at hy ⊢
        intro he
        exact hb i c1 hi (by omega) (congrArg Addr.block he)
      · rw [St.push_ne _ _ _ e'] at hj
        rw [KW.push_ne _ _ _ (hne j d hj)] at hy ⊢
        exact hs.sep i j c1 d hi hj hij x y hx hy
theorem adopt_row {w0 w : World} {k : KW} {s : St} (hs : Sim w0 k w s) {B e sz n : Nat} {v : Value} {xs : List Value} {c : List AV} (h : w.ownsRow B e sz v n xs) (hc : RelL k c xs) (hS : ∀ a u, k.S a = some u → a.block < B)
    (hb : ∀ i c, s.get i = some c → 0 < (k.φ i).cap → v.ownBlock ≠ some (k.φ i).b) :
    ∃ r : Rng, Sim w0 (k.push r) w (s.push c) ∧ Rel (k.push r) (.own s.nx 0 n sz) v ∧ (0 < r.cap → v.ownBlock = some r.b) := by
  rcases h.2 with ⟨rfl, rfl⟩ | ⟨g, cap, cur, rfl, hb', hg, hc', hm, hz, ht⟩
  · have h1 := h.1
    have h2 := hc.1
    have : c = [] := List.eq_nil_of_length_eq_zero (by omega)
    subst this
    refine ⟨⟨0, 0, 0⟩, hs.ghost, .own0 _ _ _ _ ?_ (Nat.zero_le _), fun h => absurd h (Nat.lt_irrefl _)⟩
    show s.nx < k.m + 1
    rw [hs.m]
    omega
  · refine ⟨⟨g, 0, cur.size⟩, adopt hs hg (fun j => ?_) (fun i c hi h0 he => hb i c hi h0 (by rw [he]; rfl)) hc (by rw [h.1]; exact ht), ?_, fun _ => rfl⟩
    · cases hk : k.S ⟨g, j, none⟩ with
      | none => rfl
      | some u => exact absurd (hS _ _ hk) (by show ¬ g < B; omega)
    · have e : (k.push ⟨g, 0, cur.size⟩).φ s.nx = ⟨g, 0, cur.size⟩ := by rw [← hs.m]; exact KW.push_same _ _
      have := Rel.own (k := k.push ⟨g, 0, cur.size⟩) s.nx 0 n sz cap (by show s.nx < k.m + 1; rw [hs.m]; omega) hc' (by rw [e]; show 0 + cap * sz ≤ cur.size; omega)
      rw [e] at this
      exact this
/-- The lines' words become boxes. -/
theorem adopt_words {w0 w : World} {B : Nat} : ∀ (P : List Piece) (k : KW) (s : St), Sim w0 k w s → (∀ a u, k.S a = some u → a.block < B) → (∀ p ∈ P, w.ownsRow B 9 1 p.2.2 p.2.1.length (strs p.2.1)) →
    (P.Pairwise fun p q => ∀ k, p.2.2.ownBlock = some k → q.2.2.ownBlock ≠ some k) → (∀ i c, s.get i = some c → 0 < (k.φ i).cap → ∀ p ∈ P, p.2.2.ownBlock ≠ some (k.φ i).b) →
    ∃ k' s', KW.le k.m k k' ∧ k'.S = k.S ∧ Sim w0 k' w s' ∧ s'.nx = s.nx + P.length ∧ (∀ i, i < s.nx → s'.get i = s.get i) ∧ (∀ j p, P[j]? = some p → s'.get (s.nx + j) = some (SC p.2.1) ∧ Rel k' (.own (s.nx + j) 0 p.2.1.length 1) p.2.2) ∧
      ∀ i c, s'.get i = some c → 0 < (k'.φ i).cap → (i < s.nx ∧ k'.φ i = k.φ i) ∨ ∃ p ∈ P, p.2.2.ownBlock = some (k'.φ i).b
  | [], k, s, hs, _, _, _, _ => ⟨k, s, KW.le_refl (Nat.le_refl _), rfl, hs, rfl, fun _ _ => rfl, fun j p h => by simp at h, fun i c hi _ => .inl ⟨hs.lt i c hi, rfl⟩⟩
  | p :: P, k, s, hs, hS, hp, ha, hb => by
    obtain ⟨r, h1, h2, h3⟩ := adopt_row hs (hp p (by simp)) (relL_strs k _) hS fun i c hi h0 => hb i c hi h0 p (by simp)
    obtain ⟨ha1, ha2⟩ := List.pairwise_cons.1 ha
    have hm := hs.m
    have hnew : ∀ i c, (s.push (SC p.2.1)).get i = some c → 0 < ((k.push r).φ i).cap → (i < s.nx ∧ (k.push r).φ i = k.φ i ∧ s.get i = some c) ∨ p.2.2.ownBlock = some ((k.push r).φ i).b := by
      intro i c hi h0
      by_cases e : i = s.nx
      · right
        subst e
        rw [← hm, KW.push_same] at h0 ⊢
        exact h3 h0
      · left
        rw [St.push_ne _ _ _ e] at hi
        exact ⟨hs.lt i c hi, KW.push_ne _ _ _ (by omega), hi⟩
    obtain ⟨k', s', g1, g2, g3, g4, g5, g6, g7⟩ := adopt_words P (k.push r) (s.push (SC p.2.1)) h1 hS (fun q hq => hp q (by simp [hq])) ha2 fun i c hi h0 q hq => by
      rcases hnew i c hi h0 with ⟨_, e, hi'⟩ | e
      · rw [e] at h0 ⊢
        exact hb i c hi' h0 q (by simp [hq])
      · exact ha1 q hq _ e
    rw [St.nx_push] at g4 g5 g6
    have hle : KW.le k.m k (k.push r) := k.push_le r
    refine ⟨k', s', KW.le_trans hle (KW.le_mono g1 hle.1), g2, g3, by rw [g4, List.length_cons]; omega, fun i hi => by rw [g5 i (by omega), St.push_ne _ _ _ (by omega)], fun j q hq => ?_, fun i c hi h0 => ?_⟩
    · cases j with
      | zero =>
        simp at hq
        subst hq
        refine ⟨by rw [Nat.add_zero, g5 _ (by omega), St.push_same], ?_⟩
        exact h2.mono g1
      | succ j =>
        have := g6 j q (by simpa using hq)
        rw [show s.nx + (j + 1) = s.nx + 1 + j by omega]
        exact this
    · rcases g7 i c hi h0 with ⟨a1, a2⟩ | ⟨q, hq, e⟩
      · rw [g5 i a1] at hi
        rw [a2] at h0 ⊢
        rcases hnew i c hi h0 with ⟨b1, b2, _⟩ | e
        · exact .inl ⟨b1, b2⟩
        · exact .inr ⟨p, by simp, e⟩
      · exact .inr ⟨q, by simp [hq], e⟩
/-- The lines' cells, from a box's number on. -/
def OC : Nat → LL → List AV
  | _, [] => []
  | i, p :: L => .v (.int .i64 p.1) :: .own i 0 p.2.length 1 :: OC (i + 1) L
theorem oc_rel {k : KW} : ∀ (P : List Piece) (i : Nat), (∀ j p, P[j]? = some p → Rel k (.own (i + j) 0 p.2.1.length 1) p.2.2) → RelL k (OC i (said P)) (cellsOf P)
  | [], i, _ => ⟨rfl, fun j z u hz => by cases hz⟩
  | p :: P, i, h => by
    have e1 : cellsOf (p :: P) = [.int .i64 p.1, p.2.2] ++ cellsOf P := by simp [cellsOf]
    have e2 : OC i (said (p :: P)) = [.v (.int .i64 p.1), .own i 0 p.2.1.length 1] ++ OC (i + 1) (said P) := by simp [OC, said]
    rw [e1, e2]
    refine (relL_two (.v _) ?_).append (oc_rel P (i + 1) fun j q hq => ?_)
    · exact h 0 p (by simp)
    · have := h (j + 1) q (by simpa using hq)
      rw [show i + 1 + j = i + (j + 1) by omega]
      exact this
/-- The lines in boxes: the words' first, then the row of all lines. -/
theorem lines_own (t : List UInt8) (s : St) : ACall Tryd.prog 9 [.v (.string (bs t))] s fun r s' =>
    r = .tp [.own (s.nx + (lexAll t).1.length) 0 (lexAll t).1.length 2, .v (.int .i64 (lexAll t).2.1), .v (.int .i64 (lexAll t).2.2)] ∧ s'.nx = s.nx + (lexAll t).1.length + 1 ∧
    s'.get (s.nx + (lexAll t).1.length) = some (OC s.nx (lexAll t).1) ∧ (∀ (j : Nat) (p : Nat × W), (lexAll t).1[j]? = some p → s'.get (s.nx + j) = some (SC p.2)) ∧ ∀ i, i < s.nx → s'.get i = s.get i := by
  refine ⟨enters_of Tryd.func9 (by kernel_rfl) rfl, fun w0 k w vs hs hv => ?_⟩
  have : vs = [.string (bs t)] := by
    match vs, hv with
    | [u], hv => have := hv.2 0 (.v (.string (bs t))) u rfl rfl; rw [this.v_eq]
    | [], hv => simp [RelL] at hv
    | _ :: _ :: _, hv => simp [RelL] at hv
  subst this
  refine (lines_any t w).mono ?_
  rintro en w' ⟨v, P, rfl, ho, hsd, hb⟩
  have hs' := hs.below hb
  have hold : ∀ i c, s.get i = some c → 0 < (k.φ i).cap → (k.φ i).b < w.heap.size := fun i c hi h0 => by
    obtain ⟨u, q, _⟩ := (hs.box i c hi).2 0 h0
    exact cell_block_lt q
  have hlo : ∀ p ∈ P, ∀ g, p.2.2.ownBlock = some g → w.heap.size ≤ g := fun p hp g hg => ((ho.inner p hp).lt g hg).1
  obtain ⟨k', s', g1, g2, g3, g4, g5, g6, g7⟩ := adopt_words (B := w.heap.size) P k s hs' (fun a u h => cell_block_lt (hs.fz a u h)) ho.inner ho.apart fun i c hi h0 p hp e => by
    have := hold i c hi h0
    have := hlo p hp _ e
    omega
  obtain ⟨r, h1, h2, h3⟩ := adopt_row g3 ho.row (oc_rel P s.nx fun j p hp => (g6 j p hp).2) (fun a u h => by rw [g2] at h; exact cell_block_lt (hs.fz a u h)) fun i c hi h0 e => by
    rcases g7 i c hi h0 with ⟨a1, a2⟩ | ⟨p, hp, e2⟩
    · rw [g5 i a1] at hi
      rw [a2] at h0 e
      have := hold i c hi h0
      have := (ho.row.lt _ e).1
      omega
    · rcases own_ne ho.row (ho.inner p hp) (by decide) with q | q
      · rw [q] at e; cases e
      · exact q (e.trans e2.symm)
  have hl : P.length = (lexAll t).1.length := by rw [← hsd]; simp [said]
  rw [g4, hl] at h2
  rw [hsd] at h1
  obtain ⟨f1, f2⟩ := relL_three h2 (.v (.int .i64 (lexAll t).2.1)) (.v (.int .i64 (lexAll t).2.2))
  refine ⟨_, _, s'.push (OC s.nx (lexAll t).1), k'.push r, rfl, ⟨rfl, by rw [St.nx_push, g4, hl], by rw [← hl, ← g4, St.push_same], fun j p hp => ?_, fun i hi => by rw [St.push_ne _ _ _ (by omega)]; exact g5 i hi⟩, h1, .tp _ _ f1 f2, ?_⟩
  · have hj : j < P.length := by rw [hl]; exact (List.getElem?_eq_some_iff.1 hp).1
    rw [St.push_ne _ _ _ (by omega)]
    obtain ⟨q, hq⟩ : ∃ q, P[j]? = some q := ⟨P[j], by simp [hj]⟩
    have := (g6 j q hq).1
    have e : p = (q.1, q.2.1) := by
      rw [← hsd] at hp
      simp [said, hq] at hp
      exact hp.symm
    rw [e]
    exact this
  · have := k'.push_le r
    rw [← hs.m]
    exact KW.le_trans g1 (KW.le_mono this g1.1)
end Go.Proofs.YtppmamcoehhopaaDoor.LexN
