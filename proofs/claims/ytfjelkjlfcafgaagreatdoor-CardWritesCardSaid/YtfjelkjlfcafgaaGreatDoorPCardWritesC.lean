/- A part of the proof. -/
import Derived.Test.YtfjelkjlfcafgaaGreatDoorPCardWritesB
import Derived.Shelf.Strings.Trim
import Derived.Shelf.Small.Utf8
import Derived.Shelf.Small.Strs
import Derived.Shelf.Small.Wraps
import Derived.Shelf.Strconv.Atoi
import Derived.Shelf.Strconv.Itoa0
import Derived.Shelf.Strconv.Itoa1
import Derived.Shelf.LaysM
import Derived.Shelf.Strconv.Itoa2
import Derived.Shelf.Strconv.Itoa3
import Derived.Shelf.Strconv.Itoa4
import Derived.Shelf.Strconv.AtoiErrFast
import Derived.Shelf.Strconv.ParseIntEmpty
import Derived.Shelf.Strconv.AtoiFail
import Derived.Shelf.Strconv.Clone
import Derived.Shelf.Strconv.SyntaxError
import Derived.Shelf.LaysC
import Derived.Shelf.Strconv.ToError
import Derived.Shelf.Strconv.Lower
import Derived.Shelf.Strconv.ParseUint10
import Derived.Shelf.Strconv.ParseUint10Empty
import Derived.Shelf.Strconv.ParseUint10Any
import Derived.Shelf.Strconv.ParseInt10
import Derived.Shelf.Strconv.AtoiLong
import Derived.Shelf.Strconv.AtoiInnerAll
import Derived.Shelf.Strconv.RangeError
import Derived.Shelf.Strconv.ToErrorRange
import Derived.Shelf.Strconv.AtoiAll
import Derived.Shelf.Strconv.ParseUintEmpty
import Derived.Shelf.Strconv.ParseUint10b64
import Derived.Shelf.Strconv.ParseUint10b32
import Derived.Shelf.Strconv.ParseUint10b16
import Derived.Shelf.Strconv.ParseUint10b8
import Derived.Shelf.Strconv.ParseUint10At
import Derived.Shelf.Strconv.ParseInt10At64
import Derived.Shelf.Strconv.ParseInt10At32
import Derived.Shelf.Strconv.ParseInt10At16
import Derived.Shelf.Strconv.ParseInt10At8
import Derived.Shelf.Strconv.ParseInt10All
import Derived.Shelf.Strconv.ParseIntPublic10
import Derived.Shelf.Strconv.ErrVarParseInt
import Derived.Shelf.Strings.Search1
import Derived.Shelf.Strings.Prefix
import Derived.Shelf.Strings.Runes
import Derived.Shelf.Strings.AsciiSet
import Derived.Shelf.Unicode.DecodeSlow
import Derived.Shelf.Slices.Equal
import Derived.Shelf.Slices.Empties2
import Derived.Test.YtfjelkjlfcafgaaGreatDoorProg
import Derived.Test.YtfjelkjlfcafgaaGreatDoorCards
import Derived.Test.YtfjelkjlfcafgaaGreatDoorTie
import Derived.Lib.LaidTab
import Derived.Lib.ItoaNum
import Derived.Lay
import Derived.Carry
section
/- The document's whole numbers (layer 1): the inner functions, walked. -/
namespace Go.Proofs.YtfjelkjlfcafgaaGreatDoor.RefA
open Go Go.RowKit Go.Proofs.YtfjelkjlfcafgaaGreatDoor.Ax Go.Proofs.YtfjelkjlfcafgaaGreatDoor.Ti Go.Proofs.YtfjelkjlfcafgaaGreatDoor.BigM
set_option maxHeartbeats 2000000
set_option linter.unusedSimpArgs false
set_option linter.unusedVariables false

def DN (xs : List Nat) : AV := .sl xs.length (xs.map fun x : Nat => .v (.int .i64 (x : Int)))
def B : Nat := 65536
theorem trimZ_snoc0 : ∀ (l : List Nat), trimZ (l ++ [0]) = trimZ l
  | [] => rfl
  | d :: l => by
    rw [List.cons_append, trimZ, trimZ, trimZ_snoc0 l]
theorem trimZ_snoc (x : Nat) (hx : x ≠ 0) : ∀ (l : List Nat), trimZ (l ++ [x]) = l ++ [x]
  | [] => by simp [trimZ, hx]
  | d :: l => by
    rw [List.cons_append, trimZ, trimZ_snoc x hx l]
    simp
theorem take_pred (xs : List Nat) (n : Nat) (hn : 0 < n) (h : n ≤ xs.length) : xs.take n = xs.take (n - 1) ++ [xs.getD (n - 1) 0] := by
  have h1 : n - 1 < xs.length := by omega
  have := List.take_succ_eq_append_getElem h1
  rw [show n - 1 + 1 = n by omega] at this
  rw [this, List.getD_eq_getElem?_getD, List.getElem?_eq_getElem h1]
  rfl
theorem trimZ_last (xs : List Nat) (n : Nat) (hn : 0 < n) (h : n ≤ xs.length) (h0 : xs.getD (n - 1) 0 = 0) : trimZ (xs.take (n - 1)) = trimZ (xs.take n) := by
  rw [take_pred xs n hn h, h0, trimZ_snoc0]
theorem trimZ_stop (xs : List Nat) (n : Nat) (h : n ≤ xs.length) (h0 : n = 0 ∨ xs.getD (n - 1) 0 ≠ 0) : trimZ (xs.take n) = xs.take n := by
  by_cases hn : n = 0
  · subst hn; rfl
  · rw [take_pred xs n (by omega) h, trimZ_snoc _ (h0.resolve_left hn)]

theorem hB : 1 < B := by decide
theorem drop_pred (xs : List Nat) (n : Nat) (hn : 0 < n) (h : n ≤ xs.length) : xs.drop (n - 1) = xs.getD (n - 1) 0 :: xs.drop n := by
  have h1 : n - 1 < xs.length := by omega
  rw [List.drop_eq_getElem_cons h1, List.getD_eq_getElem?_getD, List.getElem?_eq_getElem h1, show n - 1 + 1 = n by omega]
  rfl
theorem plus_step (xs ys ds : List Nat) (k cr : Nat) (hds : ds.length = k) (h : val B ds + B ^ k * cr = val B (xs.take k) + val B (ys.take k)) (z : Nat) (hz : z = cr + xs.getD k 0 + ys.getD k 0) :
    val B (ds ++ [z % B]) + B ^ (k + 1) * (z / B) = val B (xs.take (k + 1)) + val B (ys.take (k + 1)) := by
  have tk : ∀ l : List Nat, val B (l.take (k + 1)) = val B (l.take k) + B ^ k * l.getD k 0 := by
    intro l
    by_cases hk : k < l.length
    · exact val_take_snoc B l k hk
    · rw [List.take_of_length_le (by omega), List.take_of_length_le (by omega), List.getD_eq_getElem?_getD, List.getElem?_eq_none (by omega)]
      simp
  rw [tk, tk, val_snoc, hds, Nat.pow_succ]
  have e1 : z = z % B + B * (z / B) := (Nat.mod_add_div z B).symm
  have e2 : B ^ k * z = B ^ k * (z % B) + B ^ k * B * (z / B) := by
    conv => lhs; rw [e1]
    rw [Nat.mul_add, ← Nat.mul_assoc]
  have e3 : B ^ k * z = B ^ k * cr + B ^ k * xs.getD k 0 + B ^ k * ys.getD k 0 := by
    rw [hz, Nat.mul_add, Nat.mul_add]
  omega
def DL (xs : List Nat) : List AV := xs.map fun x : Nat => .v (.int .i64 (x : Int))
structure PlusI (xs ys : List Nat) (s : St) (n k cr id : Nat) (ds : List Nat) (e : Env) (s' : St) : Prop where
  imu : n = 2 * (max xs.length ys.length - k) + cr
  icr : cr ≤ 1
  ik : k ≤ max xs.length ys.length + 1
  ilast : k = max xs.length ys.length + 1 → cr = 0
  en : e.n = 55
  e0 : e.m 0 = DN xs
  e1 : e.m 1 = DN ys
  e5 : e.m 5 = .own id 0 k 1
  e6 : e.m 6 = .v (.int .i64 cr)
  e7 : e.m 7 = .v (.int .i64 k)
  iget : s'.get id = some (DL ds)
  ilo : s.nx ≤ id
  ihi : id < s'.nx
  ifr : ∀ i, i < s.nx → s'.get i = s.get i
  ilen : ds.length = k
  ilt : ∀ d ∈ ds, d < B
  ival : val B ds + B ^ k * cr = val B (xs.take k) + val B (ys.take k)
theorem getD_out (l : List Nat) (k : Nat) (h : ¬ k < l.length) : l.getD k 0 = 0 := by rw [List.getD_eq_getElem?_getD, List.getElem?_eq_none (by omega)]; rfl
theorem PlusI.step {xs ys : List Nat} {s : St} {n k cr id : Nat} {ds : List Nat} {e : Env} {s' : St} (h : PlusI xs ys s n k cr id ds e s') (hgo : k < xs.length ∨ k < ys.length ∨ 0 < cr) (dx : ∀ d ∈ xs, d < B) (dy : ∀ d ∈ ys, d < B)
    {z q r : Nat} (hz : z = cr + xs.getD k 0 + ys.getD k 0) (hq : q = z / 65536) (hr : r = z % 65536) {e' : Env} {s2 : St} {id' : Nat} (q1 : e'.n = 55) (q2 : e'.m 0 = DN xs) (q3 : e'.m 1 = DN ys) (q4 : e'.m 5 = .own id' 0 (k + 1) 1)
    (q5 : e'.m 6 = .v (.int .i64 (q : Int))) (q6 : e'.m 7 = .v (.int .i64 ((k : Int) + 1))) (q7 : s2.get id' = some (DL (ds ++ [r]))) (q8 : s.nx ≤ id') (q9 : id' < s2.nx) (q10 : ∀ i, i < s.nx → s2.get i = s.get i) :
    ∃ n', n' < n ∧ ∃ (k cr id : Nat) (ds : List Nat), PlusI xs ys s n' k cr id ds e' s2 := by
  have bx : xs.getD k 0 < 65536 := getD_lt B (by decide) xs dx k
  have by' : ys.getD k 0 < 65536 := getD_lt B (by decide) ys dy k
  have ox := getD_out xs k
  have oy := getD_out ys k
  have hs := plus_step xs ys ds k cr h.ilen h.ival z hz
  rw [show z / B = q from hq.symm, show z % B = r from hr.symm] at hs
  have hn := h.imu
  have hcr := h.icr
  have hk := h.ik
  have hlast := h.ilast
  have hm : q ≤ 1 ∧ 2 * (max xs.length ys.length - (k + 1)) + q < n ∧ k + 1 ≤ max xs.length ys.length + 1 ∧ (k + 1 = max xs.length ys.length + 1 → q = 0) := by
    by_cases hM : k < max xs.length ys.length
    · omega
    · have o1 := ox (by omega)
      have o2 := oy (by omega)
      omega
  refine ⟨_, hm.2.1, k + 1, q, id', ds ++ [r], rfl, hm.1, hm.2.2.1, hm.2.2.2, q1, q2, q3, q4, q5, by rw [q6]; rfl, q7, q8, q9, q10, by simp [h.ilen], ?_, hs⟩
  intro d hd
  rcases List.mem_append.1 hd with hd | hd
  · exact h.ilt d hd
  · rw [List.mem_singleton.1 hd, hr]; exact Nat.mod_lt _ (by decide)
theorem DL_snoc (ds : List Nat) (r : Nat) : DL (ds ++ [r]) = DL ds ++ [.v (.int .i64 (r : Int))] := by unfold DL; rw [List.map_append]; rfl
theorem DL_len (ds : List Nat) : (DL ds).length = ds.length := List.length_map _
theorem DL_take (ds : List Nat) (k : Nat) (h : ds.length = k) : (DL ds).take k = DL ds := List.take_of_length_le (by rw [DL_len]; omega)
end Go.Proofs.YtfjelkjlfcafgaaGreatDoor.RefA
end
section
/- The document's whole numbers (layer 1): minus, and the numbers with a sign. -/
namespace Go.Proofs.YtfjelkjlfcafgaaGreatDoor.RefB
open Go Go.RowKit Go.Proofs.YtfjelkjlfcafgaaGreatDoor.Ax Go.Proofs.YtfjelkjlfcafgaaGreatDoor.Ti Go.Proofs.YtfjelkjlfcafgaaGreatDoor.BigM Go.Proofs.YtfjelkjlfcafgaaGreatDoor.RefA
set_option maxHeartbeats 2000000
set_option linter.unusedSimpArgs false
set_option linter.unusedVariables false

structure MinusI (xs ys : List Nat) (s : St) (n k cr id : Nat) (ds : List Nat) (e : Env) (s' : St) : Prop where
  imu : n = xs.length - k
  icr : cr ≤ 1
  ik : k ≤ xs.length
  en : e.n = 41
  e0 : e.m 0 = DN xs
  e1 : e.m 1 = DN ys
  e5 : e.m 5 = .own id 0 k 1
  e6 : e.m 6 = .v (.int .i64 cr)
  e7 : e.m 7 = .v (.int .i64 k)
  iget : s'.get id = some (DL ds)
  ilo : s.nx ≤ id
  ihi : id < s'.nx
  ifr : ∀ i, i < s.nx → s'.get i = s.get i
  ilen : ds.length = k
  ilt : ∀ d ∈ ds, d < B
  ival : val B ds + val B (ys.take k) = val B (xs.take k) + B ^ k * cr
theorem tk_snoc (l : List Nat) (k : Nat) : val B (l.take (k + 1)) = val B (l.take k) + B ^ k * l.getD k 0 := by
  by_cases hk : k < l.length
  · exact val_take_snoc B l k hk
  · rw [List.take_of_length_le (by omega), List.take_of_length_le (by omega), List.getD_eq_getElem?_getD, List.getElem?_eq_none (by omega)]
    simp
theorem MinusI.step {xs ys : List Nat} {s : St} {n k cr id : Nat} {ds : List Nat} {e : Env} {s' : St} (h : MinusI xs ys s n k cr id ds e s') (hgo : k < xs.length) (dx : ∀ d ∈ xs, d < B) (dy : ∀ d ∈ ys, d < B)
    {q r : Nat} (hq : q ≤ 1) (hr : r < 65536) (hz : (r : Int) = xs.getD k 0 - cr - ys.getD k 0 + 65536 * q) {e' : Env} {s2 : St} {id' : Nat} (q1 : e'.n = 41) (q2 : e'.m 0 = DN xs) (q3 : e'.m 1 = DN ys) (q4 : e'.m 5 = .own id' 0 (k + 1) 1)
    (q5 : e'.m 6 = .v (.int .i64 (q : Int))) (q6 : e'.m 7 = .v (.int .i64 ((k : Int) + 1))) (q7 : s2.get id' = some (DL (ds ++ [r]))) (q8 : s.nx ≤ id') (q9 : id' < s2.nx) (q10 : ∀ i, i < s.nx → s2.get i = s.get i) :
    ∃ n', n' < n ∧ ∃ (k cr id : Nat) (ds : List Nat), MinusI xs ys s n' k cr id ds e' s2 := by
  have hn := h.imu
  have hv := h.ival
  refine ⟨xs.length - (k + 1), by omega, k + 1, q, id', ds ++ [r], rfl, hq, by omega, q1, q2, q3, q4, q5, by rw [q6]; rfl, q7, q8, q9, q10, by simp [h.ilen], ?_, ?_⟩
  · intro d hd
    rcases List.mem_append.1 hd with hd | hd
    · exact h.ilt d hd
    · rw [List.mem_singleton.1 hd]; exact hr
  · rw [tk_snoc, tk_snoc, val_snoc, h.ilen, Nat.pow_succ]
    have e0 : r + cr + ys.getD k 0 = xs.getD k 0 + 65536 * q := by omega
    have e1 : B ^ k * (r + cr + ys.getD k 0) = B ^ k * (xs.getD k 0 + B * q) := by rw [e0]; rfl
    rw [Nat.mul_add, Nat.mul_add, Nat.mul_add, ← Nat.mul_assoc] at e1
    omega
end Go.Proofs.YtfjelkjlfcafgaaGreatDoor.RefB
end
section
/- The document's whole numbers (layer 1): with a sign. -/
namespace Go.Proofs.YtfjelkjlfcafgaaGreatDoor.RefC
open Go Go.RowKit Go.Proofs.YtfjelkjlfcafgaaGreatDoor.Ax Go.Proofs.YtfjelkjlfcafgaaGreatDoor.Ti Go.Proofs.YtfjelkjlfcafgaaGreatDoor.BigM Go.Proofs.YtfjelkjlfcafgaaGreatDoor.RefA Go.Proofs.YtfjelkjlfcafgaaGreatDoor.RefB
set_option maxHeartbeats 2000000
set_option linter.unusedSimpArgs false
set_option linter.unusedVariables false
set_option maxRecDepth 4000
theorem rTI : type_of% (cj @ti105 (cj @ti63 (cj @ti3 @ti4))) := cj @ti105 (cj @ti63 (cj @ti3 @ti4))

def NS (b : Bool) (n : Nat) : AV := .ag [.v (.bool b), DN (digs B n)]
def NI (z : Int) : AV := NS (decide (z < 0)) z.natAbs
def ln (n : Nat) : Nat := (digs B n).length
def lz (z : Int) : Nat := ln z.natAbs
theorem dl_idf (l : List Nat) : idf.idfL (DL l) = true := by
  rw [idfL_iff]
  intro z hz
  obtain ⟨x, _, rfl⟩ := List.mem_map.1 hz
  rfl
theorem ln_zero (n : Nat) : ln n = 0 ↔ n = 0 := by unfold ln; rw [List.length_eq_zero_iff, digs_nil B hB]
theorem DN_ln (n : Nat) : DN (digs B n) = .sl (ln n) (DL (digs B n)) := rfl
theorem NS_eq (b : Bool) (n : Nat) : NS b n = .ag [.v (.bool b), .sl (ln n) (DL (digs B n))] := rfl
theorem ln_lt (n k : Nat) : n < B ^ k ↔ ln n ≤ k := (digs_length_le B hB k n).symm
theorem ln_mono {a b : Nat} (h : a ≤ b) : ln a ≤ ln b := (ln_lt _ _).1 (Nat.lt_of_le_of_lt h ((ln_lt b _).2 (Nat.le_refl _)))
def sgn (z : Int) : Int := if z < 0 then -1 else if z = 0 then 0 else 1

theorem sign_ax (z : Int) : PCall Tryz.prog 60 [NI z] (.v (.int .i64 (sgn z))) := by
  refine pcall_of fun s => ?_
  refine acall_of Tryz.func60 rfl rfl (by simp [Tryz.ntmps60]) ?_; rw [Tryz.ntmps60, Tryz.results60]
  have l0 := ln_zero z.natAbs
  unfold NI
  rw [NS_eq]
  refine go (cj rTI @dl_idf) ?_
  refine ifs ?_ ?_ <;> first | exact nope | intro hb
  · have h0 : z = 0 := by omega
    refine go (cj rTI @dl_idf) ?_
    (repeat' refine And.intro ?_ ?_) <;> (first | done | exact rfl | (intro i hi; simp (disch := omega) only [↓core, ↓List.getElem?_toArray, ↓List.getElem?_cons_succ, ↓List.getElem?_cons_zero, ↓onO_some, more, xbuild, if_pos, if_neg, onO_some, onO_none, onV_eq, xbuiltin, xlen, xload, loadA, xstore, spl, xfield, xindexAddr, xindex, xslice, bnd, xbin, xint, xshift, xstr, xeq, xun, xconv, xmake, xappend, xsrc, xbuildSlice, fillA, xminmax, gval, isK, mapM_nil_o, mapM_cons_o, AV.cells, AV.boxable, AV.one, TI.agg, resA, retA, zrow_one, eq_self, List.map, List.map_cons, List.map_nil, Option.map_some, Option.map_none, Option.bind_some, Option.bind_none, ↓reduceIte, Nat.reduceLT, Nat.reduceEqDiff, Nat.reduceAdd, Nat.reduceMul, Nat.mul_one, Nat.reduceLeDiff, decide_true, decide_false, true_and, and_true, if_true, if_false, List.toList_toArray, List.size_toArray, beq_self_eq_true, Bool.true_eq_false, Bool.false_eq_true, forall_const, false_implies, implies_true, undef, IntKind.bits, List.drop_zero, List.drop_succ_cons, List.take_succ_cons, List.take_zero, List.length_cons, List.length_nil, List.set_cons_zero, List.set_cons_succ, List.head?_cons, List.all_cons, List.all_nil, List.replicate_succ, List.replicate_zero, Bool.and_true, Bool.and_self, Value.oneCell', Bool.true_and, Bool.or_true, Bool.or_false, Bool.not_true, Bool.not_false, h0, sgn]; done) | (simp (disch := omega) only [↓core, ↓List.getElem?_toArray, ↓List.getElem?_cons_succ, ↓List.getElem?_cons_zero, ↓onO_some, more, xbuild, if_pos, if_neg, onO_some, onO_none, onV_eq, xbuiltin, xlen, xload, loadA, xstore, spl, xfield, xindexAddr, xindex, xslice, bnd, xbin, xint, xshift, xstr, xeq, xun, xconv, xmake, xappend, xsrc, xbuildSlice, fillA, xminmax, gval, isK, mapM_nil_o, mapM_cons_o, AV.cells, AV.boxable, AV.one, TI.agg, resA, retA, zrow_one, eq_self, List.map, List.map_cons, List.map_nil, Option.map_some, Option.map_none, Option.bind_some, Option.bind_none, ↓reduceIte, Nat.reduceLT, Nat.reduceEqDiff, Nat.reduceAdd, Nat.reduceMul, Nat.mul_one, Nat.reduceLeDiff, decide_true, decide_false, true_and, and_true, if_true, if_false, List.toList_toArray, List.size_toArray, beq_self_eq_true, Bool.true_eq_false, Bool.false_eq_true, forall_const, false_implies, implies_true, undef, IntKind.bits, List.drop_zero, List.drop_succ_cons, List.take_succ_cons, List.take_zero, List.length_cons, List.length_nil, List.set_cons_zero, List.set_cons_succ, List.head?_cons, List.all_cons, List.all_nil, List.replicate_succ, List.replicate_zero, Bool.and_true, Bool.and_self, Value.oneCell', Bool.true_and, Bool.or_true, Bool.or_false, Bool.not_true, Bool.not_false, h0, sgn]; done) | skip)
  · have h0 : z ≠ 0 := by omega
    refine go (cj rTI @dl_idf) ?_
    refine ifs ?_ ?_ <;> first | exact nope | intro hb
    · refine go (cj rTI @dl_idf) ?_
      (repeat' refine And.intro ?_ ?_) <;> first | exact rfl | exact fnz trivial | skip
      rw [sgn, if_pos hb]
    · refine go (cj rTI @dl_idf) ?_
      (repeat' refine And.intro ?_ ?_) <;> first | exact rfl | exact fnz trivial | skip
      rw [sgn, if_neg hb, if_neg h0]

theorem NI_nn (z : Int) (h : 0 ≤ z) : NI z = NS false z.natAbs := by unfold NI; rw [decide_eq_false (by omega)]
theorem NI_neg (z : Int) (h : z < 0) : NI z = NS true z.natAbs := by unfold NI; rw [decide_eq_true h]
end Go.Proofs.YtfjelkjlfcafgaaGreatDoor.RefC
end
section
/- The document's whole numbers (layer 1): made from a machine's number. -/
namespace Go.Proofs.YtfjelkjlfcafgaaGreatDoor.RefD
open Go Go.RowKit Go.Proofs.YtfjelkjlfcafgaaGreatDoor.Ax Go.Proofs.YtfjelkjlfcafgaaGreatDoor.Ti Go.Proofs.YtfjelkjlfcafgaaGreatDoor.BigM Go.Proofs.YtfjelkjlfcafgaaGreatDoor.RefA Go.Proofs.YtfjelkjlfcafgaaGreatDoor.RefB Go.Proofs.YtfjelkjlfcafgaaGreatDoor.RefC
set_option maxHeartbeats 2000000
set_option linter.unusedSimpArgs false
set_option linter.unusedVariables false
set_option maxRecDepth 4000
theorem rTU : type_of% (cj @ti105 (cj @ti63 (cj @ti3 (cj @ti4 (cj @ti2 @ti165))))) := cj @ti105 (cj @ti63 (cj @ti3 (cj @ti4 (cj @ti2 @ti165))))
theorem rTI : type_of% (cj @ti105 (cj @ti63 (cj @ti3 @ti4))) := cj @ti105 (cj @ti63 (cj @ti3 @ti4))

structure SmallI (m sl : Nat) (kd : IntKind) (s : St) (N : Nat) (b : Bool) (n id : Nat) (ds : List Nat) (e : Env) (s' : St) : Prop where
  en : e.n = m
  e0 : e.m sl = .v (.int kd n)
  e2 : e.m 2 = .ptr s.nx 0
  e3 : e.m 3 = .ptr (s.nx + 1) 0
  g0 : s'.get s.nx = some [.v (.bool false), .v (.slice none 0 0)]
  g1 : s'.get (s.nx + 1) = some [.v (.bool b), .own id 0 ds.length 1]
  gi : s'.get id = some (DL ds)
  lo : s.nx + 1 < id
  hi : id < s'.nx
  fr : ∀ i, i < s.nx → s'.get i = s.get i
  all : digs B N = ds ++ digs B n
  sz : n ≤ N
theorem small_ax (z : Int) (h1 : -9223372036854775808 < z) (h2 : z < 9223372036854775808) : PCall Tryz.prog 55 [.v (.int .i64 z)] (NI z) := by
  have l0 : ln z.natAbs ≤ 4 := (ln_lt _ 4).1 (by unfold B; omega)
  refine pcall_of fun s => ?_
  refine acall_of Tryz.func55 rfl rfl (by simp [Tryz.ntmps55]) ?_; rw [Tryz.ntmps55, Tryz.results55]
  by_cases hz : z < 0
  · rw [NI_neg z hz, NS_eq]
    refine go (cj rTI @dl_idf) ?_
    refine ifs ?_ ?_ <;> first | exact nope | intro hb
    refine go (cj rTI @dl_idf) ?_
    refine aw_nil_box (s.nx + 1) 1 1 _ (by refine rn (cj rTI @dl_idf) ?_; rfl) rfl ?_
    refine aw_loop (fun n e s' => ∃ (id : Nat) (ds : List Nat), SmallI 21 0 .i64 s z.natAbs true n id ds e s') z.natAbs ?_ ?_
    · refine ⟨s.nx + 2, [], ?_⟩
      constructor <;> (try (first | refine rn trivial ?_ | exact rn0 trivial))
      all_goals (first | exact shz | (intro i hi; (first | refine rn trivial ?_ | exact rn0 trivial)) | skip)
    · rintro n e s' ⟨id, ds, hI⟩
      have k0 := hI.en
      have k9 := hI.sz
      have k1 := hI.e0
      have k2 := hI.e2
      have k3 := hI.e3
      have k4 := hI.g0
      have k5 := hI.g1
      have k6 := hI.gi
      have k7 := hI.lo
      have k8 := hI.hi
      have l1 := DL_len ds
      have l2 := congrArg List.length hI.all
      rw [List.length_append] at l2
      change ln _ = _ + ln _ at l2
      by_cases hn : 0 < n
      · refine go (cj rTI (cj @dl_idf (cj @k0 (cj @k1 (cj @k2 (cj @k3 (cj @k4 (cj @k5 (cj @k6 @l1))))))))) ?_
        refine ifs ?_ ?_ <;> first | exact nope | intro hb
        refine go (cj rTI (cj @dl_idf (cj @k0 (cj @k1 (cj @k2 (cj @k3 (cj @k4 (cj @k5 (cj @k6 @l1))))))))) ?_
        have hst := digs_pos B n hB hn
        simp only [block_normal, loop_normal]; refine ⟨n / 65536, by omega, ?_⟩
        refine ⟨s'.nx + 1, ds ++ [n % B], ?_⟩
        constructor <;> (try (first | refine rn (cj rTI (cj @dl_idf (cj @k0 (cj @k1 (cj @k2 (cj @k3 (cj @k4 (cj @k5 (cj @k6 (cj @l1 (cj @DL_snoc rla))))))))))) ?_ | exact rn0 (cj rTI (cj @dl_idf (cj @k0 (cj @k1 (cj @k2 (cj @k3 (cj @k4 (cj @k5 (cj @k6 (cj @l1 (cj @DL_snoc rla)))))))))))))
        all_goals (first | exact shz | (intro i hi; (first | refine rn (hI.fr i hi) ?_ | exact rn0 (hI.fr i hi))) | skip)
        rw [hI.all, hst]; simp; rfl
      · refine go (cj rTI (cj @dl_idf (cj @k0 (cj @k1 (cj @k2 (cj @k3 (cj @k4 (cj @k5 (cj @k6 @l1))))))))) ?_
        refine ifs ?_ ?_ <;> first | exact nope | intro hb
        have ha := hI.all
        rw [show n = 0 by omega, digs_zero, List.append_nil] at ha
        have hb2 : ln z.natAbs = ds.length := congrArg List.length ha
        refine aw_freeze2 id (DL ds) k6 (fun i => i == s.nx + 1) fun e' s'' f1 f2 f3 f4 => ?_
        refine go (cj rTI (cj @dl_idf (cj @k0 (cj @k1 (cj @k2 (cj @k3 (cj @k4 (cj @k5 (cj @k6 (cj @l1 (cj @f1 (cj @f2 (cj @f3 (cj @f4 (cj frw (cj @DL_take rbe)))))))))))))))) ?_
        (repeat' refine And.intro ?_ ?_) <;> first | exact rfl | exact fnz trivial | skip
        · rw [ha, hb2]
        · intro i hi
          exact rn0 (hI.fr i hi)
  · rw [NI_nn z (by omega), NS_eq]
    refine go (cj rTI @dl_idf) ?_
    refine ifs ?_ ?_ <;> first | exact nope | intro hb
    refine go (cj rTI @dl_idf) ?_
    refine aw_nil_box (s.nx + 1) 1 1 _ (by refine rn (cj rTI @dl_idf) ?_; rfl) rfl ?_
    refine aw_loop (fun n e s' => ∃ (id : Nat) (ds : List Nat), SmallI 21 0 .i64 s z.natAbs false n id ds e s') z.natAbs ?_ ?_
    · refine ⟨s.nx + 2, [], ?_⟩
      constructor <;> (try (first | refine rn trivial ?_ | exact rn0 trivial))
      all_goals (first | exact shz | (intro i hi; (first | refine rn trivial ?_ | exact rn0 trivial)) | skip)
    · rintro n e s' ⟨id, ds, hI⟩
      have k0 := hI.en
      have k9 := hI.sz
      have k1 := hI.e0
      have k2 := hI.e2
      have k3 := hI.e3
      have k4 := hI.g0
      have k5 := hI.g1
      have k6 := hI.gi
      have k7 := hI.lo
      have k8 := hI.hi
      have l1 := DL_len ds
      have l2 := congrArg List.length hI.all
      rw [List.length_append] at l2
      change ln _ = _ + ln _ at l2
      by_cases hn : 0 < n
      · refine go (cj rTI (cj @dl_idf (cj @k0 (cj @k1 (cj @k2 (cj @k3 (cj @k4 (cj @k5 (cj @k6 @l1))))))))) ?_
        refine ifs ?_ ?_ <;> first | exact nope | intro hb
        refine go (cj rTI (cj @dl_idf (cj @k0 (cj @k1 (cj @k2 (cj @k3 (cj @k4 (cj @k5 (cj @k6 @l1))))))))) ?_
        have hst := digs_pos B n hB hn
        simp only [block_normal, loop_normal]; refine ⟨n / 65536, by omega, ?_⟩
        refine ⟨s'.nx + 1, ds ++ [n % B], ?_⟩
        constructor <;> (try (first | refine rn (cj rTI (cj @dl_idf (cj @k0 (cj @k1 (cj @k2 (cj @k3 (cj @k4 (cj @k5 (cj @k6 (cj @l1 (cj @DL_snoc rla))))))))))) ?_ | exact rn0 (cj rTI (cj @dl_idf (cj @k0 (cj @k1 (cj @k2 (cj @k3 (cj @k4 (cj @k5 (cj @k6 (cj @l1 (cj @DL_snoc rla)))))))))))))
        all_goals (first | exact shz | (intro i hi; (first | refine rn (hI.fr i hi) ?_ | exact rn0 (hI.fr i hi))) | skip)
        rw [hI.all, hst]; simp; rfl
      · refine go (cj rTI (cj @dl_idf (cj @k0 (cj @k1 (cj @k2 (cj @k3 (cj @k4 (cj @k5 (cj @k6 @l1))))))))) ?_
        refine ifs ?_ ?_ <;> first | exact nope | intro hb
        have ha := hI.all
        rw [show n = 0 by omega, digs_zero, List.append_nil] at ha
        have hb2 : ln z.natAbs = ds.length := congrArg List.length ha
        refine aw_freeze2 id (DL ds) k6 (fun i => i == s.nx + 1) fun e' s'' f1 f2 f3 f4 => ?_
        refine go (cj rTI (cj @dl_idf (cj @k0 (cj @k1 (cj @k2 (cj @k3 (cj @k4 (cj @k5 (cj @k6 (cj @l1 (cj @f1 (cj @f2 (cj @f3 (cj @f4 (cj frw (cj @DL_take rbe)))))))))))))))) ?_
        (repeat' refine And.intro ?_ ?_) <;> first | exact rfl | exact fnz trivial | skip
        · rw [ha, hb2]
        · intro i hi
          exact rn0 (hI.fr i hi)
theorem wide_ax (z : Int) (h1 : -9223372036854775808 ≤ z) (h2 : z < 9223372036854775808) : PCall Tryz.prog 66 [.v (.int .i64 z)] (NI z) := by
  have l0 : ln z.natAbs ≤ 4 := (ln_lt _ 4).1 (by unfold B; omega)
  refine pcall_of fun s => ?_
  refine acall_of Tryz.func66 rfl rfl (by simp [Tryz.ntmps66]) ?_; rw [Tryz.ntmps66, Tryz.results66]
  by_cases hz : z < 0
  · rw [NI_neg z hz, NS_eq]
    refine go (cj rTU @dl_idf) ?_
    refine ifs ?_ ?_ <;> first | exact nope | intro hb
    refine go (cj rTU @dl_idf) ?_
    refine aw_nil_box (s.nx + 1) 1 1 _ (by refine rn (cj rTU @dl_idf) ?_; rfl) rfl ?_
    refine aw_loop (fun n e s' => ∃ (id : Nat) (ds : List Nat), SmallI 25 4 .u64 s z.natAbs true n id ds e s') z.natAbs ?_ ?_
    · refine ⟨s.nx + 2, [], ?_⟩
      constructor <;> (try (first | refine rn trivial ?_ | exact rn0 trivial))
      all_goals (first | exact shz | (intro i hi; (first | refine rn trivial ?_ | exact rn0 trivial)) | skip)
      all_goals (refine congrArg (fun z : Int => AV.v (.int .u64 z)) ?_; (try simp only [wrap_u64]); omega)
    · rintro n e s' ⟨id, ds, hI⟩
      have k0 := hI.en
      have k9 := hI.sz
      have k1 := hI.e0
      have k2 := hI.e2
      have k3 := hI.e3
      have k4 := hI.g0
      have k5 := hI.g1
      have k6 := hI.gi
      have k7 := hI.lo
      have k8 := hI.hi
      have l1 := DL_len ds
      have l2 := congrArg List.length hI.all
      rw [List.length_append] at l2
      change ln _ = _ + ln _ at l2
      by_cases hn : 0 < n
      · refine go (cj rTU (cj @dl_idf (cj @k0 (cj @k1 (cj @k2 (cj @k3 (cj @k4 (cj @k5 (cj @k6 @l1))))))))) ?_
        refine ifs ?_ ?_ <;> first | exact nope | intro hb
        refine go (cj rTU (cj @dl_idf (cj @k0 (cj @k1 (cj @k2 (cj @k3 (cj @k4 (cj @k5 (cj @k6 @l1))))))))) ?_
        have hst := digs_pos B n hB hn
        simp only [block_normal, loop_normal]; refine ⟨n / 65536, by omega, ?_⟩
        refine ⟨s'.nx + 1, ds ++ [n % B], ?_⟩
        constructor <;> (try (first | refine rn (cj rTU (cj @dl_idf (cj @k0 (cj @k1 (cj @k2 (cj @k3 (cj @k4 (cj @k5 (cj @k6 (cj @l1 (cj @DL_snoc rla))))))))))) ?_ | exact rn0 (cj rTU (cj @dl_idf (cj @k0 (cj @k1 (cj @k2 (cj @k3 (cj @k4 (cj @k5 (cj @k6 (cj @l1 (cj @DL_snoc rla)))))))))))))
        all_goals (first | exact shz | (intro i hi; (first | refine rn (hI.fr i hi) ?_ | exact rn0 (hI.fr i hi))) | skip)
        rw [hI.all, hst]; simp; rfl
      · refine go (cj rTU (cj @dl_idf (cj @k0 (cj @k1 (cj @k2 (cj @k3 (cj @k4 (cj @k5 (cj @k6 @l1))))))))) ?_
        refine ifs ?_ ?_ <;> first | exact nope | intro hb
        have ha := hI.all
        rw [show n = 0 by omega, digs_zero, List.append_nil] at ha
        have hb2 : ln z.natAbs = ds.length := congrArg List.length ha
        refine aw_freeze2 id (DL ds) k6 (fun i => i == s.nx + 1) fun e' s'' f1 f2 f3 f4 => ?_
        refine go (cj rTU (cj @dl_idf (cj @k0 (cj @k1 (cj @k2 (cj @k3 (cj @k4 (cj @k5 (cj @k6 (cj @l1 (cj @f1 (cj @f2 (cj @f3 (cj @f4 (cj frw (cj @DL_take rbe)))))))))))))))) ?_
        (repeat' refine And.intro ?_ ?_) <;> first | exact rfl | exact fnz trivial | skip
        · rw [ha, hb2]
        · intro i hi
          exact rn0 (hI.fr i hi)
  · rw [NI_nn z (by omega), NS_eq]
    refine go (cj rTU @dl_idf) ?_
    refine ifs ?_ ?_ <;> first | exact nope | intro hb
    refine go (cj rTU @dl_idf) ?_
    refine aw_nil_box (s.nx + 1) 1 1 _ (by refine rn (cj rTU @dl_idf) ?_; rfl) rfl ?_
    refine aw_loop (fun n e s' => ∃ (id : Nat) (ds : List Nat), SmallI 25 4 .u64 s z.natAbs false n id ds e s') z.natAbs ?_ ?_
    · refine ⟨s.nx + 2, [], ?_⟩
      constructor <;> (try (first | refine rn trivial ?_ | exact rn0 trivial))
      all_goals (first | exact shz | (intro i hi; (first | refine rn trivial ?_ | exact rn0 trivial)) | skip)
      all_goals (refine congrArg (fun z : Int => AV.v (.int .u64 z)) ?_; (try simp only [wrap_u64]); omega)
    · rintro n e s' ⟨id, ds, hI⟩
      have k0 := hI.en
      have k9 := hI.sz
      have k1 := hI.e0
      have k2 := hI.e2
      have k3 := hI.e3
      have k4 := hI.g0
      have k5 := hI.g1
      have k6 := hI.gi
      have k7 := hI.lo
      have k8 := hI.hi
      have l1 := DL_len ds
      have l2 := congrArg List.length hI.all
      rw [List.length_append] at l2
      change ln _ = _ + ln _ at l2
      by_cases hn : 0 < n
      · refine go (cj rTU (cj @dl_idf (cj @k0 (cj @k1 (cj @k2 (cj @k3 (cj @k4 (cj @k5 (cj @k6 @l1))))))))) ?_
        refine ifs ?_ ?_ <;> first | exact nope | intro hb
        refine go (cj rTU (cj @dl_idf (cj @k0 (cj @k1 (cj @k2 (cj @k3 (cj @k4 (cj @k5 (cj @k6 @l1))))))))) ?_
        have hst := digs_pos B n hB hn
        simp only [block_normal, loop_normal]; refine ⟨n / 65536, by omega, ?_⟩
        refine ⟨s'.nx + 1, ds ++ [n % B], ?_⟩
        constructor <;> (try (first | refine rn (cj rTU (cj @dl_idf (cj @k0 (cj @k1 (cj @k2 (cj @k3 (cj @k4 (cj @k5 (cj @k6 (cj @l1 (cj @DL_snoc rla))))))))))) ?_ | exact rn0 (cj rTU (cj @dl_idf (cj @k0 (cj @k1 (cj @k2 (cj @k3 (cj @k4 (cj @k5 (cj @k6 (cj @l1 (cj @DL_snoc rla)))))))))))))
        all_goals (first | exact shz | (intro i hi; (first | refine rn (hI.fr i hi) ?_ | exact rn0 (hI.fr i hi))) | skip)
        rw [hI.all, hst]; simp; rfl
      · refine go (cj rTU (cj @dl_idf (cj @k0 (cj @k1 (cj @k2 (cj @k3 (cj @k4 (cj @k5 (cj @k6 @l1))))))))) ?_
        refine ifs ?_ ?_ <;> first | exact nope | intro hb
        have ha := hI.all
        rw [show n = 0 by omega, digs_zero, List.append_nil] at ha
        have hb2 : ln z.natAbs = ds.length := congrArg List.length ha
        refine aw_freeze2 id (DL ds) k6 (fun i => i == s.nx + 1) fun e' s'' f1 f2 f3 f4 => ?_
        refine go (cj rTU (cj @dl_idf (cj @k0 (cj @k1 (cj @k2 (cj @k3 (cj @k4 (cj @k5 (cj @k6 (cj @l1 (cj @f1 (cj @f2 (cj @f3 (cj @f4 (cj frw (cj @DL_take rbe)))))))))))))))) ?_
        (repeat' refine And.intro ?_ ?_) <;> first | exact rfl | exact fnz trivial | skip
        · rw [ha, hb2]
        · intro i hi
          exact rn0 (hI.fr i hi)
end Go.Proofs.YtfjelkjlfcafgaaGreatDoor.RefD
end
section
/- The document's whole numbers (layer 1): the product. -/
namespace Go.Proofs.YtfjelkjlfcafgaaGreatDoor.RefE
open Go Go.RowKit Go.Proofs.YtfjelkjlfcafgaaGreatDoor.Ax Go.Proofs.YtfjelkjlfcafgaaGreatDoor.Ti Go.Proofs.YtfjelkjlfcafgaaGreatDoor.BigM Go.Proofs.YtfjelkjlfcafgaaGreatDoor.RefA Go.Proofs.YtfjelkjlfcafgaaGreatDoor.RefB Go.Proofs.YtfjelkjlfcafgaaGreatDoor.RefC Go.Proofs.YtfjelkjlfcafgaaGreatDoor.RefD
set_option maxHeartbeats 2000000
set_option linter.unusedSimpArgs false
set_option linter.unusedVariables false
set_option maxRecDepth 4000
theorem rTI : type_of% (cj @ti105 (cj @ti63 (cj @ti3 @ti4))) := cj @ti105 (cj @ti63 (cj @ti3 @ti4))

theorem hd_DL (ds : List Nat) (k : Nat) (h : k < ds.length) : ((DL ds).drop k).head? = some (.v (.int .i64 (ds.getD k 0 : Nat))) := hd_nat (fun x : Nat => AV.v (.int .i64 (x : Int))) ds k h
theorem DL_set (ds : List Nat) (k v : Nat) : (DL ds).set k (.v (.int .i64 (v : Int))) = DL (ds.set k v) := by unfold DL; rw [List.map_set]
theorem getD_set (ds : List Nat) (k v j : Nat) (h : k < ds.length) : (ds.set k v).getD j 0 = if j = k then v else ds.getD j 0 := by
  rw [List.getD_eq_getElem?_getD, List.getD_eq_getElem?_getD, List.getElem?_set]
  by_cases e : j = k
  · subst e; simp [h]
  · rw [if_neg (fun q => e q.symm), if_neg e]
theorem set_lt (ds : List Nat) (k v : Nat) (h : ∀ d ∈ ds, d < B) (hv : v < B) : ∀ d ∈ ds.set k v, d < B := by
  intro d hd
  rcases List.mem_or_eq_of_mem_set hd with q | q
  · exact h d q
  · rw [q]; exact hv

end Go.Proofs.YtfjelkjlfcafgaaGreatDoor.RefE
end
section
/- The document's whole numbers (layer 1): the quotient. -/
namespace Go.Proofs.YtfjelkjlfcafgaaGreatDoor.RefF
open Go Go.RowKit Go.Proofs.YtfjelkjlfcafgaaGreatDoor.Ax Go.Proofs.YtfjelkjlfcafgaaGreatDoor.Ti Go.Proofs.YtfjelkjlfcafgaaGreatDoor.BigM Go.Proofs.YtfjelkjlfcafgaaGreatDoor.RefA Go.Proofs.YtfjelkjlfcafgaaGreatDoor.RefB Go.Proofs.YtfjelkjlfcafgaaGreatDoor.RefC Go.Proofs.YtfjelkjlfcafgaaGreatDoor.RefD Go.Proofs.YtfjelkjlfcafgaaGreatDoor.RefE
set_option linter.unusedSimpArgs false
set_option linter.unusedVariables false
set_option maxRecDepth 4000
theorem rTI : type_of% (cj @ti105 (cj @ti63 (cj @ti3 @ti4))) := cj @ti105 (cj @ti63 (cj @ti3 @ti4))

theorem dl_ln (n : Nat) : (DL (digs B n)).length = ln n := DL_len _
theorem dl_one (l : List Nat) : (DL l).all AV.one = true := by
  rw [List.all_eq_true]
  intro z hz
  obtain ⟨x, _, rfl⟩ := List.mem_map.1 hz
  rfl
theorem divide_step (x y V : Nat) (hy : 0 < y) : (x + B * V) / y = (x + B * (V % y)) / y + B * (V / y) ∧ (x + B * V) % y = (x + B * (V % y)) % y := by
  have e : x + B * V = x + B * (V % y) + y * (B * (V / y)) := by
    conv => lhs; rw [← Nat.mod_add_div V y]
    rw [Nat.mul_add, ← Nat.mul_assoc, ← Nat.mul_assoc, Nat.mul_comm B y, Nat.add_assoc]
  rw [e, Nat.add_mul_div_left _ _ hy, Nat.add_mul_mod_self_left]
  exact ⟨rfl, rfl⟩
theorem divide_lt (x y r : Nat) (hx : x < B) (hr : r < y) : x + B * r < y * B := by
  have : B * (r + 1) ≤ B * y := Nat.mul_le_mul_left _ hr
  rw [Nat.mul_add] at this
  rw [Nat.mul_comm y]
  omega
end Go.Proofs.YtfjelkjlfcafgaaGreatDoor.RefF
end
section
/- The document's whole numbers (layer 1): the common divisor. -/
namespace Go.Proofs.YtfjelkjlfcafgaaGreatDoor.RefG
open Go Go.RowKit Go.Proofs.YtfjelkjlfcafgaaGreatDoor.Ax Go.Proofs.YtfjelkjlfcafgaaGreatDoor.Ti Go.Proofs.YtfjelkjlfcafgaaGreatDoor.BigM Go.Proofs.YtfjelkjlfcafgaaGreatDoor.RefA Go.Proofs.YtfjelkjlfcafgaaGreatDoor.RefB Go.Proofs.YtfjelkjlfcafgaaGreatDoor.RefC Go.Proofs.YtfjelkjlfcafgaaGreatDoor.RefD Go.Proofs.YtfjelkjlfcafgaaGreatDoor.RefE Go.Proofs.YtfjelkjlfcafgaaGreatDoor.RefF
set_option maxHeartbeats 2000000
set_option linter.unusedSimpArgs false
set_option linter.unusedVariables false
set_option maxRecDepth 4000
theorem rTI : type_of% (cj @ti105 (cj @ti63 (cj @ti3 @ti4))) := cj @ti105 (cj @ti63 (cj @ti3 @ti4))

end Go.Proofs.YtfjelkjlfcafgaaGreatDoor.RefG
end
section
/- The document's whole numbers (layer 1): words of 32 bits, and the whole of 64. -/
namespace Go.Proofs.YtfjelkjlfcafgaaGreatDoor.RefH
open Go Go.RowKit Go.Proofs.YtfjelkjlfcafgaaGreatDoor.Ax Go.Proofs.YtfjelkjlfcafgaaGreatDoor.Ti Go.Proofs.YtfjelkjlfcafgaaGreatDoor.BigM Go.Proofs.YtfjelkjlfcafgaaGreatDoor.RefA Go.Proofs.YtfjelkjlfcafgaaGreatDoor.RefB Go.Proofs.YtfjelkjlfcafgaaGreatDoor.RefC Go.Proofs.YtfjelkjlfcafgaaGreatDoor.RefD Go.Proofs.YtfjelkjlfcafgaaGreatDoor.RefE Go.Proofs.YtfjelkjlfcafgaaGreatDoor.RefF Go.Proofs.YtfjelkjlfcafgaaGreatDoor.RefG
set_option maxHeartbeats 2000000
set_option linter.unusedSimpArgs false
set_option linter.unusedVariables false
set_option maxRecDepth 4000
theorem rTI : type_of% (cj @ti105 (cj @ti63 (cj @ti3 @ti4))) := cj @ti105 (cj @ti63 (cj @ti3 @ti4))
end Go.Proofs.YtfjelkjlfcafgaaGreatDoor.RefH
end
section
/- The document's whole numbers (layer 1): the whole of 64 bits. -/
namespace Go.Proofs.YtfjelkjlfcafgaaGreatDoor.RefI
open Go Go.RowKit Go.Proofs.YtfjelkjlfcafgaaGreatDoor.Ax Go.Proofs.YtfjelkjlfcafgaaGreatDoor.Ti Go.Proofs.YtfjelkjlfcafgaaGreatDoor.BigM Go.Proofs.YtfjelkjlfcafgaaGreatDoor.RefA Go.Proofs.YtfjelkjlfcafgaaGreatDoor.RefB Go.Proofs.YtfjelkjlfcafgaaGreatDoor.RefC Go.Proofs.YtfjelkjlfcafgaaGreatDoor.RefD Go.Proofs.YtfjelkjlfcafgaaGreatDoor.RefE Go.Proofs.YtfjelkjlfcafgaaGreatDoor.RefF Go.Proofs.YtfjelkjlfcafgaaGreatDoor.RefG Go.Proofs.YtfjelkjlfcafgaaGreatDoor.RefH
set_option maxHeartbeats 2000000
set_option linter.unusedSimpArgs false
set_option linter.unusedVariables false
set_option maxRecDepth 4000
theorem rTI : type_of% (cj @ti105 (cj @ti63 (cj @ti3 @ti4))) := cj @ti105 (cj @ti63 (cj @ti3 @ti4))
end Go.Proofs.YtfjelkjlfcafgaaGreatDoor.RefI
end
section
/- The document's whole numbers (layer 1): in decimal digits. -/
namespace Go.Proofs.YtfjelkjlfcafgaaGreatDoor.RefJ
open Go Go.RowKit Go.Proofs.YtfjelkjlfcafgaaGreatDoor.Ax Go.Proofs.YtfjelkjlfcafgaaGreatDoor.Ti Go.Proofs.YtfjelkjlfcafgaaGreatDoor.BigM Go.Proofs.YtfjelkjlfcafgaaGreatDoor.RefA Go.Proofs.YtfjelkjlfcafgaaGreatDoor.RefB Go.Proofs.YtfjelkjlfcafgaaGreatDoor.RefC Go.Proofs.YtfjelkjlfcafgaaGreatDoor.RefD Go.Proofs.YtfjelkjlfcafgaaGreatDoor.RefE Go.Proofs.YtfjelkjlfcafgaaGreatDoor.RefF Go.Proofs.YtfjelkjlfcafgaaGreatDoor.RefG Go.Proofs.YtfjelkjlfcafgaaGreatDoor.RefH Go.Proofs.YtfjelkjlfcafgaaGreatDoor.RefI
set_option maxHeartbeats 2000000
set_option linter.unusedSimpArgs false
set_option linter.unusedVariables false
set_option maxRecDepth 4000
theorem rTI : type_of% (cj @ti105 (cj @ti63 (cj @ti3 (cj @ti4 (cj @ti9 (cj @ti116 @ti5)))))) := cj @ti105 (cj @ti63 (cj @ti3 (cj @ti4 (cj @ti9 (cj @ti116 @ti5)))))

def bs (l : List Nat) : ByteArray := ⟨(l.map UInt8.ofNat).toArray⟩
theorem bs_append (a b : List Nat) : bs a ++ bs b = bs (a ++ b) := by
  apply ByteArray.ext
  rw [ByteArray.data_append]
  simp [bs]
theorem bs_size (l : List Nat) : (bs l).size = l.length := by simp [bs, ByteArray.size]
theorem trimZ_take : ∀ (l : List Nat), l.take (trimZ l).length = trimZ l
  | [] => rfl
  | d :: l => by
    rw [trimZ]
    split
    · rfl
    · rw [List.length_cons, List.take_succ_cons, trimZ_take l]
theorem trim_own (es : List Nat) (n id : Nat) (s : St) (hn : n ≤ es.length) (hl : es.length ≤ 140737488355328) (hg : s.get id = some (DL es)) :
    ACall Tryz.prog 115 [.own id 0 n 1] s fun r s' => r = .own id 0 (trimZ (es.take n)).length 1 ∧ s' = s := by
  refine acall_of Tryz.func115 rfl rfl (by simp [Tryz.ntmps115]) ?_; rw [Tryz.ntmps115, Tryz.results115]
  refine go (cj rTI (cj @dl_idf (cj @dl_ln @dl_one))) ?_
  refine aw_loop (fun k e s' => k ≤ n ∧ e.n = 21 ∧ e.m 0 = .own id 0 n 1 ∧ e.m 3 = .v (.int .i64 k) ∧ s' = s ∧ trimZ (es.take k) = trimZ (es.take n)) n ?_ ?_
  · exact rn0 @Nat.le_refl
  · rintro k e s' ⟨hk, h1, h2, h3, rfl, h4⟩
    have l1 := DL_len es
    have z : ∀ i : Nat, 0 + i = i := Nat.zero_add
    by_cases h0 : 0 < k
    · by_cases hz : es.getD (k - 1) 0 = 0
      · refine go (cj rTI (cj @dl_idf (cj @dl_ln (cj @dl_one (cj @h1 (cj @h2 (cj @h3 (cj @hg (cj @hd_DL @z))))))))) ?_
        refine ifs ?_ ?_ <;> first | exact nope | intro hb
        refine go (cj rTI (cj @dl_idf (cj @dl_ln (cj @dl_one (cj @h1 (cj @h2 (cj @h3 (cj @hg (cj @hd_DL @z))))))))) ?_
        have h5 := trimZ_last es k h0 (by omega) hz
        simp only [block_normal, loop_normal]; refine ⟨k - 1, by omega, ?_⟩; (first | refine rn (cj @h1 @h2) ?_ | exact rn0 (cj @h1 @h2))
        exact ⟨by omega, by congr 2; omega, by rw [h5, h4]⟩
      · refine go (cj rTI (cj @dl_idf (cj @dl_ln (cj @dl_one (cj @h1 (cj @h2 (cj @h3 (cj @hg (cj @hd_DL @z))))))))) ?_
        refine ifs ?_ ?_ <;> first | exact nope | intro hb
        have h5 := trimZ_stop es k (by omega) (.inr hz)
        rw [h4] at h5
        refine go (cj rTI (cj @dl_idf (cj @dl_ln (cj @dl_one (cj @h1 (cj @h2 (cj @h3 (cj @hg (cj @hd_DL @z))))))))) ?_
        rw [h5, List.length_take, Nat.min_eq_left (by omega)]
        simp
    · have h5 := trimZ_stop es k (by omega) (.inl (by omega))
      rw [h4] at h5
      refine go (cj rTI (cj @dl_idf (cj @dl_ln (cj @dl_one (cj @h1 (cj @h2 @h3)))))) ?_
      refine ifs ?_ ?_ <;> first | exact nope | intro hb
      refine go (cj rTI (cj @dl_idf (cj @dl_ln (cj @dl_one (cj @h1 (cj @h2 @h3)))))) ?_
      rw [h5, List.length_take, Nat.min_eq_left (by omega)]
      simp

def dec (n : Nat) : List Nat := ((digs 10 n).reverse).map fun d => 48 + d
def decZ (z : Int) : List Nat := if z = 0 then [48] else (if z < 0 then [45] else []) ++ dec z.natAbs
theorem dec_len (n : Nat) : (digs 10 n).length ≤ 5 * ln n := by
  rw [digs_length_le 10 (by decide)]
  have h1 := (ln_lt n _).2 (Nat.le_refl _)
  have h2 : B ^ ln n ≤ (10 ^ 5) ^ ln n := Nat.pow_le_pow_left (by decide) _
  rw [← Nat.pow_mul] at h2
  omega
structure DigM (b : Bool) (N : Nat) (s : St) (V : Nat) (dn : List Nat) (es : List Nat) (e : Env) (s' : St) : Prop where
  en : e.n = 53
  e1 : e.m 1 = .ptr s.nx 0
  e3 : e.m 3 = .v (.string (bs (dn.reverse.map fun d => 48 + d)))
  e4 : e.m 4 = .own (s.nx + 2) 0 (ln V) 1
  g0 : s'.get s.nx = some [.v (.bool b), .sl (ln N) (DL (digs B N))]
  gi : s'.get (s.nx + 2) = some (DL es)
  hi : s.nx + 3 ≤ s'.nx
  fr : ∀ i, i < s.nx → s'.get i = s.get i
  len : es.length = ln N
  lv : ln V ≤ ln N
  all : digs 10 N = dn ++ digs 10 V
structure DigO (b : Bool) (N : Nat) (s : St) (V : Nat) (dn : List Nat) (es : List Nat) (e : Env) (s' : St) : Prop extends DigM b N s V dn es e s' where
  ov : es.take (ln V) = digs B V
structure DigJ (b : Bool) (N : Nat) (s : St) (V : Nat) (dn : List Nat) (k : Nat) (es : List Nat) (e : Env) (s' : St) : Prop extends DigM b N s V dn es e s' where
  e5 : e.m 5 = .v (.int .i64 (val B ((digs B V).drop k) % 10 : Nat))
  e6 : e.m 6 = .v (.int .i64 ((k : Int) - 1))
  kl : k ≤ ln V
  jt : es.take k = (digs B V).take k
  jv : val B ((es.take (ln V)).drop k) = val B ((digs B V).drop k) / 10
  lt : ∀ d ∈ es.take (ln V), d < B
theorem getD_take (l : List Nat) (k i : Nat) (h : i < k) : (l.take k).getD i 0 = l.getD i 0 := by
  rw [List.getD_eq_getElem?_getD, List.getD_eq_getElem?_getD, List.getElem?_take_of_lt h]
theorem dig_step (D es : List Nat) (L k : Nat) (hk : 0 < k) (hkl : k ≤ L) (hL : L ≤ es.length) (hD : D.length = L) (hd : ∀ d ∈ D, d < B) (jt : es.take k = D.take k) (jv : val B ((es.take L).drop k) = val B (D.drop k) / 10) (lt : ∀ d ∈ es.take L, d < B) (z : Nat) (hz : z = es.getD (k - 1) 0 + B * (val B (D.drop k) % 10)) :
    z < 10 * B ∧ z % 10 = val B (D.drop (k - 1)) % 10 ∧ (es.set (k - 1) (z / 10)).take (k - 1) = D.take (k - 1) ∧ val B (((es.set (k - 1) (z / 10)).take L).drop (k - 1)) = val B (D.drop (k - 1)) / 10 ∧ ∀ d ∈ (es.set (k - 1) (z / 10)).take L, d < B := by
  have e0 : es.getD (k - 1) 0 = D.getD (k - 1) 0 := by rw [← getD_take es k _ (by omega), jt, getD_take D k _ (by omega)]
  have hx : D.getD (k - 1) 0 < B := getD_lt B (by decide) D hd _
  have dp := drop_pred D k hk (by omega)
  have st := divide_step (D.getD (k - 1) 0) 10 (val B (D.drop k)) (by decide)
  have hv : val B (D.drop (k - 1)) = D.getD (k - 1) 0 + B * val B (D.drop k) := by rw [dp, val]
  rw [← hv, ← e0, ← hz] at st
  have hzl : z < 10 * B := by rw [hz, e0]; exact divide_lt _ 10 _ hx (Nat.mod_lt _ (by decide))
  refine ⟨hzl, st.2.symm, ?_, ?_, ?_⟩
  · rw [List.take_set_of_le (Nat.le_refl _)]
    have := congrArg (List.take (k - 1)) jt
    rwa [List.take_take, List.take_take, Nat.min_eq_left (by omega)] at this
  · rw [List.take_set, drop_pred _ k hk (by rw [List.length_set, List.length_take]; omega), getD_set _ _ _ _ (by rw [List.length_take]; omega), if_pos rfl, List.drop_set_of_lt (by omega), val, jv, st.1]
  · rw [List.take_set]
    exact set_lt _ _ _ lt (Nat.div_lt_of_lt_mul hzl)
theorem bs_dig (c : Nat) : ByteArray.mk #[unbyte (AV.v (.int .u8 (48 + (c : Int))))] = bs [48 + c] := by
  have : (48 + (c : Int)).toNat = 48 + c := by omega
  simp [bs, unbyte, this]
theorem digits_ax (x : Int) (l : lz x ≤ 1099511627776) : PCall Tryz.prog 65 [NI x] (.v (.string (bs (decZ x)))) := by
  have p0 := sign_ax x
  refine pcall_of fun s => ?_
  refine acall_of Tryz.func65 rfl rfl (by simp [Tryz.ntmps65]) ?_; rw [Tryz.ntmps65, Tryz.results65]
  unfold NI at p0 ⊢
  simp only [NS_eq, DN_ln] at p0 ⊢
  change ln x.natAbs ≤ _ at l
  by_cases h0 : x = 0
  · subst h0
    refine go (cj rTI (cj @dl_idf (cj @dl_ln @dl_one))) ?_
    refine aw_reg fun K hK => ?_; refine rn (cj rTI (cj @dl_idf (cj @dl_ln @dl_one))) ?_; refine cont_pure p0 ?_; refine rn (cj rTI (cj @dl_idf (cj @dl_ln @dl_one))) ?_; refine hK _ _ ?_; clear hK K
    refine ifs ?_ ?_ <;> first | exact nope | intro hb
    refine go (cj rTI (cj @dl_idf (cj @dl_ln @dl_one))) ?_
    (repeat' refine And.intro ?_ ?_) <;> first | exact rfl | exact fnz trivial | skip
  · have hs : sgn x ≠ 0 := by unfold sgn; split <;> (try split) <;> omega
    generalize hbb : decide (x < 0) = b at *
    generalize sgn x = c at *
    have hdz : decZ x = (if b = true then [45] else []) ++ dec x.natAbs := by unfold decZ; rw [if_neg h0, ← hbb]; simp
    have h1 : 0 < x.natAbs := by omega
    generalize x.natAbs = N at *
    refine go (cj rTI (cj @dl_idf (cj @dl_ln @dl_one))) ?_
    refine aw_reg fun K hK => ?_; refine rn (cj rTI (cj @dl_idf (cj @dl_ln @dl_one))) ?_; refine cont_pure p0 ?_; refine rn (cj rTI (cj @dl_idf (cj @dl_ln @dl_one))) ?_; refine hK _ _ ?_; clear hK K
    refine ifs ?_ ?_ <;> first | exact nope | intro hb
    refine go (cj rTI (cj @dl_idf (cj @dl_ln @dl_one))) ?_
    have z : ∀ i : Nat, 0 + i = i := Nat.zero_add
    refine aw_loop (fun V e s' => ∃ dn es : List Nat, DigO b N s V dn es e s') N ?_ ?_
    · refine ⟨[], digs B N, ?_⟩
      constructor
      · constructor <;> (try (first | refine rn (cj rTI (cj @dl_idf (cj @dl_ln (cj @dl_one @z)))) ?_ | exact rn0 (cj rTI (cj @dl_idf (cj @dl_ln (cj @dl_one @z))))))
        all_goals (first | exact shz | (intro i hi; (first | refine rn trivial ?_ | exact rn0 trivial)) | skip)
      · exact List.take_of_length_le (Nat.le_refl _)
    · rintro V e s' ⟨dn, es, hO⟩
      have k0 := hO.en
      have k1 := hO.e1
      have k3 := hO.e3
      have k4 := hO.e4
      have g0 := hO.g0
      have gi := hO.gi
      have hi := hO.hi
      have l1 := DL_len es
      have l2 := hO.len
      have l3 := hO.lv
      have l4 := ln_zero V
      have l5 := congrArg List.length hO.all
      rw [List.length_append] at l5
      have l6 := dec_len N
      by_cases hV : 0 < V
      · refine go (cj rTI (cj @dl_idf (cj @dl_ln (cj @dl_one (cj @k0 (cj @k1 (cj @k3 (cj @k4 (cj @g0 (cj @gi @z)))))))))) ?_
        refine ifs ?_ ?_ <;> first | exact nope | intro hb
        refine go (cj rTI (cj @dl_idf (cj @dl_ln (cj @dl_one (cj @k0 (cj @k1 (cj @k3 (cj @k4 (cj @g0 (cj @gi @z)))))))))) ?_
        refine aw_loop (fun k e s' => ∃ es : List Nat, DigJ b N s V dn k es e s') (ln V) ?_ ?_
        · refine ⟨es, ?_⟩
          constructor
          · constructor <;> (try exact rn0 (cj rTI (cj @dl_idf (cj @dl_ln (cj @dl_one (cj @k0 (cj @k1 (cj @k3 (cj @k4 (cj @g0 (cj @gi @z)))))))))))
            all_goals (first | exact shz | (intro i hi; (first | refine rn (hO.fr i hi) ?_ | exact rn0 (hO.fr i hi))) | skip)
            exact hO.all
          · rw [List.drop_of_length_le (show (digs B V).length ≤ ln V from Nat.le_refl _), val]
            refine rn trivial ?_
            rfl
          · exact rn0 trivial
            all_goals (first | exact shz | (intro i hi; (first | refine rn trivial ?_ | exact rn0 trivial)) | skip)
          · omega
          · exact hO.ov.trans (List.take_of_length_le (Nat.le_refl _)).symm
          · rw [List.drop_of_length_le (by rw [List.length_take]; omega), List.drop_of_length_le (show (digs B V).length ≤ ln V from Nat.le_refl _)]; rfl
          · rw [hO.ov]; exact digs_lt B hB V
        · clear k0 k1 k3 k4 g0 gi hi l1 l2
          rintro k e2 s2 ⟨es, hJ⟩
          have k0 := hJ.en
          have k1 := hJ.e1
          have k3 := hJ.e3
          have k4 := hJ.e4
          have k5 := hJ.e5
          have k6 := hJ.e6
          have g0 := hJ.g0
          have gi := hJ.gi
          have hi := hJ.hi
          have l1 := DL_len es
          have l2 := hJ.len
          have b1 := hJ.kl
          by_cases hk : 0 < k
          · refine go (cj rTI (cj @dl_idf (cj @dl_ln (cj @dl_one (cj @k0 (cj @k1 (cj @k3 (cj @k4 (cj @k5 (cj @k6 (cj @g0 (cj @gi (cj @z @hd_DL))))))))))))) ?_
            refine ifs ?_ ?_ <;> first | exact nope | intro hb
            obtain ⟨q1, q2, q3, q4, q5⟩ := dig_step (digs B V) es (ln V) k hk b1 (by omega) rfl (digs_lt B hB V) hJ.jt hJ.jv hJ.lt _ rfl
            have hx : es.getD (k - 1) 0 < 65536 := by
              rw [← getD_take es (ln V) _ (by omega)]
              exact getD_lt B (by decide) _ hJ.lt _
            have hc : val B ((digs B V).drop k) % 10 < 10 := Nat.mod_lt _ (by decide)
            generalize hcc : val B ((digs B V).drop k) % 10 = c at *
            refine go (cj rTI (cj @dl_idf (cj @dl_ln (cj @dl_one (cj @k0 (cj @k1 (cj @k3 (cj @k4 (cj @k5 (cj @k6 (cj @g0 (cj @gi (cj @z @hd_DL))))))))))))) ?_
            have e1 : (c : Int) * 65536 + ((es.getD (k - 1) 0 : Nat) : Int) = ((es.getD (k - 1) 0 + B * c : Nat) : Int) := by unfold B; omega
            have e2 : ∀ z : Nat, ((z : Int) % 10) = ((z % 10 : Nat) : Int) := fun z => by omega
            have e3 : ∀ z : Nat, ((z : Int) / 10) = ((z / 10 : Nat) : Int) := fun z => by omega
            have q6 : es.getD (k - 1) 0 + B * c < 10 * 65536 := q1
            simp only [block_normal, loop_normal]; refine ⟨k - 1, by omega, es.set (k - 1) ((es.getD (k - 1) 0 + B * c) / 10), ?_⟩
            constructor
            · constructor <;> (try (first | refine rn (cj rTI (cj @dl_idf (cj @dl_ln (cj @dl_one (cj @k0 (cj @k1 (cj @k3 (cj @k4 (cj @k5 (cj @k6 (cj @g0 (cj @gi (cj @z (cj @e1 (cj @e2 (cj @e3 (cj @DL_set rls))))))))))))))))) ?_ | exact rn0 (cj rTI (cj @dl_idf (cj @dl_ln (cj @dl_one (cj @k0 (cj @k1 (cj @k3 (cj @k4 (cj @k5 (cj @k6 (cj @g0 (cj @gi (cj @z (cj @e1 (cj @e2 (cj @e3 (cj @DL_set rls)))))))))))))))))))
              all_goals (first | exact shz | (intro i hi; (first | refine rn (hJ.fr i hi) ?_ | exact rn0 (hJ.fr i hi))) | skip)
              exact hJ.all
            · refine rn (cj rTI (cj @dl_idf (cj @dl_ln (cj @dl_one (cj @k0 (cj @k1 (cj @k3 (cj @k4 (cj @k5 (cj @k6 (cj @g0 (cj @gi (cj @z (cj @e1 (cj @e2 @e3))))))))))))))) ?_
              all_goals (first | exact shz | (intro i hi; (first | refine rn trivial ?_ | exact rn0 trivial)) | skip)
            · refine rn trivial ?_
              all_goals (first | exact shz | (intro i hi; (first | refine rn trivial ?_ | exact rn0 trivial)) | skip)
            · omega
            · exact q3
            · exact q4
            · exact q5
          · refine go (cj rTI (cj @dl_idf (cj @dl_ln (cj @dl_one (cj @k0 (cj @k1 (cj @k3 (cj @k4 (cj @k5 (cj @k6 (cj @g0 (cj @gi @z)))))))))))) ?_
            refine ifs ?_ ?_ <;> first | exact nope | intro hb
            obtain rfl : k = 0 := by omega
            have hv := hJ.jv
            rw [List.drop_zero, List.drop_zero, val_digs B hB] at hv
            rw [List.drop_zero, val_digs B hB] at k5
            have ht := digs_val B hB _ hJ.lt
            rw [hv] at ht
            have hlen : (trimZ (es.take (ln V))).length = ln (V / 10) := by rw [← ht]; rfl
            have htk : es.take (ln (V / 10)) = digs B (V / 10) := by
              have h7 := trimZ_take (es.take (ln V))
              rw [hlen, List.take_take, Nat.min_eq_left (ln_mono (Nat.div_le_self _ _)), ← ht] at h7
              exact h7
            have ha := hJ.all
            rw [digs_pos 10 V (by decide) hV] at ha
            have hc : V % 10 < 10 := Nat.mod_lt _ (by decide)
            generalize V % 10 = c at *
            refine go (cj rTI (cj @dl_idf (cj @dl_ln (cj @dl_one (cj @k0 (cj @k1 (cj @k3 (cj @k4 (cj @k5 (cj @k6 (cj @g0 (cj @gi @z)))))))))))) ?_
            refine aw_reg fun K hK => ?_; refine rn (cj rTI (cj @dl_idf (cj @dl_ln (cj @dl_one (cj @k0 @k4))))) ?_; refine cont_go (trim_own es (ln V) (s.nx + 2) s2 (by omega) (by omega) gi) ?_; rintro _ s3 ⟨rfl, hs3⟩; rw [hlen, hs3]; clear hs3 s3; refine rn (cj rTI (cj @dl_idf (cj @dl_ln (cj @dl_one (cj @k0 @k4))))) ?_; refine hK _ _ ?_; clear hK K
            repeat (first | refine aw_seq ?_ | refine aw_block ?_ | (refine aw_reg fun K hK => ?_; simp (disch := omega) only [↓core, ↓List.getElem?_toArray, ↓List.getElem?_cons_succ, ↓List.getElem?_cons_zero, ↓onO_some, more, xbuild, if_pos, if_neg, onO_some, onO_none, onV_eq, xbuiltin, xlen, xload, loadA, xstore, spl, xfield, xindexAddr, xindex, xslice, bnd, xbin, xint, xshift, xstr, xeq, xun, xconv, xmake, xappend, xsrc, xbuildSlice, fillA, xminmax, gval, isK, mapM_nil_o, mapM_cons_o, AV.cells, AV.boxable, AV.one, TI.agg, resA, retA, zrow_one, eq_self, List.map, List.map_cons, List.map_nil, Option.map_some, Option.map_none, Option.bind_some, Option.bind_none, ↓reduceIte, Nat.reduceLT, Nat.reduceEqDiff, Nat.reduceAdd, Nat.reduceMul, Nat.mul_one, Nat.reduceLeDiff, decide_true, decide_false, true_and, and_true, if_true, if_false, List.toList_toArray, List.size_toArray, beq_self_eq_true, Bool.true_eq_false, Bool.false_eq_true, forall_const, false_implies, implies_true, undef, IntKind.bits, List.drop_zero, List.drop_succ_cons, List.take_succ_cons, List.take_zero, List.length_cons, List.length_nil, List.set_cons_zero, List.set_cons_succ, List.head?_cons, List.all_cons, List.all_nil, List.replicate_succ, List.replicate_zero, Bool.and_true, Bool.and_self, Value.oneCell', Bool.true_and, Bool.or_true, Bool.or_false, Bool.not_true, Bool.not_false, ti105, ti63, ti3, ti4, ti9, ti116, ti5, dl_idf, dl_ln, dl_one, k0, k1, k3, k4, k5, k6, g0, gi, z, isByte, bs_dig, bs_append, bs_size, List.length_map, List.length_reverse]; refine hK _ _ ?_; clear hK K) | (refine aw_skip ?_; try simp (disch := omega) only [↓core, ↓List.getElem?_toArray, ↓List.getElem?_cons_succ, ↓List.getElem?_cons_zero, ↓onO_some, more, xbuild, if_pos, if_neg, onO_some, onO_none, onV_eq, xbuiltin, xlen, xload, loadA, xstore, spl, xfield, xindexAddr, xindex, xslice, bnd, xbin, xint, xshift, xstr, xeq, xun, xconv, xmake, xappend, xsrc, xbuildSlice, fillA, xminmax, gval, isK, mapM_nil_o, mapM_cons_o, AV.cells, AV.boxable, AV.one, TI.agg, resA, retA, zrow_one, eq_self, List.map, List.map_cons, List.map_nil, Option.map_some, Option.map_none, Option.bind_some, Option.bind_none, ↓reduceIte, Nat.reduceLT, Nat.reduceEqDiff, Nat.reduceAdd, Nat.reduceMul, Nat.mul_one, Nat.reduceLeDiff, decide_true, decide_false, true_and, and_true, if_true, if_false, List.toList_toArray, List.size_toArray, beq_self_eq_true, Bool.true_eq_false, Bool.false_eq_true, forall_const, false_implies, implies_true, undef, IntKind.bits, List.drop_zero, List.drop_succ_cons, List.take_succ_cons, List.take_zero, List.length_cons, List.length_nil, List.set_cons_zero, List.set_cons_succ, List.head?_cons, List.all_cons, List.all_nil, List.replicate_succ, List.replicate_zero, Bool.and_true, Bool.and_self, Value.oneCell', Bool.true_and, Bool.or_true, Bool.or_false, Bool.not_true, Bool.not_false, ti105, ti63, ti3, ti4, ti9, ti116, ti5, dl_idf, dl_ln, dl_one, k0, k1, k3, k4, k5, k6, g0, gi, z, isByte, bs_dig, bs_append, bs_size, List.length_map, List.length_reverse]) | (refine aw_exit ?_; try simp (disch := omega) only [↓core, ↓List.getElem?_toArray, ↓List.getElem?_cons_succ, ↓List.getElem?_cons_zero, ↓onO_some, more, xbuild, if_pos, if_neg, onO_some, onO_none, onV_eq, xbuiltin, xlen, xload, loadA, xstore, spl, xfield, xindexAddr, xindex, xslice, bnd, xbin, xint, xshift, xstr, xeq, xun, xconv, xmake, xappend, xsrc, xbuildSlice, fillA, xminmax, gval, isK, mapM_nil_o, mapM_cons_o, AV.cells, AV.boxable, AV.one, TI.agg, resA, retA, zrow_one, eq_self, List.map, List.map_cons, List.map_nil, Option.map_some, Option.map_none, Option.bind_some, Option.bind_none, ↓reduceIte, Nat.reduceLT, Nat.reduceEqDiff, Nat.reduceAdd, Nat.reduceMul, Nat.mul_one, Nat.reduceLeDiff, decide_true, decide_false, true_and, and_true, if_true, if_false, List.toList_toArray, List.size_toArray, beq_self_eq_true, Bool.true_eq_false, Bool.false_eq_true, forall_const, false_implies, implies_true, undef, IntKind.bits, List.drop_zero, List.drop_succ_cons, List.take_succ_cons, List.take_zero, List.length_cons, List.length_nil, List.set_cons_zero, List.set_cons_succ, List.head?_cons, List.all_cons, List.all_nil, List.replicate_succ, List.replicate_zero, Bool.and_true, Bool.and_self, Value.oneCell', Bool.true_and, Bool.or_true, Bool.or_false, Bool.not_true, Bool.not_false, ti105, ti63, ti3, ti4, ti9, ti116, ti5, dl_idf, dl_ln, dl_one, k0, k1, k3, k4, k5, k6, g0, gi, z, isByte, bs_dig, bs_append, bs_size, List.length_map, List.length_reverse]) | (refine aw_ret ?_; try simp (disch := omega) only [↓core, ↓List.getElem?_toArray, ↓List.getElem?_cons_succ, ↓List.getElem?_cons_zero, ↓onO_some, more, xbuild, if_pos, if_neg, onO_some, onO_none, onV_eq, xbuiltin, xlen, xload, loadA, xstore, spl, xfield, xindexAddr, xindex, xslice, bnd, xbin, xint, xshift, xstr, xeq, xun, xconv, xmake, xappend, xsrc, xbuildSlice, fillA, xminmax, gval, isK, mapM_nil_o, mapM_cons_o, AV.cells, AV.boxable, AV.one, TI.agg, resA, retA, zrow_one, eq_self, List.map, List.map_cons, List.map_nil, Option.map_some, Option.map_none, Option.bind_some, Option.bind_none, ↓reduceIte, Nat.reduceLT, Nat.reduceEqDiff, Nat.reduceAdd, Nat.reduceMul, Nat.mul_one, Nat.reduceLeDiff, decide_true, decide_false, true_and, and_true, if_true, if_false, List.toList_toArray, List.size_toArray, beq_self_eq_true, Bool.true_eq_false, Bool.false_eq_true, forall_const, false_implies, implies_true, undef, IntKind.bits, List.drop_zero, List.drop_succ_cons, List.take_succ_cons, List.take_zero, List.length_cons, List.length_nil, List.set_cons_zero, List.set_cons_succ, List.head?_cons, List.all_cons, List.all_nil, List.replicate_succ, List.replicate_zero, Bool.and_true, Bool.and_self, Value.oneCell', Bool.true_and, Bool.or_true, Bool.or_false, Bool.not_true, Bool.not_false, ti105, ti63, ti3, ti4, ti9, ti116, ti5, dl_idf, dl_ln, dl_one, k0, k1, k3, k4, k5, k6, g0, gi, z, isByte, bs_dig, bs_append, bs_size, List.length_map, List.length_reverse]))
            simp only [block_normal, loop_normal]; refine ⟨V / 10, Nat.div_lt_self hV (by decide), dn ++ [c], es, ?_⟩
            constructor
            · constructor <;> (try (first | refine rn (cj rTI (cj @dl_idf (cj @dl_ln (cj @dl_one (cj @k0 (cj @k1 (cj @k3 (cj @k4 (cj @k5 (cj @k6 (cj @g0 (cj @gi @z)))))))))))) ?_ | exact rn0 (cj rTI (cj @dl_idf (cj @dl_ln (cj @dl_one (cj @k0 (cj @k1 (cj @k3 (cj @k4 (cj @k5 (cj @k6 (cj @g0 (cj @gi @z))))))))))))))
              all_goals (first | exact shz | (intro i hi; (first | refine rn (hJ.fr i hi) ?_ | exact rn0 (hJ.fr i hi))) | skip)
              · simp
              · exact Nat.le_trans (ln_mono (Nat.div_le_self _ _)) hJ.lv
              · rw [ha, List.append_assoc]; rfl
            · exact htk
      · refine go (cj rTI (cj @dl_idf (cj @dl_ln (cj @dl_one (cj @k0 (cj @k1 (cj @k3 (cj @k4 (cj @g0 (cj @gi @z)))))))))) ?_
        refine ifs ?_ ?_ <;> first | exact nope | intro hb
        refine go (cj rTI (cj @dl_idf (cj @dl_ln (cj @dl_one (cj @k0 (cj @k1 (cj @k3 (cj @k4 (cj @g0 (cj @gi @z)))))))))) ?_
        have ha := hO.all
        rw [show V = 0 by omega, digs_zero, List.append_nil] at ha
        have hdz2 : decZ x = (if b = true then [45] else []) ++ dn.reverse.map fun d => 48 + d := by rw [hdz, dec, ha]
        have hsz : dn.length ≤ 5 * ln N := by rw [← ha]; exact l6
        rw [hdz2]
        cases b
        · refine ifs ?_ ?_ <;> first | exact nope | intro hb
          refine go (cj rTI (cj @dl_idf (cj @dl_ln (cj @dl_one (cj @k0 (cj @k1 (cj @k3 (cj @k4 (cj @g0 (cj @gi @z)))))))))) ?_
          (repeat' refine And.intro ?_ ?_) <;> first | exact rfl | (intro i hi; exact rn0 (hO.fr i hi)) | skip
        · refine ifs ?_ ?_ <;> first | exact nope | intro hb
          refine go (cj rTI (cj @dl_idf (cj @dl_ln (cj @dl_one (cj @k0 (cj @k1 (cj @k3 (cj @k4 (cj @g0 (cj @gi (cj @z (cj (show ByteArray.mk #[45] = bs [45] from rfl) (cj @bs_append (cj @bs_size (cj rlm rlr))))))))))))))) ?_
          (repeat' refine And.intro ?_ ?_) <;> first | exact rfl | (intro i hi; exact rn0 (hO.fr i hi)) | skip
end Go.Proofs.YtfjelkjlfcafgaaGreatDoor.RefJ
end
section
/- The document's fractions (layer 2). -/
namespace Go.Proofs.YtfjelkjlfcafgaaGreatDoor.RefK
open Go Go.RowKit Go.Proofs.YtfjelkjlfcafgaaGreatDoor.Ax Go.Proofs.YtfjelkjlfcafgaaGreatDoor.Ti Go.Proofs.YtfjelkjlfcafgaaGreatDoor.BigM Go.Proofs.YtfjelkjlfcafgaaGreatDoor.RefA Go.Proofs.YtfjelkjlfcafgaaGreatDoor.RefB Go.Proofs.YtfjelkjlfcafgaaGreatDoor.RefC Go.Proofs.YtfjelkjlfcafgaaGreatDoor.RefD Go.Proofs.YtfjelkjlfcafgaaGreatDoor.RefE Go.Proofs.YtfjelkjlfcafgaaGreatDoor.RefF Go.Proofs.YtfjelkjlfcafgaaGreatDoor.RefG Go.Proofs.YtfjelkjlfcafgaaGreatDoor.RefH Go.Proofs.YtfjelkjlfcafgaaGreatDoor.RefI Go.Proofs.YtfjelkjlfcafgaaGreatDoor.RefJ
set_option linter.unusedSimpArgs false
set_option linter.unusedVariables false
set_option maxRecDepth 4000
theorem rTI : type_of% (cj @ti124 (cj @ti105 (cj @ti63 (cj @ti3 @ti4)))) := cj @ti124 (cj @ti105 (cj @ti63 (cj @ti3 @ti4)))
def low (n d : Int) : Int × Int := if d < 0 then ((-n).tdiv (Nat.gcd n.natAbs d.natAbs), (-d).tdiv (Nat.gcd n.natAbs d.natAbs)) else (n.tdiv (Nat.gcd n.natAbs d.natAbs), d.tdiv (Nat.gcd n.natAbs d.natAbs))
theorem lz_small (z : Int) (h1 : -9223372036854775808 ≤ z) (h2 : z ≤ 9223372036854775807) : lz z ≤ 4 := (ln_lt _ 4).1 (by unfold B; omega)
end Go.Proofs.YtfjelkjlfcafgaaGreatDoor.RefK
end
section
/- The document's fractions (layer 2): to the nearest whole number. -/
namespace Go.Proofs.YtfjelkjlfcafgaaGreatDoor.RefL
open Go Go.RowKit Go.Proofs.YtfjelkjlfcafgaaGreatDoor.Ax Go.Proofs.YtfjelkjlfcafgaaGreatDoor.Ti Go.Proofs.YtfjelkjlfcafgaaGreatDoor.BigM Go.Proofs.YtfjelkjlfcafgaaGreatDoor.RefA Go.Proofs.YtfjelkjlfcafgaaGreatDoor.RefB Go.Proofs.YtfjelkjlfcafgaaGreatDoor.RefC Go.Proofs.YtfjelkjlfcafgaaGreatDoor.RefD Go.Proofs.YtfjelkjlfcafgaaGreatDoor.RefE Go.Proofs.YtfjelkjlfcafgaaGreatDoor.RefF Go.Proofs.YtfjelkjlfcafgaaGreatDoor.RefG Go.Proofs.YtfjelkjlfcafgaaGreatDoor.RefH Go.Proofs.YtfjelkjlfcafgaaGreatDoor.RefI Go.Proofs.YtfjelkjlfcafgaaGreatDoor.RefJ Go.Proofs.YtfjelkjlfcafgaaGreatDoor.RefK
set_option linter.unusedSimpArgs false
set_option linter.unusedVariables false
set_option maxRecDepth 4000
theorem rTI : type_of% (cj @ti124 (cj @ti105 (cj @ti63 (cj @ti3 @ti4)))) := cj @ti124 (cj @ti105 (cj @ti63 (cj @ti3 @ti4)))
end Go.Proofs.YtfjelkjlfcafgaaGreatDoor.RefL
end
section
/- The document's numbers (layer 3): valid, the value. -/
namespace Go.Proofs.YtfjelkjlfcafgaaGreatDoor.RefM
open Go Go.RowKit Go.Proofs.YtfjelkjlfcafgaaGreatDoor.Ax Go.Proofs.YtfjelkjlfcafgaaGreatDoor.Ti Go.Proofs.YtfjelkjlfcafgaaGreatDoor.BigM Go.Proofs.YtfjelkjlfcafgaaGreatDoor.RefA Go.Proofs.YtfjelkjlfcafgaaGreatDoor.RefB Go.Proofs.YtfjelkjlfcafgaaGreatDoor.RefC Go.Proofs.YtfjelkjlfcafgaaGreatDoor.RefD Go.Proofs.YtfjelkjlfcafgaaGreatDoor.RefE Go.Proofs.YtfjelkjlfcafgaaGreatDoor.RefF Go.Proofs.YtfjelkjlfcafgaaGreatDoor.RefG Go.Proofs.YtfjelkjlfcafgaaGreatDoor.RefH Go.Proofs.YtfjelkjlfcafgaaGreatDoor.RefI Go.Proofs.YtfjelkjlfcafgaaGreatDoor.RefJ Go.Proofs.YtfjelkjlfcafgaaGreatDoor.RefK Go.Proofs.YtfjelkjlfcafgaaGreatDoor.RefL
set_option maxHeartbeats 2000000
set_option linter.unusedSimpArgs false
set_option linter.unusedVariables false
set_option maxRecDepth 4000
theorem rTI : type_of% (cj @ti124 (cj @ti105 (cj @ti63 (cj @ti3 @ti4)))) := cj @ti124 (cj @ti105 (cj @ti63 (cj @ti3 @ti4)))
theorem rTN : type_of% (cj @ti24 (cj @ti2 (cj @ti124 (cj @ti105 (cj @ti63 (cj @ti3 @ti4)))))) := cj @ti24 (cj @ti2 (cj @ti124 (cj @ti105 (cj @ti63 (cj @ti3 @ti4)))))
def NM (m k : Int) : AV := .ag [.v (.int .i64 m), .v (.int .i64 k)]
def validN (m k : Int) : Bool := if m.tmod 10 = 0 then decide (m = 0) && decide (k = 0) else decide (m ≤ 999999999) && decide (-999999999 ≤ m) && decide (k ≤ 9) && decide (-18 ≤ k)
theorem valid_ax (m k : Int) : PCall Tryz.prog 16 [NM m k] (.v (.bool (validN m k))) := by
  refine pcall_of fun s => ?_
  refine acall_of Tryz.func16 rfl rfl (by simp [Tryz.ntmps16]) ?_; rw [Tryz.ntmps16, Tryz.results16]
  unfold NM validN
  by_cases h0 : m = 0
  · subst h0
    by_cases hk : k = 0
    · refine go (cj rTN (cj @dl_idf (cj @dl_ln @dl_one))) ?_
      refine ifs ?_ ?_ <;> first | exact nope | intro hb
      refine go (cj rTN (cj @dl_idf (cj @dl_ln @dl_one))) ?_
      (repeat' refine And.intro ?_ ?_) <;> first | exact rfl | exact fnz trivial | skip
    · refine go (cj rTN (cj @dl_idf (cj @dl_ln @dl_one))) ?_
      refine ifs ?_ ?_ <;> first | exact nope | intro hb
      refine go (cj rTN (cj @dl_idf (cj @dl_ln @dl_one))) ?_
      (repeat' refine And.intro ?_ ?_) <;> first | exact rfl | exact fnz trivial | skip
  · by_cases h1 : m.tmod 10 = 0
    · rw [if_pos h1]
      refine go (cj rTN (cj @dl_idf (cj @dl_ln (cj @dl_one @h1)))) ?_
      refine ifs ?_ ?_ <;> first | exact nope | intro hb
      refine go (cj rTN (cj @dl_idf (cj @dl_ln @dl_one))) ?_
      (repeat' refine And.intro ?_ ?_) <;> first | exact rfl | exact fnz trivial | skip
    · rw [if_neg h1]
      have h2 : (m.tmod 10 == 0) = false := beq_eq_false_iff_ne.2 h1
      refine go (cj rTN (cj @dl_idf (cj @dl_ln (cj @dl_one @h2)))) ?_
      refine ifs ?_ ?_ <;> first | exact nope | intro hb
      by_cases c1 : m ≤ 999999999
      · by_cases c2 : -999999999 ≤ m
        · by_cases c3 : k ≤ 9
          · refine go (cj rTN (cj @dl_idf (cj @dl_ln @dl_one))) ?_
            (repeat' refine And.intro ?_ ?_) <;> first | exact rfl | exact fnz trivial | skip
          · refine go (cj rTN (cj @dl_idf (cj @dl_ln @dl_one))) ?_
            (repeat' refine And.intro ?_ ?_) <;> first | exact rfl | exact fnz trivial | skip
        · refine go (cj rTN (cj @dl_idf (cj @dl_ln @dl_one))) ?_
          (repeat' refine And.intro ?_ ?_) <;> first | exact rfl | exact fnz trivial | skip
      · refine go (cj rTN (cj @dl_idf (cj @dl_ln @dl_one))) ?_
        (repeat' refine And.intro ?_ ?_) <;> first | exact rfl | exact fnz trivial | skip

def ofN (m k : Int) : Int × Int := if k < 0 then low m ((10 ^ (-k).toNat : Nat) : Int) else (m * ((10 ^ k.toNat : Nat) : Int), 1)
theorem validN_m (m k : Int) (h : validN m k = true) : -999999999 ≤ m ∧ m ≤ 999999999 ∧ -18 ≤ k ∧ k ≤ 9 := by
  unfold validN at h
  split at h
  · simp only [Bool.and_eq_true, decide_eq_true_eq] at h; omega
  · simp only [Bool.and_eq_true, decide_eq_true_eq] at h; omega
def cmpNN (m k m' k' : Int) : AV := if validN m k = true ∧ validN m' k' = true then .tp [.v (.int .i64 (sgn ((ofN m k).1 * (ofN m' k').2 - (ofN m' k').1 * (ofN m k).2))), .v (.int .i64 0)] else .tp [.v (.int .i64 0), .v (.int .i64 30)]
theorem low_pos (n d : Int) (hd : d ≠ 0) : 0 < (low n d).2 := by
  have hg : 0 < Nat.gcd n.natAbs d.natAbs := Nat.gcd_pos_of_pos_right _ (by omega)
  have hdv : Nat.gcd n.natAbs d.natAbs ∣ d.natAbs := Nat.gcd_dvd_right _ _
  have hq : 0 < d.natAbs / Nat.gcd n.natAbs d.natAbs := Nat.div_pos (Nat.le_of_dvd (by omega) hdv) hg
  have key : ∀ e : Int, 0 < e → e.natAbs = d.natAbs → 0 < e.tdiv (Nat.gcd n.natAbs d.natAbs : Nat) := by
    intro e he hea
    rw [show e = ((d.natAbs : Nat) : Int) by omega, ← Int.ofNat_tdiv]
    omega
  unfold low
  split
  · exact key (-d) (by omega) (by omega)
  · exact key d (by omega) rfl
theorem ofN_pos (m k : Int) : 0 < (ofN m k).2 := by
  unfold ofN
  split
  · refine low_pos _ _ ?_
    have : 0 < 10 ^ (-k).toNat := Nat.pow_pos (by decide)
    omega
  · simp only; omega
end Go.Proofs.YtfjelkjlfcafgaaGreatDoor.RefM
end
section
/- Package num: Valid, frac, Value, Grid, Cmp: what they give is what the document's give. -/
namespace Go.Proofs.YtfjelkjlfcafgaaGreatDoor.NumA
open Go Go.RowKit Go.Proofs.YtfjelkjlfcafgaaGreatDoor.Ax Go.Proofs.YtfjelkjlfcafgaaGreatDoor.Ti Go.Proofs.YtfjelkjlfcafgaaGreatDoor.BigM Go.Proofs.YtfjelkjlfcafgaaGreatDoor.BigN Go.Proofs.YtfjelkjlfcafgaaGreatDoor.BigA Go.Proofs.YtfjelkjlfcafgaaGreatDoor.BigB Go.Proofs.YtfjelkjlfcafgaaGreatDoor.BigL Go.Proofs.YtfjelkjlfcafgaaGreatDoor.BigF Go.Proofs.YtfjelkjlfcafgaaGreatDoor.BigI Go.Proofs.YtfjelkjlfcafgaaGreatDoor.BigJ Go.Proofs.YtfjelkjlfcafgaaGreatDoor.BigP Go.Proofs.YtfjelkjlfcafgaaGreatDoor.BigQ Go.Proofs.YtfjelkjlfcafgaaGreatDoor.BigR Go.Proofs.YtfjelkjlfcafgaaGreatDoor.BigS Go.Proofs.YtfjelkjlfcafgaaGreatDoor.BigT Go.Proofs.YtfjelkjlfcafgaaGreatDoor.BigU
set_option linter.unusedSimpArgs false
set_option linter.unusedVariables false
set_option maxRecDepth 4000
set_option maxHeartbeats 2000000
theorem rTI : type_of% (cj @ti41 (cj @ti35 (cj @ti165 (cj @ti198 (cj @ti3 (cj @ti2 (cj @ti4 (cj @ti176 (cj @ti178 (cj @ti43 (cj @ti45 (cj @ti186 (cj @ti25 @ti24))))))))))))) := cj @ti41 (cj @ti35 (cj @ti165 (cj @ti198 (cj @ti3 (cj @ti2 (cj @ti4 (cj @ti176 (cj @ti178 (cj @ti43 (cj @ti45 (cj @ti186 (cj @ti25 @ti24))))))))))))

def NM (m k : Int) : AV := .ag [.v (.int .i64 m), .v (.int .i64 k)]
def validN (m k : Int) : Bool := RefM.validN m k
theorem validN_def (m k : Int) : validN m k = if m.tmod 10 = 0 then decide (m = 0) && decide (k = 0) else decide (m ≤ 999999999) && decide (-999999999 ≤ m) && decide (k ≤ 9) && decide (-18 ≤ k) := rfl
theorem valid_ax (m k : Int) : PCall Tryz.prog 18 [NM m k] (.v (.bool (validN m k))) := by
  refine pcall_of fun s => ?_
  have hv := validN_def m k
  unfold NM
  refine acall_of Tryz.func18 rfl rfl (by simp [Tryz.ntmps18]) ?_; rw [Tryz.ntmps18, Tryz.results18]
  by_cases q0 : m = 0
  · subst q0
    rw [if_pos (by decide)] at hv
    by_cases q1 : k = 0
    · rw [show validN 0 k = true by rw [hv]; simp [q1]]
      refine go (cj rTI (cj @wl_idf @wl_one)) ?_
      refine ifs ?_ ?_ <;> first | exact nope | intro hb
      refine go (cj rTI (cj @wl_idf @wl_one)) ?_
      exact fun i hi => if_neg (by omega)
    · rw [show validN 0 k = false by rw [hv]; simp [q1]]
      refine go (cj rTI (cj @wl_idf @wl_one)) ?_
      refine ifs ?_ ?_ <;> first | exact nope | intro hb
      refine go (cj rTI (cj @wl_idf @wl_one)) ?_
      exact fun i hi => if_neg (by omega)
  · by_cases c1 : -999999999 ≤ m
    · by_cases c2 : m ≤ 999999999
      · by_cases c3 : m.tmod 10 = 0
        · have h2 : (m.tmod 10 != 0) = false := by rw [c3]; rfl
          rw [show validN m k = false by rw [hv, if_pos c3]; simp [q0]]
          clear hv c3
          refine go (cj rTI (cj @wl_idf @wl_one)) ?_
          refine ifs ?_ ?_ <;> first | exact nope | intro hb
          refine go (cj rTI (cj @wl_idf (cj @wl_one @h2))) ?_
          exact fun i hi => if_neg (by omega)
        · have h2 : (m.tmod 10 != 0) = true := bne_iff_ne.2 c3
          rw [if_neg c3] at hv
          clear c3
          by_cases c4 : -18 ≤ k
          · by_cases c5 : k ≤ 9
            · rw [show validN m k = true by rw [hv]; simp [c1, c2, c4, c5]]
              clear hv
              refine go (cj rTI (cj @wl_idf @wl_one)) ?_
              refine ifs ?_ ?_ <;> first | exact nope | intro hb
              refine go (cj rTI (cj @wl_idf (cj @wl_one @h2))) ?_
              exact fun i hi => if_neg (by omega)
            · rw [show validN m k = false by rw [hv]; simp [c5]]
              clear hv
              refine go (cj rTI (cj @wl_idf @wl_one)) ?_
              refine ifs ?_ ?_ <;> first | exact nope | intro hb
              refine go (cj rTI (cj @wl_idf (cj @wl_one @h2))) ?_
              exact fun i hi => if_neg (by omega)
          · rw [show validN m k = false by rw [hv]; simp [c4]]
            clear hv
            refine go (cj rTI (cj @wl_idf @wl_one)) ?_
            refine ifs ?_ ?_ <;> first | exact nope | intro hb
            refine go (cj rTI (cj @wl_idf (cj @wl_one @h2))) ?_
            exact fun i hi => if_neg (by omega)
      · rw [show validN m k = false by rw [hv]; simp [c2, q0]]
        clear hv
        refine go (cj rTI (cj @wl_idf @wl_one)) ?_
        refine ifs ?_ ?_ <;> first | exact nope | intro hb
        refine go (cj rTI (cj @wl_idf @wl_one)) ?_
        exact fun i hi => if_neg (by omega)
    · rw [show validN m k = false by rw [hv]; simp [c1, q0]]
      clear hv
      refine go (cj rTI (cj @wl_idf @wl_one)) ?_
      refine ifs ?_ ?_ <;> first | exact nope | intro hb
      refine go (cj rTI (cj @wl_idf @wl_one)) ?_
      exact fun i hi => if_neg (by omega)
theorem ofN_def (m k : Int) : RefM.ofN m k = if k < 0 then low m ((10 ^ (-k).toNat : Nat) : Int) else (m * ((10 ^ k.toNat : Nat) : Int), 1) := rfl
theorem low_one (x : Int) : low x 1 = (x, 1) := by
  unfold low
  simp
theorem pow_lw (k : Nat) (hk : k ≤ 100) : lw ((10 ^ k : Nat) : Int).natAbs ≤ 101 := by
  rw [Int.natAbs_natCast]
  exact Nat.le_trans (ten_lw k) (by omega)
theorem frac_ax (s : St) (m k : Int) (m1 : -9223372036854775808 ≤ m) (m2 : m ≤ 9223372036854775807) (k1 : -100 ≤ k) (k2 : k ≤ 100) :
    ACall Tryz.prog 68 [NM m k] s fun r s' => ∃ id, r = .ptr id 0 ∧ NewR s s' id (RefM.ofN m k).1 (RefM.ofN m k).2 := by
  have hdef := ofN_def m k
  unfold NM
  have p0 : (s.push [.v (.int .i64 m), .v (.int .i64 k)]).get s.nx = some [.v (.int .i64 m), .v (.int .i64 k)] := St.push_same _ _
  have pn : (s.push [.v (.int .i64 m), .v (.int .i64 k)]).nx = s.nx + 1 := rfl
  have po : ∀ i, i < s.nx → (s.push [.v (.int .i64 m), .v (.int .i64 k)]).get i = s.get i := fun i hi => St.push_ne _ _ _ (by omega)
  have lm : lw m.natAbs ≤ 2 := (lw_two _).2 (by omega)
  obtain ⟨K0, hK0⟩ : ∃ K0 : Nat, K0 = k.natAbs := ⟨_, rfl⟩
  have hmax : (if -k > k then -k else k) = (K0 : Int) := by split <;> omega
  have lp := pow_lw K0 (by omega)
  refine acall_of Tryz.func68 rfl rfl (by simp [Tryz.ntmps68]) ?_; rw [Tryz.ntmps68, Tryz.results68]
  refine go (cj rTI (cj @wl_idf @wl_one)) ?_
  generalize s.push [.v (.int .i64 m), .v (.int .i64 k)] = t at *
  have c1 := ten_ax t K0 (by omega)
  refine aw_reg fun K hK => ?_; refine rn (cj rTI (cj @wl_idf (cj @wl_one (cj @p0 (cj @hmax @Int.zero_sub))))) ?_; refine cont_go c1 ?_; rintro _ s1 ⟨i1, rfl, w1⟩; refine rn (cj rTI (cj @wl_idf (cj @wl_one (cj @p0 (cj @hmax @Int.zero_sub))))) ?_; refine hK _ _ ?_; clear hK K
  clear hmax
  rw [then_normal]
  have n1 := w1.nx
  have l1 := w1.lo
  have h1 := w1.lt
  have p1 : s1.get s.nx = some [.v (.int .i64 m), .v (.int .i64 k)] := by rw [w1.fr _ (by omega)]; exact p0
  have c2 := newInt_ax s1 m m1 m2
  by_cases q : k < 0
  · rw [if_pos q, show (-k).toNat = K0 by omega] at hdef
    rw [hdef]
    refine go (cj rTI (cj @wl_idf (cj @wl_one @p1))) ?_
    refine ifs ?_ ?_ <;> first | exact nope | intro hb
    refine aw_seq ?_
    have hne : ((10 ^ K0 : Nat) : Int) ≠ 0 := by
      have := Nat.pow_pos (n := K0) (show 0 < 10 by decide)
      omega
    refine aw_reg fun K hK => ?_; refine rn (cj rTI (cj @wl_idf (cj @wl_one @p1))) ?_; refine cont_go c2 ?_; rintro _ s2 ⟨i2, rfl, w2⟩; have n2 := w2.nx; refine rn (cj rTI (cj @wl_idf @wl_one)) ?_; refine cont_go (newRat_frac s2 i2 0 i1 0 m _ w2.rdP (w2.otherR w1.rdP) hne (by omega) (by omega)) ?_; rintro _ s3 ⟨i3, rfl, w3⟩; refine rn (cj rTI (cj @wl_idf (cj @wl_one @p1))) ?_; refine hK _ _ ?_; clear hK K
    refine go trivial ?_
    have l3 := w3.lo
    exact ⟨i3, rfl, by omega, w3.lt, w3.g, fun i hi => by rw [w3.fr i (by omega), w2.fr i (by omega), w1.fr i (by omega), po i hi]⟩
  · rw [if_neg q, show k.toNat = K0 by omega] at hdef
    rw [hdef]
    refine go (cj rTI (cj @wl_idf (cj @wl_one @p1))) ?_
    refine ifs ?_ ?_ <;> first | exact nope | intro hb
    refine go trivial ?_
    refine aw_reg fun K hK => ?_
    refine rn (cj rTI (cj @wl_idf (cj @wl_one @p1))) ?_
    refine cont_go c2 ?_
    rintro _ s2 ⟨i2, rfl, w2⟩
    have n2 := w2.nx
    have l2 := w2.lo
    have lmul : lw (((10 ^ K0 : Nat) : Int) * m).natAbs ≤ 1000000000000 := by
      rw [Int.natAbs_mul]
      exact Nat.le_trans (lw_mul _ _) (by omega)
    have c3 := mul_ax s2 i1 i1 0 i2 0 _ m (w2.otherD w1.dst) (w2.otherR w1.rdP) w2.rdP (by omega)
    refine rn (cj rTI (cj @wl_idf @wl_one)) ?_
    refine cont_go c3 ?_
    rintro _ s3 ⟨rfl, w3⟩
    have n3 := w3.nx
    refine rn (cj rTI (cj @wl_idf @wl_one)) ?_
    refine cont_go (newInt_ax s3 1 (by decide) (by decide)) ?_
    rintro _ s4 ⟨i4, rfl, w4⟩
    have n4 := w4.nx
    have c5 := newRat_frac s4 i1 0 i4 0 _ 1 (w4.otherR w3.rdP) w4.rdP (by decide) lmul (Nat.le_trans (pow_lw 0 (by decide)) (by decide))
    rw [low_one, Int.mul_comm _ m] at c5
    refine rn (cj rTI (cj @wl_idf @wl_one)) ?_
    refine cont_go c5 ?_
    rintro _ s5 ⟨i5, rfl, w5⟩
    refine rn (cj rTI (cj @wl_idf @wl_one)) ?_
    refine hK _ _ ?_
    clear hK K
    refine go trivial ?_
    have l5 := w5.lo
    exact ⟨i5, rfl, by omega, w5.lt, w5.g, fun i hi => by rw [w5.fr i (by omega), w4.fr i (by omega), w3.fr i (by omega) (by omega), w2.fr i (by omega), w1.fr i (by omega), po i hi]⟩
end Go.Proofs.YtfjelkjlfcafgaaGreatDoor.NumA
end
section
/- Package num: Value, Grid, Cmp: what they give is what the document's give. -/
namespace Go.Proofs.YtfjelkjlfcafgaaGreatDoor.NumB
open Go Go.RowKit Go.Proofs.YtfjelkjlfcafgaaGreatDoor.Ax Go.Proofs.YtfjelkjlfcafgaaGreatDoor.Ti Go.Proofs.YtfjelkjlfcafgaaGreatDoor.BigM Go.Proofs.YtfjelkjlfcafgaaGreatDoor.BigN Go.Proofs.YtfjelkjlfcafgaaGreatDoor.BigA Go.Proofs.YtfjelkjlfcafgaaGreatDoor.BigB Go.Proofs.YtfjelkjlfcafgaaGreatDoor.BigL Go.Proofs.YtfjelkjlfcafgaaGreatDoor.BigF Go.Proofs.YtfjelkjlfcafgaaGreatDoor.BigI Go.Proofs.YtfjelkjlfcafgaaGreatDoor.BigJ Go.Proofs.YtfjelkjlfcafgaaGreatDoor.BigP Go.Proofs.YtfjelkjlfcafgaaGreatDoor.BigQ Go.Proofs.YtfjelkjlfcafgaaGreatDoor.BigR Go.Proofs.YtfjelkjlfcafgaaGreatDoor.BigS Go.Proofs.YtfjelkjlfcafgaaGreatDoor.BigT Go.Proofs.YtfjelkjlfcafgaaGreatDoor.BigU Go.Proofs.YtfjelkjlfcafgaaGreatDoor.NumA
set_option linter.unusedSimpArgs false
set_option linter.unusedVariables false
set_option maxRecDepth 4000
set_option maxHeartbeats 2000000
theorem rTI : type_of% (cj @ti41 (cj @ti35 (cj @ti165 (cj @ti198 (cj @ti3 (cj @ti2 (cj @ti4 (cj @ti176 (cj @ti178 (cj @ti43 (cj @ti45 (cj @ti186 (cj @ti25 @ti24))))))))))))) := cj @ti41 (cj @ti35 (cj @ti165 (cj @ti198 (cj @ti3 (cj @ti2 (cj @ti4 (cj @ti176 (cj @ti178 (cj @ti43 (cj @ti45 (cj @ti186 (cj @ti25 @ti24))))))))))))

theorem lw_abs_mul (a b : Int) (i j : Nat) (h1 : lw a.natAbs ≤ i) (h2 : lw b.natAbs ≤ j) : lw (a * b).natAbs ≤ i + j := by
  rw [Int.natAbs_mul]
  exact Nat.le_trans (lw_mul _ _) (by omega)
theorem ofN_lw (m k : Int) (m1 : -9223372036854775808 ≤ m) (m2 : m ≤ 9223372036854775807) (k1 : -100 ≤ k) (k2 : k ≤ 100) : lw (RefM.ofN m k).1.natAbs ≤ 103 ∧ lw (RefM.ofN m k).2.natAbs ≤ 103 := by
  have lm : lw m.natAbs ≤ 2 := (lw_two _).2 (by omega)
  rw [ofN_def]
  by_cases q : k < 0
  · rw [if_pos q]
    have h := low_lw m ((10 ^ (-k).toNat : Nat) : Int)
    have h2 := pow_lw (-k).toNat (by omega)
    omega
  · rw [if_neg q]
    have h2 := pow_lw k.toNat (by omega)
    refine ⟨by have := lw_abs_mul m _ 2 101 lm h2; omega, Nat.le_trans (pow_lw 0 (by decide)) (by decide)⟩
theorem validN_m (m k : Int) (h : validN m k = true) : -999999999 ≤ m ∧ m ≤ 999999999 ∧ -18 ≤ k ∧ k ≤ 9 := RefM.validN_m m k h
theorem cmpNN_eq (m k m' k' : Int) : RefM.cmpNN m k m' k' = if validN m k = true ∧ validN m' k' = true then .tp [.v (.int .i64 (sgn ((RefM.ofN m k).1 * (RefM.ofN m' k').2 - (RefM.ofN m' k').1 * (RefM.ofN m k).2))), .v (.int .i64 0)] else .tp [.v (.int .i64 0), .v (.int .i64 30)] := rfl
theorem cmp_ax (m k m' k' : Int) : PCall Tryz.prog 25 [NM m k, NM m' k'] (RefM.cmpNN m k m' k') := by
  refine pcall_of fun s => ?_
  have hv := valid_ax m k
  have hv2 := valid_ax m' k'
  have he := cmpNN_eq m k m' k'
  have t0 := two_g0 s [.v (.int .i64 m), .v (.int .i64 k)] [.v (.int .i64 m'), .v (.int .i64 k')]
  have t1 := two_g1 s [.v (.int .i64 m), .v (.int .i64 k)] [.v (.int .i64 m'), .v (.int .i64 k')]
  have to := two_old s [.v (.int .i64 m), .v (.int .i64 k)] [.v (.int .i64 m'), .v (.int .i64 k')]
  have tn := two_nx s [.v (.int .i64 m), .v (.int .i64 k)] [.v (.int .i64 m'), .v (.int .i64 k')]
  have hf := fun s (h : validN m k = true) => frac_ax s m k (by have := validN_m m k h; omega) (by have := validN_m m k h; omega) (by have := validN_m m k h; omega) (by have := validN_m m k h; omega)
  have hf2 := fun s (h : validN m' k' = true) => frac_ax s m' k' (by have := validN_m m' k' h; omega) (by have := validN_m m' k' h; omega) (by have := validN_m m' k' h; omega) (by have := validN_m m' k' h; omega)
  have hl := fun (h : validN m k = true) => ofN_lw m k (by have := validN_m m k h; omega) (by have := validN_m m k h; omega) (by have := validN_m m k h; omega) (by have := validN_m m k h; omega)
  have hl2 := fun (h : validN m' k' = true) => ofN_lw m' k' (by have := validN_m m' k' h; omega) (by have := validN_m m' k' h; omega) (by have := validN_m m' k' h; omega) (by have := validN_m m' k' h; omega)
  have hp := RefM.ofN_pos m k
  have hp2 := RefM.ofN_pos m' k'
  unfold NM at *
  by_cases q : validN m k = true
  · by_cases q2 : validN m' k' = true
    · rw [if_pos ⟨q, q2⟩] at he
      rw [q] at hv
      rw [q2] at hv2
      rw [he]
      have hf := fun s => hf s q
      have hf2 := fun s => hf2 s q2
      have hl := hl q
      have hl2 := hl2 q2
      clear he q q2
      generalize (RefM.ofN m k).1 = a at *
      generalize (RefM.ofN m k).2 = b at *
      generalize (RefM.ofN m' k').1 = c at *
      generalize (RefM.ofN m' k').2 = d at *
      refine acall_of Tryz.func25 rfl rfl (by simp [Tryz.ntmps25]) ?_; rw [Tryz.ntmps25, Tryz.results25]
      refine go (cj rTI (cj @wl_idf @wl_one)) ?_
      generalize (s.push [.v (.int .i64 m), .v (.int .i64 k)]).push [.v (.int .i64 m'), .v (.int .i64 k')] = t at *
      refine aw_reg fun K hK => ?_; refine rn (cj rTI (cj @wl_idf (cj @wl_one (cj @t0 @t1)))) ?_; refine cont_pure hv ?_; refine rn (cj rTI (cj @wl_idf (cj @wl_one (cj @t0 @t1)))) ?_; refine cont_pure hv2 ?_; refine rn (cj rTI (cj @wl_idf (cj @wl_one (cj @t0 @t1)))) ?_; refine hK _ _ ?_; clear hK K
      rw [then_normal]
      refine ifs ?_ ?_ <;> first | exact nope | intro hb
      refine go trivial ?_
      refine aw_drw (.take 0 (.take 2 (.one 1 (.one 3 (.one 4 (.take 5 (.take 6 (.done)))))))) [s.nx, s.nx + 1] (by kernel_rfl) (by kernel_rfl) fun K hK => ?_; refine dr (cj rTI (cj @wl_idf (cj @wl_one (cj @t0 @t1)))) ?_; refine cont_go (hf t) ?_; rintro _ s1 ⟨i1, rfl, m1⟩; have n1 := m1.nx; have k1 := m1.lt; have f0 := m1.fr s.nx (by omega); have f1 := m1.fr (s.nx + 1) (by omega); refine dr (cj rTI (cj @wl_idf (cj @wl_one (cj @t0 @t1)))) ?_; refine ⟨⟨by rw [f0, t0], by rw [f1, t1]⟩, ?_⟩; refine cont_go (hf2 s1) ?_; rintro _ s2 ⟨i2, rfl, m2⟩; have n2 := m2.nx; have f2 := m2.fr s.nx (by omega); have f3 := m2.fr (s.nx + 1) (by omega); have r3 := cmpR_ax s2 i1 i2 a b c d (m1.rat.mono n2 (m2.fr _ k1)) m2.rat hp hp2 (by omega) (by omega); refine dr (cj rTI (cj @wl_idf (cj @wl_one (cj @t0 @t1)))) ?_; refine ⟨⟨f2, f3⟩, ?_⟩; refine cont_go r3 ?_; rintro _ s3 ⟨rfl, rfl⟩; refine dr (cj rTI (cj @wl_idf (cj @wl_one (cj @t0 @t1)))) ?_; refine hK _ _ ?_; clear hK K
      refine go (cj rTI (cj @wl_idf @wl_one)) ?_
      intro i hi
      rw [m2.fr i (by omega), m1.fr i (by omega), to i hi]
    · have q2' : validN m' k' = false := by simpa using q2
      rw [if_neg (fun h => q2 h.2)] at he
      rw [q] at hv
      rw [q2'] at hv2
      rw [he]
      refine acall_of Tryz.func25 rfl rfl (by simp [Tryz.ntmps25]) ?_; rw [Tryz.ntmps25, Tryz.results25]
      refine go (cj rTI (cj @wl_idf @wl_one)) ?_
      refine aw_reg fun K hK => ?_; refine rn (cj rTI (cj @wl_idf @wl_one)) ?_; refine cont_pure hv ?_; refine rn (cj rTI (cj @wl_idf @wl_one)) ?_; refine cont_pure hv2 ?_; refine rn (cj rTI (cj @wl_idf @wl_one)) ?_; refine hK _ _ ?_; clear hK K
      rw [then_normal]
      refine ifs ?_ ?_ <;> first | exact nope | intro hb
      refine go trivial ?_
      exact to
  · have q' : validN m k = false := by simpa using q
    rw [if_neg (fun h => q h.1)] at he
    rw [q'] at hv
    rw [he]
    refine acall_of Tryz.func25 rfl rfl (by simp [Tryz.ntmps25]) ?_; rw [Tryz.ntmps25, Tryz.results25]
    refine go (cj rTI (cj @wl_idf @wl_one)) ?_
    refine aw_reg fun K hK => ?_; refine rn (cj rTI (cj @wl_idf @wl_one)) ?_; refine cont_pure hv ?_; refine rn (cj rTI (cj @wl_idf @wl_one)) ?_; refine hK _ _ ?_; clear hK K
    rw [then_normal]
    refine ifs ?_ ?_ <;> first | exact nope | intro hb
    refine go trivial ?_
    exact to
end Go.Proofs.YtfjelkjlfcafgaaGreatDoor.NumB
end
section
/- Plain lists: the texts of decimal numbers: what a text says, and the one form. -/
namespace Go.Proofs.YtfjelkjlfcafgaaGreatDoor.NumS
open Go.Proofs.YtfjelkjlfcafgaaGreatDoor.BigM
set_option linter.unusedVariables false

def isD (c : Nat) : Bool := decide (48 ≤ c) && decide (c ≤ 57)
theorem isD_iff (c : Nat) : isD c = true ↔ 48 ≤ c ∧ c ≤ 57 := by unfold isD; simp
def fr : List Nat → List Nat
  | [] => []
  | c :: l => if isD c then c :: fr l else []
def bk : List Nat → List Nat
  | [] => []
  | c :: l => if isD c then bk l else c :: l
theorem fr_bk : ∀ l, fr l ++ bk l = l
  | [] => rfl
  | c :: l => by
    rw [fr, bk]
    split
    · rw [List.cons_append, fr_bk l]
    · rfl
theorem fr_all : ∀ l, ∀ c ∈ fr l, isD c = true
  | [], c, h => by cases h
  | a :: l, c, h => by
    rw [fr] at h
    split at h
    · rcases List.mem_cons.1 h with rfl | h
      · assumption
      · exact fr_all l c h
    · cases h
theorem fr_app : ∀ (a b : List Nat), (∀ c ∈ a, isD c = true) → (∀ c, b.head? = some c → isD c = false) → fr (a ++ b) = a ∧ bk (a ++ b) = b
  | [], b, _, hb => by
    cases b with
    | nil => exact ⟨rfl, rfl⟩
    | cons c l =>
      have := hb c rfl
      rw [List.nil_append, fr, bk, if_neg (by rw [this]; simp), if_neg (by rw [this]; simp)]
      exact ⟨rfl, rfl⟩
  | c :: a, b, ha, hb => by
    have h1 := ha c (by simp)
    obtain ⟨e1, e2⟩ := fr_app a b (fun d hd => ha d (List.mem_cons_of_mem _ hd)) hb
    rw [List.cons_append, fr, bk, if_pos h1, if_pos h1, e1, e2]
    exact ⟨rfl, rfl⟩
def digV (l : List Nat) : Nat := l.foldl (fun a c => 10 * a + (c - 48)) 0
theorem digV_snoc (l : List Nat) (c : Nat) : digV (l ++ [c]) = 10 * digV l + (c - 48) := by unfold digV; rw [List.foldl_append]; rfl
theorem digV_zeros (l : List Nat) (n : Nat) : digV (l ++ List.replicate n 48) = digV l * 10 ^ n := by
  induction n with
  | zero => simp
  | succ n ih => rw [List.replicate_succ', ← List.append_assoc, digV_snoc, ih, Nat.pow_succ, Nat.mul_comm 10, Nat.mul_assoc]; rfl
theorem digV_dec (n : Nat) : digV (((digs 10 n).reverse).map fun d => 48 + d) = n := by
  have : ∀ l : List Nat, digV ((l.reverse).map fun d => 48 + d) = val 10 l := by
    intro l
    induction l with
    | nil => rfl
    | cons d l ih => rw [List.reverse_cons, List.map_append, List.map_cons, List.map_nil, digV_snoc, ih, val]; omega
  rw [this, val_digs 10 (by decide)]
def strip (m : Nat) (x : Int) : Nat × Int := if h : 0 < m ∧ m % 10 = 0 then strip (m / 10) (x + 1) else (m, x)
termination_by m
decreasing_by exact Nat.div_lt_self h.1 (by decide)
theorem strip_stop (m : Nat) (x : Int) (h : ¬ (0 < m ∧ m % 10 = 0)) : strip m x = (m, x) := by rw [strip, dif_neg h]
theorem strip_go (m : Nat) (x : Int) (h : 0 < m) : strip (m * 10) x = strip m (x + 1) := by
  rw [strip, dif_pos ⟨by omega, by omega⟩, Nat.mul_div_cancel _ (by decide)]
theorem strip_pow (m : Nat) (h : 0 < m) (n : Nat) : ∀ x, strip (m * 10 ^ n) x = strip m (x + n) := by
  induction n with
  | zero => intro x; simp
  | succ n ih =>
    intro x
    rw [Nat.pow_succ, ← Nat.mul_assoc, strip_go _ _ (Nat.mul_pos h (Nat.pow_pos (by decide))), ih]
    congr 1
    omega
theorem strip_ne (m : Nat) : ∀ x, 0 < m → 0 < (strip m x).1 ∧ (strip m x).1 % 10 ≠ 0 := by
  induction m using Nat.strongRecOn with
  | _ m ih =>
    intro x h
    rw [strip]
    by_cases hz : m % 10 = 0
    · rw [dif_pos ⟨h, hz⟩]
      exact ih _ (Nat.div_lt_self h (by decide)) _ (by omega)
    · rw [dif_neg (fun q => hz q.2)]
      exact ⟨h, hz⟩
def two : List Nat → Option Int
  | [a] => if isD a then some ((a : Int) - 48) else none
  | [a, b] => if isD a && isD b then some (10 * ((a : Int) - 48) + ((b : Int) - 48)) else none
  | _ => none
def expS : List Nat → Option Int
  | 45 :: r => (two r).map fun v => -v
  | 43 :: r => two r
  | r => two r
def lettersS : List Nat → Option Int
  | [] => some 0
  | [102] => some (-15)
  | [112] => some (-12)
  | [110] => some (-9)
  | [117] => some (-6)
  | [109] => some (-3)
  | [107] => some 3
  | [109, 101, 103] => some 6
  | [103] => some 9
  | [116] => some 12
  | 101 :: r => expS r
  | _ => none
def finS (neg : Bool) (m : Nat) (x : Int) : Int × Int × Int :=
  if m = 0 then (0, 0, 0)
  else if (strip m x).1 ≤ 999999999 ∧ -18 ≤ (strip m x).2 ∧ (strip m x).2 ≤ 9 then (if neg then -((strip m x).1 : Int) else (strip m x).1, (strip m x).2, 0)
  else (0, 0, 30)
def bodyS (neg : Bool) (r : List Nat) : Int × Int × Int :=
  if fr r = [] then (0, 0, 3)
  else match bk r with
  | 46 :: q => if fr q = [] then (0, 0, 3) else match lettersS (bk q) with
    | none => (0, 0, 3)
    | some e => finS neg (digV (fr r ++ fr q)) (e - (fr q).length)
  | q => match lettersS q with
    | none => (0, 0, 3)
    | some e => finS neg (digV (fr r)) e
def parseS (l : List Nat) : Int × Int × Int :=
  if 32 < l.length then (0, 0, 3)
  else match l with
  | 45 :: r => bodyS true r
  | r => bodyS false r
def decN (n : Nat) : List Nat := ((digs 10 n).reverse).map fun d => 48 + d
def decS (z : Int) : List Nat := if z = 0 then [48] else (if z < 0 then [45] else []) ++ decN z.natAbs
theorem decN_isD (n : Nat) : ∀ c ∈ decN n, isD c = true := by
  intro c hc
  obtain ⟨d, hd, rfl⟩ := List.mem_map.1 hc
  have := digs_lt 10 (by decide) n d (List.mem_reverse.1 hd)
  rw [isD_iff]
  omega
theorem decN_nil (n : Nat) (h : 0 < n) : decN n ≠ [] := by
  unfold decN
  intro e
  have := congrArg List.length e
  rw [List.length_map, List.length_reverse, List.length_nil, List.length_eq_zero_iff, digs_nil 10 (by decide)] at this
  omega
theorem decN_len (n k : Nat) (h : n < 10 ^ k) : (decN n).length ≤ k := by
  unfold decN
  rw [List.length_map, List.length_reverse]
  exact (digs_length_le 10 (by decide) k n).2 h
def letterS (k : Nat) : List Nat := [[102], [112], [110], [117], [109], [], [107], [109, 101, 103], [103], [116]].getD k []
theorem letter_reads (k : Nat) (h : k < 10) : lettersS (letterS k) = some (3 * (k : Int) - 15) ∧ (∀ c, (letterS k).head? = some c → isD c = false ∧ c ≠ 46) ∧ (letterS k).length ≤ 3 := by
  have : k = 0 ∨ k = 1 ∨ k = 2 ∨ k = 3 ∨ k = 4 ∨ k = 5 ∨ k = 6 ∨ k = 7 ∨ k = 8 ∨ k = 9 := by omega
  rcases this with rfl | rfl | rfl | rfl | rfl | rfl | rfl | rfl | rfl | rfl <;> refine ⟨by simp [letterS, lettersS], ?_, by simp [letterS]⟩ <;> intro c hc <;> simp [letterS] at hc <;> subst hc <;> decide
theorem body_plain (neg : Bool) (a q : List Nat) (e : Int) (ha : ∀ c ∈ a, isD c = true) (h0 : a ≠ []) (hq : ∀ c, q.head? = some c → isD c = false ∧ c ≠ 46) (he : lettersS q = some e) : bodyS neg (a ++ q) = finS neg (digV a) e := by
  obtain ⟨e1, e2⟩ := fr_app a q ha (fun c hc => (hq c hc).1)
  unfold bodyS
  rw [e1, e2, if_neg h0]
  split
  · exact absurd rfl (hq 46 rfl).2
  · rw [he]
def textS (m x : Int) : List Nat :=
  if x < -15 then decS m ++ [101, 45] ++ decN x.natAbs
  else decS m ++ List.replicate ((x + 15) % 3).toNat 48 ++ letterS ((x + 15) / 3).toNat
def okN (m x : Int) : Prop := if m.tmod 10 = 0 then m = 0 ∧ x = 0 else m ≤ 999999999 ∧ -999999999 ≤ m ∧ x ≤ 9 ∧ -18 ≤ x
theorem fin_ok (neg : Bool) (m : Nat) (n : Nat) (x y : Int) (h0 : 0 < m) (hm : m ≤ 999999999) (hz : m % 10 ≠ 0) (hx : y = x + n) (h1 : -18 ≤ y) (h2 : y ≤ 9) : finS neg (m * 10 ^ n) x = (if neg then -(m : Int) else m, y, 0) := by
  have hp : 0 < m * 10 ^ n := Nat.mul_pos h0 (Nat.pow_pos (by decide))
  have e : strip (m * 10 ^ n) x = (m, y) := by rw [strip_pow m h0, strip_stop _ _ (fun q => hz q.2), hx]
  unfold finS
  rw [if_neg (by omega), e]
  simp only
  rw [if_pos ⟨hm, h1, h2⟩]
theorem dec_two (n : Nat) (h : n = 16 ∨ n = 17 ∨ n = 18) : lettersS (101 :: 45 :: decN n) = some (-(n : Int)) := by
  rcases h with rfl | rfl | rfl <;> simp [decN, digs_pos, digs_zero, lettersS, expS, two, isD]
theorem neg_split (m : Int) (h : m ≠ 0) (r : List Nat) : (decS m ++ r) = (if m < 0 then 45 :: (decN m.natAbs ++ r) else decN m.natAbs ++ r) := by
  unfold decS
  rw [if_neg h]
  split <;> simp
theorem parse_sign (neg : Bool) (a r : List Nat) (ha : ∀ c ∈ a, isD c = true) (h0 : a ≠ []) (hl : (a ++ r).length ≤ 31) : parseS (if neg then 45 :: (a ++ r) else a ++ r) = bodyS neg (a ++ r) := by
  unfold parseS
  cases neg with
  | true =>
    rw [if_neg (by simp only [if_true, List.length_cons]; omega)]
    rfl
  | false =>
    rw [if_neg (by simp only [Bool.false_eq_true, if_false]; omega)]
    cases a with
    | nil => exact absurd rfl h0
    | cons c a =>
      have := (isD_iff c).1 (ha c (by simp))
      simp only [Bool.false_eq_true, if_false, List.cons_append]
      split
      · rename_i h
        injection h with h
        omega
      · rfl
theorem text_len (m x : Int) (h : okN m x) : (textS m x).length ≤ 15 := by
  unfold okN at h
  have hd : (decS m).length ≤ 10 := by
    unfold decS
    split
    · simp
    · rw [List.length_append]
      have h1 : m.natAbs < 10 ^ 9 := by split at h <;> omega
      have := decN_len m.natAbs 9 h1
      split <;> simp <;> omega
  have hx : -18 ≤ x ∧ x ≤ 9 := by split at h <;> omega
  unfold textS
  split
  · have : (decN x.natAbs).length ≤ 2 := decN_len _ 2 (by omega)
    simp only [List.length_append, List.length_cons, List.length_nil]
    omega
  · have := (letter_reads ((x + 15) / 3).toNat (by omega)).2.2
    simp only [List.length_append, List.length_replicate]
    omega
theorem tmod10 (m : Int) : m.tmod 10 = 0 ↔ m.natAbs % 10 = 0 := by
  rw [← Int.dvd_iff_tmod_eq_zero, ← Nat.dvd_iff_mod_eq_zero, ← Int.natAbs_dvd_natAbs]
  rfl
theorem parse_text (m x : Int) (h : okN m x) : parseS (textS m x) = (m, x, 0) := by
  have hl := text_len m x h
  unfold okN at h
  by_cases hm : m = 0
  · subst hm
    have h3 : x = 0 := by simpa using h
    subst h3
    decide
  · have h2 : m.tmod 10 ≠ 0 := fun e => by rw [if_pos e] at h; exact hm h.1
    rw [if_neg h2] at h
    have hn : m.natAbs % 10 ≠ 0 := fun e => h2 ((tmod10 m).2 e)
    have hp : 0 < m.natAbs := by omega
    have hs : (if decide (m < 0) = true then -(m.natAbs : Int) else m.natAbs) = m := by
      by_cases hneg : m < 0
      · simp [hneg]; omega
      · simp [hneg]; omega
    unfold textS at hl ⊢
    by_cases hx : x < -15
    · rw [if_pos hx] at hl ⊢
      rw [List.append_assoc, neg_split m hm] at hl ⊢
      have e1 := parse_sign (decide (m < 0)) (decN m.natAbs) ([101, 45] ++ decN x.natAbs) (decN_isD _) (decN_nil _ hp) (by
        split at hl <;> simp only [List.length_append, List.length_cons] at hl ⊢ <;> omega)
      simp only [decide_eq_true_eq] at e1
      rw [e1, body_plain _ _ ([101, 45] ++ decN x.natAbs) (-(x.natAbs : Int)) (decN_isD _) (decN_nil _ hp) (fun c hc => by rw [List.cons_append, List.head?_cons] at hc; cases hc; exact ⟨rfl, by decide⟩) (dec_two _ (by omega))]
      have e2 := fin_ok (decide (m < 0)) m.natAbs 0 (-(x.natAbs : Int)) x hp (by omega) hn (by omega) (by omega) (by omega)
      rw [Nat.pow_zero, Nat.mul_one] at e2
      rw [show digV (decN m.natAbs) = m.natAbs from digV_dec _, e2, hs]
    · rw [if_neg hx] at hl ⊢
      rw [List.append_assoc, neg_split m hm] at hl ⊢
      have e0 : ∀ r, decN m.natAbs ++ (List.replicate ((x + 15) % 3).toNat 48 ++ r) = (decN m.natAbs ++ List.replicate ((x + 15) % 3).toNat 48) ++ r := fun r => (List.append_assoc _ _ _).symm
      rw [e0] at hl ⊢
      have ad : ∀ c ∈ decN m.natAbs ++ List.replicate ((x + 15) % 3).toNat 48, isD c = true := by
        intro c hc
        rcases List.mem_append.1 hc with hc | hc
        · exact decN_isD _ c hc
        · rw [List.eq_of_mem_replicate hc]; decide
      have an : decN m.natAbs ++ List.replicate ((x + 15) % 3).toNat 48 ≠ [] := fun e => decN_nil _ hp (List.append_eq_nil_iff.1 e).1
      obtain ⟨l1, l2, l3⟩ := letter_reads ((x + 15) / 3).toNat (by omega)
      have e1 := parse_sign (decide (m < 0)) (decN m.natAbs ++ List.replicate ((x + 15) % 3).toNat 48) (letterS ((x + 15) / 3).toNat) ad an (by
        split at hl <;> simp only [List.length_append, List.length_cons] at hl ⊢ <;> omega)
      simp only [decide_eq_true_eq] at e1
      rw [e1, body_plain _ _ _ _ ad an l2 l1, digV_zeros, show digV (decN m.natAbs) = m.natAbs from digV_dec _]
      rw [fin_ok (decide (m < 0)) m.natAbs _ _ x hp (by omega) hn (by omega) (by omega) (by omega), hs]
theorem fin_right (neg : Bool) (m : Nat) (x : Int) : ((finS neg m x).2.2 = 0 ∧ okN (finS neg m x).1 (finS neg m x).2.1) ∨ finS neg m x = (0, 0, 30) := by
  unfold finS
  by_cases h0 : m = 0
  · rw [if_pos h0]
    exact .inl ⟨rfl, by unfold okN; simp⟩
  · rw [if_neg h0]
    by_cases h : (strip m x).1 ≤ 999999999 ∧ -18 ≤ (strip m x).2 ∧ (strip m x).2 ≤ 9
    · rw [if_pos h]
      obtain ⟨h1, h2⟩ := strip_ne m x (by omega)
      refine .inl ⟨rfl, ?_⟩
      unfold okN
      cases neg with
      | true =>
        simp only [if_true]
        rw [if_neg (fun q => h2 (by rw [tmod10] at q; omega))]
        omega
      | false =>
        simp only [Bool.false_eq_true, if_false]
        rw [if_neg (fun q => h2 (by rw [tmod10] at q; omega))]
        omega
    · rw [if_neg h]
      exact .inr rfl
theorem body_right (neg : Bool) (r : List Nat) : ((bodyS neg r).2.2 = 0 ∧ okN (bodyS neg r).1 (bodyS neg r).2.1) ∨ bodyS neg r = (0, 0, 30) ∨ bodyS neg r = (0, 0, 3) := by
  unfold bodyS
  split
  · exact .inr (.inr rfl)
  · split
    · split
      · exact .inr (.inr rfl)
      · split
        · exact .inr (.inr rfl)
        · rcases fin_right neg (digV (fr r ++ fr ‹_›)) (‹Int› - (fr ‹_›).length) with h | h
          · exact .inl h
          · exact .inr (.inl h)
    · split
      · exact .inr (.inr rfl)
      · rcases fin_right neg (digV (fr r)) ‹Int› with h | h
        · exact .inl h
        · exact .inr (.inl h)
theorem parse_right (l : List Nat) : ((parseS l).2.2 = 0 ∧ okN (parseS l).1 (parseS l).2.1) ∨ parseS l = (0, 0, 30) ∨ parseS l = (0, 0, 3) := by
  unfold parseS
  split
  · exact .inr (.inr rfl)
  · split
    · exact body_right _ _
    · exact body_right _ _
def decP (n : Nat) : List Nat := if n = 0 then [48] else decN n
theorem decP_spec (n : Nat) (h : n < 4294967296) : (∀ c ∈ decP n, isD c = true) ∧ decP n ≠ [] ∧ digV (decP n) = n ∧ (decP n).length ≤ 10 := by
  unfold decP
  split
  · rename_i e
    subst e
    decide
  · exact ⟨decN_isD n, decN_nil n (by omega), digV_dec n, decN_len n 10 (by omega)⟩
end Go.Proofs.YtfjelkjlfcafgaaGreatDoor.NumS
end
section
/- Texts of numbers: digits at the front; one digit. -/
namespace Go.Proofs.YtfjelkjlfcafgaaGreatDoor.NumT
open Go Go.RowKit Go.Proofs.YtfjelkjlfcafgaaGreatDoor.Ax Go.Proofs.YtfjelkjlfcafgaaGreatDoor.Ti Go.Proofs.YtfjelkjlfcafgaaGreatDoor.BigM Go.Proofs.YtfjelkjlfcafgaaGreatDoor.NumS Go.Proofs.YtfjelkjlfcafgaaGreatDoor.NumA
set_option linter.unusedSimpArgs false
set_option linter.unusedVariables false
set_option maxRecDepth 4000
set_option maxHeartbeats 2000000
theorem rTI : type_of% (cj @ti3 (cj @ti2 (cj @ti4 (cj @ti9 (cj @ti5 (cj @ti36 (cj @ti24 @ti25))))))) := cj @ti3 (cj @ti2 (cj @ti4 (cj @ti9 (cj @ti5 (cj @ti36 (cj @ti24 @ti25))))))

def bs (l : List Nat) : ByteArray := RefJ.bs l
theorem bs_size (l : List Nat) : (bs l).size = l.length := RefJ.bs_size l
theorem bs_append (a b : List Nat) : bs a ++ bs b = bs (a ++ b) := RefJ.bs_append a b
def By (l : List Nat) : Prop := ∀ c ∈ l, c < 256
theorem bs_get (l : List Nat) (h : By l) (k : Nat) : ((bs l).data.toList.getD k 0).toNat = l.getD k 0 := by
  show (((l.map UInt8.ofNat).toArray).toList.getD k 0).toNat = _
  rw [List.toList_toArray, List.getD_eq_getElem?_getD, List.getElem?_map, List.getD_eq_getElem?_getD]
  cases hk : l[k]? with
  | none => rfl
  | some c =>
    have := h c (List.mem_of_getElem? hk)
    simp [Nat.mod_eq_of_lt this]
theorem bs_all (b : ByteArray) : b = bs (b.data.toList.map UInt8.toNat) := by
  cases b with
  | mk d =>
    show _ = ByteArray.mk _
    congr 1
    rw [List.map_map]
    apply Array.ext'
    rw [List.toList_toArray]
    symm
    rw [show (UInt8.ofNat ∘ UInt8.toNat) = id by funext x; simp, List.map_id]
theorem by_all (b : ByteArray) : By (b.data.toList.map UInt8.toNat) := by
  intro c hc
  obtain ⟨x, _, rfl⟩ := List.mem_map.1 hc
  exact UInt8.toNat_lt x
theorem bs_slice (l : List Nat) (i j : Nat) : (bs l).extract i j = bs ((l.drop i).take (j - i)) := by
  have h : ((bs l).extract i j).data = (bs ((l.drop i).take (j - i))).data := by
    rw [ByteArray.data_extract]
    apply Array.ext'
    rw [Array.toList_extract]
    show List.extract ((l.map UInt8.ofNat).toArray).toList i j = (((l.drop i).take (j - i)).map UInt8.ofNat).toArray.toList
    rw [List.toList_toArray, List.toList_toArray, List.extract_eq_take_drop, List.map_take, List.map_drop]
  cases hx : (bs l).extract i j with
  | mk d =>
    rw [hx] at h
    cases hy : bs ((l.drop i).take (j - i)) with
    | mk e => rw [hy] at h; rw [show d = e from h]
theorem run_step (l : List Nat) (k : Nat) (hk : k < (fr l).length) : k < l.length ∧ isD (l.getD k 0) = true := by
  induction l generalizing k with
  | nil => simp [fr] at hk
  | cons c l ih =>
    rw [fr] at hk
    split at hk
    · rename_i hc
      cases k with
      | zero => exact ⟨by simp, by simpa using hc⟩
      | succ k =>
        have := ih k (by simpa using hk)
        exact ⟨by simpa using this.1, by simpa using this.2⟩
    · simp at hk
theorem run_stop (l : List Nat) (h : (fr l).length < l.length) : isD (l.getD (fr l).length 0) = false := by
  induction l with
  | nil => simp at h
  | cons c l ih =>
    rw [fr] at h ⊢
    split
    · rename_i hc
      rw [if_pos hc] at h
      simpa using ih (by simpa using h)
    · rename_i hc
      simpa using hc
theorem fr_le (l : List Nat) : (fr l).length ≤ l.length := by
  have := congrArg List.length (fr_bk l)
  rw [List.length_append] at this
  omega
theorem run_ax (l : List Nat) (h : By l) (hl : l.length ≤ 1000000000) : PCall Tryz.prog 49 [.v (.string (bs l))] (.v (.int .i64 (fr l).length)) := by
  refine pcall_of fun s => ?_
  have hle := fr_le l
  have l1 := bs_size l
  refine acall_of Tryz.func49 rfl rfl (by simp [Tryz.ntmps49]) ?_; rw [Tryz.ntmps49, Tryz.results49]
  refine go trivial ?_
  refine aw_loop (fun n e s' => ∃ k : Nat, n = (fr l).length - k ∧ k ≤ (fr l).length ∧ e.n = 23 ∧ e.m 0 = .v (.string (bs l)) ∧ e.m 3 = .v (.int .i64 k) ∧ s' = s) (fr l).length ?_ ?_
  · refine ⟨0, ?_⟩
    refine rn trivial ?_
    exact ⟨by omega, by omega, rfl⟩
  · rintro n e s' ⟨k, rfl, hk, h1, k0, k3, rfl⟩
    have hg := bs_get l h k
    have z3 : (k : Int) + 1 = ((k + 1 : Nat) : Int) := rfl
    by_cases hk2 : k < (fr l).length
    · obtain ⟨r1, r2⟩ := run_step l k hk2
      obtain ⟨d1, d2⟩ := (isD_iff _).1 r2
      clear r2
      generalize l.getD k 0 = c at *
      refine go (cj rTI (cj @h1 (cj @k0 (cj @k3 (cj @l1 @hg))))) ?_
      rw [then_normal]
      refine ifs ?_ ?_ <;> first | exact nope | intro hb
      refine go (cj @h1 @k3) ?_
      simp only [block_normal, loop_normal]
      refine ⟨(fr l).length - (k + 1), by omega, k + 1, rfl, by omega, ?_⟩
      exact rn0 (cj @h1 (cj @k0 @z3))
    · obtain rfl : k = (fr l).length := by omega
      by_cases hk3 : (fr l).length < l.length
      · have r2 := run_stop l hk3
        have r3 : ¬ (48 ≤ l.getD (fr l).length 0 ∧ l.getD (fr l).length 0 ≤ 57) := fun h => by rw [(isD_iff _).2 h] at r2; cases r2
        clear r2
        generalize l.getD (fr l).length 0 = c at *
        by_cases c1 : 48 ≤ c
        · have c2 : ¬ c ≤ 57 := fun h => r3 ⟨c1, h⟩
          clear r3
          refine go (cj rTI (cj @h1 (cj @k0 (cj @k3 (cj @l1 @hg))))) ?_
          rw [then_normal]
          refine ifs ?_ ?_ <;> first | exact nope | intro hb
          exact go0 (cj @h1 @k3)
        · clear r3
          refine go (cj rTI (cj @h1 (cj @k0 (cj @k3 (cj @l1 @hg))))) ?_
          rw [then_normal]
          refine ifs ?_ ?_ <;> first | exact nope | intro hb
          exact go0 (cj @h1 @k3)
      · refine go (cj rTI (cj @h1 (cj @k0 (cj @k3 @l1)))) ?_
        rw [then_normal]
        refine ifs ?_ ?_ <;> first | exact nope | intro hb
        exact go0 (cj @h1 @k3)
end Go.Proofs.YtfjelkjlfcafgaaGreatDoor.NumT
end
section
/- Texts of numbers: the document's tail, Text. -/
namespace Go.Proofs.YtfjelkjlfcafgaaGreatDoor.NumU
open Go Go.RowKit Go.Proofs.YtfjelkjlfcafgaaGreatDoor.Ax Go.Proofs.YtfjelkjlfcafgaaGreatDoor.Ti Go.Proofs.YtfjelkjlfcafgaaGreatDoor.BigM Go.Proofs.YtfjelkjlfcafgaaGreatDoor.NumS Go.Proofs.YtfjelkjlfcafgaaGreatDoor.NumA Go.Proofs.YtfjelkjlfcafgaaGreatDoor.NumT
set_option linter.unusedSimpArgs false
set_option linter.unusedVariables false
set_option maxRecDepth 4000
set_option maxHeartbeats 2000000
theorem rTI : type_of% (cj @ti3 (cj @ti2 (cj @ti4 (cj @ti9 (cj @ti5 (cj @ti36 (cj @ti24 @ti25))))))) := cj @ti3 (cj @ti2 (cj @ti4 (cj @ti9 (cj @ti5 (cj @ti36 (cj @ti24 @ti25))))))

theorem bs_inj {l m : List Nat} (hl : By l) (hm : By m) (h : (bs l).data.toList = (bs m).data.toList) : l = m := by
  apply List.ext_getElem
  · have := congrArg List.length h
    rw [show (bs l).data.toList.length = (bs l).size from rfl, show (bs m).data.toList.length = (bs m).size from rfl, bs_size, bs_size] at this
    exact this
  · intro k h1 h2
    have a := bs_get l hl k
    have b := bs_get m hm k
    rw [h, b] at a
    rw [List.getD_eq_getElem?_getD, List.getElem?_eq_getElem h2, List.getD_eq_getElem?_getD, List.getElem?_eq_getElem h1] at a
    exact a.symm
theorem bs_beq (l m : List Nat) (hl : By l) (hm : By m) : ((bs l).toList == (bs m).toList) = decide (l = m) := by
  rw [ByteArray.toList_eq, ByteArray.toList_eq]
  by_cases e : l = m
  · rw [e, decide_eq_true rfl]
    exact beq_self_eq_true _
  · rw [decide_eq_false e]
    exact beq_eq_false_iff_ne.2 fun h => e (bs_inj hl hm h)
theorem letter_by (k : Nat) : By (letterS k) := by
  by_cases h : k < 10
  · have : k = 0 ∨ k = 1 ∨ k = 2 ∨ k = 3 ∨ k = 4 ∨ k = 5 ∨ k = 6 ∨ k = 7 ∨ k = 8 ∨ k = 9 := by omega
    rcases this with rfl | rfl | rfl | rfl | rfl | rfl | rfl | rfl | rfl | rfl <;> (intro c hc; simp [letterS] at hc; try omega)
  · intro c hc
    unfold letterS at hc
    rw [List.getD_eq_getElem?_getD, List.getElem?_eq_none (by simp; omega)] at hc
    cases hc
def tailV : Option Int → AV
  | some e => .tp [.v (.int .i64 e), .v (.bool true)]
  | none => .tp [.v (.int .i64 0), .v (.bool false)]
def expL : List Nat → Option Int
  | 101 :: r => expS r
  | _ => none
theorem letters_exp (l : List Nat) (h : ∀ k, k < 10 → l ≠ letterS k) : lettersS l = expL l := by
  have h0 := h 0 (by decide)
  have h1 := h 1 (by decide)
  have h2 := h 2 (by decide)
  have h3 := h 3 (by decide)
  have h4 := h 4 (by decide)
  have h5 := h 5 (by decide)
  have h6 := h 6 (by decide)
  have h7 := h 7 (by decide)
  have h8 := h 8 (by decide)
  have h9 := h 9 (by decide)
  simp only [letterS, List.getD_cons_zero, List.getD_cons_succ] at h0 h1 h2 h3 h4 h5 h6 h7 h8 h9
  unfold lettersS expL
  split <;> simp_all
theorem two_bad (d : List Nat) (h : ¬ (d.length = 1 ∨ d.length = 2)) : two d = none := by
  unfold two
  split
  · simp at h
  · simp at h
  · rfl
theorem two_good (d : List Nat) (h1 : 1 ≤ d.length) (h2 : d.length ≤ 2) : two d = if ∀ c ∈ d, isD c = true then some (digV d : Int) else none := by
  match d with
  | [] => simp at h1
  | [a] =>
    show (if isD a then some ((a : Int) - 48) else none) = _
    by_cases q : isD a = true
    · have := (isD_iff a).1 q
      rw [if_pos q, if_pos (by simpa using q)]
      congr 1
      simp [digV]
      omega
    · rw [if_neg q, if_neg (by simpa using q)]
  | [a, b] =>
    show (if isD a && isD b then some (10 * ((a : Int) - 48) + ((b : Int) - 48)) else none) = _
    by_cases q : isD a = true ∧ isD b = true
    · have h3 := (isD_iff a).1 q.1
      have h4 := (isD_iff b).1 q.2
      rw [if_pos (by simp [q.1, q.2]), if_pos (by simpa using q)]
      congr 1
      simp [digV]
      omega
    · rw [if_neg (by simpa using q), if_neg (by simpa using q)]
  | _ :: _ :: _ :: _ => simp at h2
theorem digV_two (d : List Nat) (hl : d.length ≤ 2) (h : ∀ c ∈ d, isD c = true) : digV d ≤ 99 := by
  match d with
  | [] => simp [digV]
  | [a] =>
    have := (isD_iff a).1 (h a (by simp))
    simp [digV]
    omega
  | [a, b] =>
    have h3 := (isD_iff a).1 (h a (by simp))
    have h4 := (isD_iff b).1 (h b (by simp))
    simp [digV]
    omega
  | _ :: _ :: _ :: _ => simp at hl
theorem exp_ways (r : List Nat) : (∃ d, 101 :: r = 101 :: 45 :: d ∧ expS r = (two d).map fun v => -v) ∨ (∃ d, 101 :: r = 101 :: 43 :: d ∧ expS r = two d) ∨ (∃ d, 101 :: r = 101 :: d ∧ expS r = two d ∧ r.getD 0 0 ≠ 45 ∧ r.getD 0 0 ≠ 43) := by
  unfold expS
  split
  · exact .inl ⟨_, rfl, rfl⟩
  · exact .inr (.inl ⟨_, rfl, rfl⟩)
  · rename_i h1 h2
    refine .inr (.inr ⟨r, rfl, rfl, ?_, ?_⟩)
    · cases r with
      | nil => simp
      | cons a r =>
        intro e
        exact h1 r (by simpa using e)
    · cases r with
      | nil => simp
      | cons a r =>
        intro e
        exact h2 r (by simpa using e)
end Go.Proofs.YtfjelkjlfcafgaaGreatDoor.NumU
end
section
/- The contracts of the library that the walks of this claim lean on, laid for this translation by the kit. -/
namespace Go.Proofs
open Go.Shelf
def Tryz.lays161_ren : Go.Shelf.Ren := ⟨fun | 161 => 52 | 231 => 103 | 227 => 104 | 233 => 105 | 235 => 106 | 228 => 146 | 197 => 147 | 151 => 148 | 260 => 179 | 152 => 180 | 137 => 89 | 119 => 194 | 224 => 195 | 225 => 196 | 217 => 141 | 266 => 178 | n => n, fun | 9 => 9 | 4 => 4 | 3 => 3 | 5 => 5 | 117 => 156 | 116 => 155 | 0 => 0 | 124 => 159 | 105 => 192 | 21 => 21 | 119 => 235 | 46 => 198 | 139 => 238 | 138 => 237 | n => n, fun | 3 => 4 | 4 => 5 | n => n⟩
theorem Tryz.lays161 : Go.Proofs.Lays.n161 Tryz.prog Tryz.lays161_ren := {
  mixed := by kernel_rfl
  f119 := Tryz.func194.trans (congrArg some (by kernel_rfl))
  f137 := Tryz.func89.trans (congrArg some (by kernel_rfl))
  f151 := Tryz.func148.trans (congrArg some (by kernel_rfl))
  f152 := Tryz.func180.trans (congrArg some (by kernel_rfl))
  f161 := Tryz.func52.trans (congrArg some (by kernel_rfl))
  f197 := Tryz.func147.trans (congrArg some (by kernel_rfl))
  f217 := Tryz.func141.trans (congrArg some (by kernel_rfl))
  f224 := Tryz.func195.trans (congrArg some (by kernel_rfl))
  f225 := Tryz.func196.trans (congrArg some (by kernel_rfl))
  f227 := Tryz.func104.trans (congrArg some (by kernel_rfl))
  f228 := Tryz.func146.trans (congrArg some (by kernel_rfl))
  f231 := Tryz.func103.trans (congrArg some (by kernel_rfl))
  f233 := Tryz.func105.trans (congrArg some (by kernel_rfl))
  f235 := Tryz.func106.trans (congrArg some (by kernel_rfl))
  f260 := Tryz.func179.trans (congrArg some (by kernel_rfl))
  f266 := Tryz.func178.trans (congrArg some (by kernel_rfl))
  t0 := Tryz.underlying0
  a0 := Tryz.isAgg0
  z0 := Tryz.sizeOf0
  v0 := Tryz.zeroValue0
  t3 := Tryz.underlying3
  a3 := Tryz.isAgg3
  z3 := Tryz.sizeOf3
  v3 := Tryz.zeroValue3
  t4 := Tryz.underlying4
  a4 := Tryz.isAgg4
  z4 := Tryz.sizeOf4
  v4 := Tryz.zeroValue4
  t5 := Tryz.underlying5
  a5 := Tryz.isAgg5
  z5 := Tryz.sizeOf5
  v5 := Tryz.zeroValue5
  t9 := Tryz.underlying9
  a9 := Tryz.isAgg9
  z9 := Tryz.sizeOf9
  v9 := Tryz.zeroValue9
  t21 := Tryz.underlying21
  a21 := Tryz.isAgg21
  z21 := Tryz.sizeOf21
  v21 := Tryz.zeroValue21
  t46 := Tryz.underlying198
  a46 := Tryz.isAgg198
  z46 := Tryz.sizeOf198
  v46 := Tryz.zeroValue198
  t105 := Tryz.underlying192
  a105 := Tryz.isAgg192
  z105 := Tryz.sizeOf192
  v105 := Tryz.zeroValue192
  t116 := Tryz.underlying155
  a116 := Tryz.isAgg155
  z116 := Tryz.sizeOf155
  t117 := Tryz.underlying156
  a117 := Tryz.isAgg156
  z117 := Tryz.sizeOf156
  v117 := Tryz.zeroValue156
  t119 := Tryz.underlying235
  a119 := Tryz.isAgg235
  z119 := Tryz.sizeOf235
  t124 := Tryz.underlying159
  a124 := Tryz.isAgg159
  z124 := Tryz.sizeOf159
  v124 := Tryz.zeroValue159
  t138 := Tryz.underlying237
  a138 := Tryz.isAgg237
  z138 := Tryz.sizeOf237
  v138 := Tryz.zeroValue237
  t139 := Tryz.underlying238
  a139 := Tryz.isAgg238
  z139 := Tryz.sizeOf238
  v139 := Tryz.zeroValue238
  g3 := by kernel_rfl
  g4 := by kernel_rfl }
open Go.RowKit in
theorem Tryz.strings_TrimLeft_one (s : ByteArray) (c : UInt8) (hc : c.toNat < 128) (w : World) :
    Calls Tryz.prog 52 #[.string s, .string ⟨#[c]⟩] w fun e w' => e = .returned (.string ⟨(Lib.trimLeftB s.data.toList c).toArray⟩) ∧ w' = w := Any.strings_TrimLeft_one Tryz.lays161 s c hc w
def Tryz.lays162_ren : Go.Shelf.Ren := ⟨fun | 162 => 53 | 232 => 107 | 227 => 104 | 234 => 108 | 236 => 109 | 228 => 146 | 271 => 149 | 151 => 148 | 120 => 181 | 197 => 147 | 152 => 180 | 260 => 179 | 137 => 89 | 119 => 194 | 224 => 195 | 225 => 196 | 217 => 141 | 266 => 178 | n => n, fun | 9 => 9 | 4 => 4 | 3 => 3 | 5 => 5 | 117 => 156 | 116 => 155 | 0 => 0 | 124 => 159 | 21 => 21 | 105 => 192 | 46 => 198 | 119 => 235 | 139 => 238 | 138 => 237 | n => n, fun | 3 => 4 | 4 => 5 | n => n⟩
theorem Tryz.lays162 : Go.Proofs.Lays.n162 Tryz.prog Tryz.lays162_ren := {
  mixed := by kernel_rfl
  f119 := Tryz.func194.trans (congrArg some (by kernel_rfl))
  f120 := Tryz.func181.trans (congrArg some (by kernel_rfl))
  f137 := Tryz.func89.trans (congrArg some (by kernel_rfl))
  f151 := Tryz.func148.trans (congrArg some (by kernel_rfl))
  f152 := Tryz.func180.trans (congrArg some (by kernel_rfl))
  f162 := Tryz.func53.trans (congrArg some (by kernel_rfl))
  f197 := Tryz.func147.trans (congrArg some (by kernel_rfl))
  f217 := Tryz.func141.trans (congrArg some (by kernel_rfl))
  f224 := Tryz.func195.trans (congrArg some (by kernel_rfl))
  f225 := Tryz.func196.trans (congrArg some (by kernel_rfl))
  f227 := Tryz.func104.trans (congrArg some (by kernel_rfl))
  f228 := Tryz.func146.trans (congrArg some (by kernel_rfl))
  f232 := Tryz.func107.trans (congrArg some (by kernel_rfl))
  f234 := Tryz.func108.trans (congrArg some (by kernel_rfl))
  f236 := Tryz.func109.trans (congrArg some (by kernel_rfl))
  f260 := Tryz.func179.trans (congrArg some (by kernel_rfl))
  f266 := Tryz.func178.trans (congrArg some (by kernel_rfl))
  f271 := Tryz.func149.trans (congrArg some (by kernel_rfl))
  t0 := Tryz.underlying0
  a0 := Tryz.isAgg0
  z0 := Tryz.sizeOf0
  v0 := Tryz.zeroValue0
  t3 := Tryz.underlying3
  a3 := Tryz.isAgg3
  z3 := Tryz.sizeOf3
  v3 := Tryz.zeroValue3
  t4 := Tryz.underlying4
  a4 := Tryz.isAgg4
  z4 := Tryz.sizeOf4
  v4 := Tryz.zeroValue4
  t5 := Tryz.underlying5
  a5 := Tryz.isAgg5
  z5 := Tryz.sizeOf5
  v5 := Tryz.zeroValue5
  t9 := Tryz.underlying9
  a9 := Tryz.isAgg9
  z9 := Tryz.sizeOf9
  v9 := Tryz.zeroValue9
  t21 := Tryz.underlying21
  a21 := Tryz.isAgg21
  z21 := Tryz.sizeOf21
  v21 := Tryz.zeroValue21
  t46 := Tryz.underlying198
  a46 := Tryz.isAgg198
  z46 := Tryz.sizeOf198
  v46 := Tryz.zeroValue198
  t105 := Tryz.underlying192
  a105 := Tryz.isAgg192
  z105 := Tryz.sizeOf192
  v105 := Tryz.zeroValue192
  t116 := Tryz.underlying155
  a116 := Tryz.isAgg155
  z116 := Tryz.sizeOf155
  t117 := Tryz.underlying156
  a117 := Tryz.isAgg156
  z117 := Tryz.sizeOf156
  v117 := Tryz.zeroValue156
  t119 := Tryz.underlying235
  a119 := Tryz.isAgg235
  z119 := Tryz.sizeOf235
  t124 := Tryz.underlying159
  a124 := Tryz.isAgg159
  z124 := Tryz.sizeOf159
  v124 := Tryz.zeroValue159
  t138 := Tryz.underlying237
  a138 := Tryz.isAgg237
  z138 := Tryz.sizeOf237
  v138 := Tryz.zeroValue237
  t139 := Tryz.underlying238
  a139 := Tryz.isAgg238
  z139 := Tryz.sizeOf238
  v139 := Tryz.zeroValue238
  g3 := by kernel_rfl
  g4 := by kernel_rfl }
open Go.RowKit in
theorem Tryz.strings_TrimRight_one (s : ByteArray) (c : UInt8) (hc : c.toNat < 128) (w : World) (hs : s.size ≤ 9223372036854775807) :
    Calls Tryz.prog 53 #[.string s, .string ⟨#[c]⟩] w fun e w' => e = .returned (.string ⟨(Lib.trimRightB s.data.toList c).toArray⟩) ∧ w' = w := Any.strings_TrimRight_one Tryz.lays162 s c hc w hs
def Tryz.lays137_ren : Go.Shelf.Ren := ⟨fun | 137 => 89 | 217 => 141 | 266 => 178 | n => n, fun | 9 => 9 | 5 => 5 | 3 => 3 | n => n, fun | n => n⟩
theorem Tryz.lays137 : Go.Proofs.Lays.n137 Tryz.prog Tryz.lays137_ren := {
  mixed := by kernel_rfl
  f137 := Tryz.func89.trans (congrArg some (by kernel_rfl))
  f217 := Tryz.func141.trans (congrArg some (by kernel_rfl))
  f266 := Tryz.func178.trans (congrArg some (by kernel_rfl))
  t3 := Tryz.underlying3
  a3 := Tryz.isAgg3
  z3 := Tryz.sizeOf3
  v3 := Tryz.zeroValue3
  t5 := Tryz.underlying5
  a5 := Tryz.isAgg5
  z5 := Tryz.sizeOf5
  v5 := Tryz.zeroValue5
  t9 := Tryz.underlying9
  a9 := Tryz.isAgg9
  z9 := Tryz.sizeOf9
  v9 := Tryz.zeroValue9 }
open Go.RowKit in
theorem Tryz.strings_IndexByte (s : ByteArray) (c : Int) (w : World) :
    Calls Tryz.prog 89 #[.string s, .int .u8 c] w fun e w' => e = .returned (.int .i64 (Lib.indexByte s.data.toList c.toNat.toUInt8)) ∧ w' = w := Any.strings_IndexByte Tryz.lays137 s c w
def Tryz.lays103_ren : Go.Shelf.Ren := ⟨fun | 103 => 48 | 210 => 100 | 206 => 101 | n => n, fun | 9 => 9 | 4 => 4 | 24 => 93 | 3 => 3 | n => n, fun | n => n⟩
theorem Tryz.lays103 : Go.Proofs.Lays.n103 Tryz.prog Tryz.lays103_ren := {
  mixed := by kernel_rfl
  f103 := Tryz.func48.trans (congrArg some (by kernel_rfl))
  f206 := Tryz.func101.trans (congrArg some (by kernel_rfl))
  f210 := Tryz.func100.trans (congrArg some (by kernel_rfl))
  t3 := Tryz.underlying3
  a3 := Tryz.isAgg3
  z3 := Tryz.sizeOf3
  v3 := Tryz.zeroValue3
  t4 := Tryz.underlying4
  a4 := Tryz.isAgg4
  z4 := Tryz.sizeOf4
  v4 := Tryz.zeroValue4
  t9 := Tryz.underlying9
  a9 := Tryz.isAgg9
  z9 := Tryz.sizeOf9
  v9 := Tryz.zeroValue9
  t24 := Tryz.underlying93
  a24 := Tryz.isAgg93
  z24 := Tryz.sizeOf93
  v24 := Tryz.zeroValue93 }
open Go.RowKit in
theorem Tryz.strings_CutPrefix (s p : ByteArray) (w : World) :
    Calls Tryz.prog 48 #[.string s, .string p] w fun e w' => e = .returned (.tuple #[.string ⟨(Lib.trimPrefix s.data.toList p.data.toList).toArray⟩, .bool (Lib.hasPrefix s.data.toList p.data.toList)]) ∧ w' = w := Any.strings_CutPrefix Tryz.lays103 s p w
def Tryz.lays172_ren : Go.Shelf.Ren := ⟨fun | 172 => 102 | 244 => 145 | 245 => 111 | 247 => 110 | 279 => 151 | 280 => 152 | 281 => 153 | 282 => 154 | 287 => 150 | 316 => 184 | 171 => 64 | 205 => 185 | 321 => 182 | 322 => 183 | 243 => 119 | 246 => 118 | 283 => 156 | 284 => 157 | 285 => 158 | 286 => 159 | 129 => 187 | 317 => 186 | 318 => 188 | 319 => 189 | 320 => 190 | 337 => 197 | 338 => 198 | n => n, fun | 9 => 9 | 3 => 3 | 75 => 101 | 76 => 151 | 4 => 4 | 5 => 5 | 167 => 195 | 37 => 116 | 0 => 0 | 85 => 102 | 2 => 2 | 168 => 199 | 53 => 165 | 175 => 196 | 46 => 198 | 210 => 223 | 127 => 241 | 145 => 244 | 143 => 242 | 21 => 21 | 171 => 202 | 173 => 205 | 212 => 227 | 51 => 35 | 20 => 20 | 213 => 228 | 232 => 249 | 233 => 250 | 80 => 147 | n => n, fun | 15 => 0 | 16 => 1 | 17 => 2 | 18 => 6 | 19 => 7 | n => n⟩
theorem Tryz.lays172 : Go.Proofs.Lays.n172 Tryz.prog Tryz.lays172_ren := {
  mixed := by kernel_rfl
  f129 := Tryz.func187.trans (congrArg some (by kernel_rfl))
  f171 := Tryz.func64.trans (congrArg some (by kernel_rfl))
  f172 := Tryz.func102.trans (congrArg some (by kernel_rfl))
  f205 := Tryz.func185.trans (congrArg some (by kernel_rfl))
  f243 := Tryz.func119.trans (congrArg some (by kernel_rfl))
  f244 := Tryz.func145.trans (congrArg some (by kernel_rfl))
  f245 := Tryz.func111.trans (congrArg some (by kernel_rfl))
  f246 := Tryz.func118.trans (congrArg some (by kernel_rfl))
  f247 := Tryz.func110.trans (congrArg some (by kernel_rfl))
  f279 := Tryz.func151.trans (congrArg some (by kernel_rfl))
  f280 := Tryz.func152.trans (congrArg some (by kernel_rfl))
  f281 := Tryz.func153.trans (congrArg some (by kernel_rfl))
  f282 := Tryz.func154.trans (congrArg some (by kernel_rfl))
  f283 := Tryz.func156.trans (congrArg some (by kernel_rfl))
  f284 := Tryz.func157.trans (congrArg some (by kernel_rfl))
  f285 := Tryz.func158.trans (congrArg some (by kernel_rfl))
  f286 := Tryz.func159.trans (congrArg some (by kernel_rfl))
  f287 := Tryz.func150.trans (congrArg some (by kernel_rfl))
  f316 := Tryz.func184.trans (congrArg some (by kernel_rfl))
  f317 := Tryz.func186.trans (congrArg some (by kernel_rfl))
  f318 := Tryz.func188.trans (congrArg some (by kernel_rfl))
  f319 := Tryz.func189.trans (congrArg some (by kernel_rfl))
  f320 := Tryz.func190.trans (congrArg some (by kernel_rfl))
  f321 := Tryz.func182.trans (congrArg some (by kernel_rfl))
  f322 := Tryz.func183.trans (congrArg some (by kernel_rfl))
  f337 := Tryz.func197.trans (congrArg some (by kernel_rfl))
  f338 := Tryz.func198.trans (congrArg some (by kernel_rfl))
  t0 := Tryz.underlying0
  a0 := Tryz.isAgg0
  z0 := Tryz.sizeOf0
  v0 := Tryz.zeroValue0
  t2 := Tryz.underlying2
  a2 := Tryz.isAgg2
  z2 := Tryz.sizeOf2
  v2 := Tryz.zeroValue2
  t3 := Tryz.underlying3
  a3 := Tryz.isAgg3
  z3 := Tryz.sizeOf3
  v3 := Tryz.zeroValue3
  t4 := Tryz.underlying4
  a4 := Tryz.isAgg4
  z4 := Tryz.sizeOf4
  v4 := Tryz.zeroValue4
  t5 := Tryz.underlying5
  a5 := Tryz.isAgg5
  z5 := Tryz.sizeOf5
  v5 := Tryz.zeroValue5
  t9 := Tryz.underlying9
  a9 := Tryz.isAgg9
  z9 := Tryz.sizeOf9
  v9 := Tryz.zeroValue9
  t20 := Tryz.underlying20
  a20 := Tryz.isAgg20
  z20 := Tryz.sizeOf20
  v20 := Tryz.zeroValue20
  t21 := Tryz.underlying21
  a21 := Tryz.isAgg21
  z21 := Tryz.sizeOf21
  v21 := Tryz.zeroValue21
  t37 := Tryz.underlying116
  a37 := Tryz.isAgg116
  z37 := Tryz.sizeOf116
  v37 := Tryz.zeroValue116
  t46 := Tryz.underlying198
  a46 := Tryz.isAgg198
  z46 := Tryz.sizeOf198
  v46 := Tryz.zeroValue198
  t51 := Tryz.underlying35
  a51 := Tryz.isAgg35
  z51 := Tryz.sizeOf35
  v51 := Tryz.zeroValue35
  t53 := Tryz.underlying165
  a53 := Tryz.isAgg165
  z53 := Tryz.sizeOf165
  v53 := Tryz.zeroValue165
  t75 := Tryz.underlying101
  a75 := Tryz.isAgg101
  z75 := Tryz.sizeOf101
  v75 := Tryz.zeroValue101
  t76 := Tryz.underlying151
  a76 := Tryz.isAgg151
  z76 := Tryz.sizeOf151
  v76 := Tryz.zeroValue151
  t85 := Tryz.underlying102
  a85 := Tryz.isAgg102
  z85 := Tryz.sizeOf102
  v85 := Tryz.zeroValue102
  t127 := Tryz.underlying241
  a127 := Tryz.isAgg241
  z127 := Tryz.sizeOf241
  v127 := Tryz.zeroValue241
  t143 := Tryz.underlying242
  a143 := Tryz.isAgg242
  z143 := Tryz.sizeOf242
  v143 := Tryz.zeroValue242
  t145 := Tryz.underlying244
  a145 := Tryz.isAgg244
  z145 := Tryz.sizeOf244
  v145 := Tryz.zeroValue244
  t167 := Tryz.underlying195
  a167 := Tryz.isAgg195
  z167 := Tryz.sizeOf195
  v167 := Tryz.zeroValue195
  t168 := Tryz.underlying199
  a168 := Tryz.isAgg199
  z168 := Tryz.sizeOf199
  v168 := Tryz.zeroValue199
  t171 := Tryz.underlying202
  a171 := Tryz.isAgg202
  z171 := Tryz.sizeOf202
  v171 := Tryz.zeroValue202
  t173 := Tryz.underlying205
  a173 := Tryz.isAgg205
  z173 := Tryz.sizeOf205
  v173 := Tryz.zeroValue205
  t175 := Tryz.underlying196
  a175 := Tryz.isAgg196
  z175 := Tryz.sizeOf196
  v175 := Tryz.zeroValue196
  t210 := Tryz.underlying223
  a210 := Tryz.isAgg223
  z210 := Tryz.sizeOf223
  v210 := Tryz.zeroValue223
  t212 := Tryz.underlying227
  a212 := Tryz.isAgg227
  z212 := Tryz.sizeOf227
  v212 := Tryz.zeroValue227
  t213 := Tryz.underlying228
  a213 := Tryz.isAgg228
  z213 := Tryz.sizeOf228
  t232 := Tryz.underlying249
  a232 := Tryz.isAgg249
  z232 := Tryz.sizeOf249
  v232 := Tryz.zeroValue249
  t233 := Tryz.underlying250
  a233 := Tryz.isAgg250
  z233 := Tryz.sizeOf250
  v233 := Tryz.zeroValue250
  g15 := by kernel_rfl
  g16 := by kernel_rfl
  g17 := by kernel_rfl
  g18 := by kernel_rfl
  g19 := by kernel_rfl }
open Go.RowKit in
theorem Tryz.strconv_Atoi (s : ByteArray) (n : Int) (hl : s.size ≤ 18) (h : Lib.atoi s.data.toList = some n) (w : World) :
    Calls Tryz.prog 102 #[.string s] w fun e w' => e = .returned (.tuple #[.int .i64 n, .nilIface]) ∧ ∃ t, w' = Lib.bytesWorld w 5 t := Any.strconv_Atoi Tryz.lays172 s n hl h w
def Tryz.laysM171_ren : Go.Shelf.Ren := ⟨fun | 171 => 64 | 243 => 119 | 246 => 118 | 283 => 156 | 284 => 157 | 285 => 158 | 286 => 159 | 129 => 187 | 317 => 186 | 318 => 188 | 319 => 189 | 320 => 190 | 337 => 197 | 338 => 198 | n => n, fun | 3 => 3 | 9 => 9 | 2 => 2 | 4 => 4 | 171 => 202 | 0 => 0 | 53 => 165 | 37 => 116 | 5 => 5 | 173 => 205 | 212 => 227 | 51 => 35 | 20 => 20 | 213 => 228 | 46 => 198 | 232 => 249 | 233 => 250 | n => n, fun | 17 => 2 | 18 => 6 | 19 => 7 | n => n⟩
theorem Tryz.laysM171 : Go.Proofs.LaysM.n171 Tryz.prog Tryz.laysM171_ren := {
  mixed := by kernel_rfl
  f129 := Tryz.func187.trans (congrArg some (by kernel_rfl))
  f171 := Tryz.func64.trans (congrArg some (by kernel_rfl))
  f243 := Tryz.func119.trans (congrArg some (by kernel_rfl))
  f246 := Tryz.func118.trans (congrArg some (by kernel_rfl))
  f283 := Tryz.func156.trans (congrArg some (by kernel_rfl))
  f284 := Tryz.func157.trans (congrArg some (by kernel_rfl))
  f285 := Tryz.func158.trans (congrArg some (by kernel_rfl))
  f286 := Tryz.func159.trans (congrArg some (by kernel_rfl))
  f317 := Tryz.func186.trans (congrArg some (by kernel_rfl))
  f318 := Tryz.func188.trans (congrArg some (by kernel_rfl))
  f319 := Tryz.func189.trans (congrArg some (by kernel_rfl))
  f320 := Tryz.func190.trans (congrArg some (by kernel_rfl))
  f337 := Tryz.func197.trans (congrArg some (by kernel_rfl))
  f338 := Tryz.func198.trans (congrArg some (by kernel_rfl))
  t0 := Tryz.underlying0
  a0 := Tryz.isAgg0
  z0 := Tryz.sizeOf0
  v0 := Tryz.zeroValue0
  t2 := Tryz.underlying2
  a2 := Tryz.isAgg2
  z2 := Tryz.sizeOf2
  v2 := Tryz.zeroValue2
  t3 := Tryz.underlying3
  a3 := Tryz.isAgg3
  z3 := Tryz.sizeOf3
  v3 := Tryz.zeroValue3
  t4 := Tryz.underlying4
  a4 := Tryz.isAgg4
  z4 := Tryz.sizeOf4
  v4 := Tryz.zeroValue4
  t5 := Tryz.underlying5
  a5 := Tryz.isAgg5
  z5 := Tryz.sizeOf5
  v5 := Tryz.zeroValue5
  t9 := Tryz.underlying9
  a9 := Tryz.isAgg9
  z9 := Tryz.sizeOf9
  v9 := Tryz.zeroValue9
  t20 := Tryz.underlying20
  a20 := Tryz.isAgg20
  z20 := Tryz.sizeOf20
  v20 := Tryz.zeroValue20
  t37 := Tryz.underlying116
  a37 := Tryz.isAgg116
  z37 := Tryz.sizeOf116
  v37 := Tryz.zeroValue116
  t46 := Tryz.underlying198
  a46 := Tryz.isAgg198
  z46 := Tryz.sizeOf198
  v46 := Tryz.zeroValue198
  t51 := Tryz.underlying35
  a51 := Tryz.isAgg35
  z51 := Tryz.sizeOf35
  v51 := Tryz.zeroValue35
  t53 := Tryz.underlying165
  a53 := Tryz.isAgg165
  z53 := Tryz.sizeOf165
  v53 := Tryz.zeroValue165
  t171 := Tryz.underlying202
  a171 := Tryz.isAgg202
  z171 := Tryz.sizeOf202
  v171 := Tryz.zeroValue202
  t173 := Tryz.underlying205
  a173 := Tryz.isAgg205
  z173 := Tryz.sizeOf205
  v173 := Tryz.zeroValue205
  t212 := Tryz.underlying227
  a212 := Tryz.isAgg227
  z212 := Tryz.sizeOf227
  v212 := Tryz.zeroValue227
  t213 := Tryz.underlying228
  a213 := Tryz.isAgg228
  z213 := Tryz.sizeOf228
  t232 := Tryz.underlying249
  a232 := Tryz.isAgg249
  z232 := Tryz.sizeOf249
  v232 := Tryz.zeroValue249
  t233 := Tryz.underlying250
  a233 := Tryz.isAgg250
  z233 := Tryz.sizeOf250
  v233 := Tryz.zeroValue250
  g17 := by kernel_rfl
  g18 := by kernel_rfl
  g19 := by kernel_rfl
  i0 := by kernel_rfl
  i2 := by kernel_rfl
  i3 := by kernel_rfl
  i4 := by kernel_rfl
  i5 := by kernel_rfl
  i9 := by kernel_rfl
  i20 := by kernel_rfl
  i37 := by kernel_rfl
  i46 := by kernel_rfl
  i51 := by kernel_rfl
  i53 := by kernel_rfl
  i171 := by kernel_rfl
  i173 := by kernel_rfl
  i212 := by kernel_rfl
  i232 := by kernel_rfl
  i233 := by kernel_rfl
  m17 := by kernel_rfl
  m18 := by kernel_rfl
  m19 := by kernel_rfl }
open Go.RowKit Go.Sort Go.Lib in
theorem Tryz.strconv_Itoa (n : Int) (h0 : -9223372036854775808 ≤ n) (h1 : n ≤ 9223372036854775807) (w : World) (htab : Lib.TabIs Tryz.prog w "internal/strconv.uint64pow10" .u64 Lib.pow10Tab) :
    Calls Tryz.prog 64 #[.int .i64 n] w fun e w' => e = .returned (.string ⟨(Lib.itoa n).toArray⟩) ∧ ∃ k os, w' = grow (w.drewN k) os := Any.strconv_Itoa Tryz.laysM171 n h0 h1 w htab
def Tryz.lays171_ren : Go.Shelf.Ren := ⟨fun | 171 => 64 | 243 => 119 | 246 => 118 | 283 => 156 | 284 => 157 | 285 => 158 | 286 => 159 | 129 => 187 | 317 => 186 | 318 => 188 | 319 => 189 | 320 => 190 | 337 => 197 | 338 => 198 | n => n, fun | 3 => 3 | 9 => 9 | 2 => 2 | 4 => 4 | 171 => 202 | 0 => 0 | 53 => 165 | 37 => 116 | 5 => 5 | 173 => 205 | 212 => 227 | 51 => 35 | 20 => 20 | 213 => 228 | 46 => 198 | 232 => 249 | 233 => 250 | n => n, fun | 17 => 2 | 18 => 6 | 19 => 7 | n => n⟩
theorem Tryz.lays171 : Go.Proofs.Lays.n171 Tryz.prog Tryz.lays171_ren := {
  mixed := by kernel_rfl
  f129 := Tryz.func187.trans (congrArg some (by kernel_rfl))
  f171 := Tryz.func64.trans (congrArg some (by kernel_rfl))
  f243 := Tryz.func119.trans (congrArg some (by kernel_rfl))
  f246 := Tryz.func118.trans (congrArg some (by kernel_rfl))
  f283 := Tryz.func156.trans (congrArg some (by kernel_rfl))
  f284 := Tryz.func157.trans (congrArg some (by kernel_rfl))
  f285 := Tryz.func158.trans (congrArg some (by kernel_rfl))
  f286 := Tryz.func159.trans (congrArg some (by kernel_rfl))
  f317 := Tryz.func186.trans (congrArg some (by kernel_rfl))
  f318 := Tryz.func188.trans (congrArg some (by kernel_rfl))
  f319 := Tryz.func189.trans (congrArg some (by kernel_rfl))
  f320 := Tryz.func190.trans (congrArg some (by kernel_rfl))
  f337 := Tryz.func197.trans (congrArg some (by kernel_rfl))
  f338 := Tryz.func198.trans (congrArg some (by kernel_rfl))
  t0 := Tryz.underlying0
  a0 := Tryz.isAgg0
  z0 := Tryz.sizeOf0
  v0 := Tryz.zeroValue0
  t2 := Tryz.underlying2
  a2 := Tryz.isAgg2
  z2 := Tryz.sizeOf2
  v2 := Tryz.zeroValue2
  t3 := Tryz.underlying3
  a3 := Tryz.isAgg3
  z3 := Tryz.sizeOf3
  v3 := Tryz.zeroValue3
  t4 := Tryz.underlying4
  a4 := Tryz.isAgg4
  z4 := Tryz.sizeOf4
  v4 := Tryz.zeroValue4
  t5 := Tryz.underlying5
  a5 := Tryz.isAgg5
  z5 := Tryz.sizeOf5
  v5 := Tryz.zeroValue5
  t9 := Tryz.underlying9
  a9 := Tryz.isAgg9
  z9 := Tryz.sizeOf9
  v9 := Tryz.zeroValue9
  t20 := Tryz.underlying20
  a20 := Tryz.isAgg20
  z20 := Tryz.sizeOf20
  v20 := Tryz.zeroValue20
  t37 := Tryz.underlying116
  a37 := Tryz.isAgg116
  z37 := Tryz.sizeOf116
  v37 := Tryz.zeroValue116
  t46 := Tryz.underlying198
  a46 := Tryz.isAgg198
  z46 := Tryz.sizeOf198
  v46 := Tryz.zeroValue198
  t51 := Tryz.underlying35
  a51 := Tryz.isAgg35
  z51 := Tryz.sizeOf35
  v51 := Tryz.zeroValue35
  t53 := Tryz.underlying165
  a53 := Tryz.isAgg165
  z53 := Tryz.sizeOf165
  v53 := Tryz.zeroValue165
  t171 := Tryz.underlying202
  a171 := Tryz.isAgg202
  z171 := Tryz.sizeOf202
  v171 := Tryz.zeroValue202
  t173 := Tryz.underlying205
  a173 := Tryz.isAgg205
  z173 := Tryz.sizeOf205
  v173 := Tryz.zeroValue205
  t212 := Tryz.underlying227
  a212 := Tryz.isAgg227
  z212 := Tryz.sizeOf227
  v212 := Tryz.zeroValue227
  t213 := Tryz.underlying228
  a213 := Tryz.isAgg228
  z213 := Tryz.sizeOf228
  t232 := Tryz.underlying249
  a232 := Tryz.isAgg249
  z232 := Tryz.sizeOf249
  v232 := Tryz.zeroValue249
  t233 := Tryz.underlying250
  a233 := Tryz.isAgg250
  z233 := Tryz.sizeOf250
  v233 := Tryz.zeroValue250
  g17 := by kernel_rfl
  g18 := by kernel_rfl
  g19 := by kernel_rfl }
open Go.RowKit Go.Sort Go.Lib in
theorem Tryz.strconv_Itoa_small (i : Nat) (hi : i < 100) (w : World) :
    Calls Tryz.prog 64 #[.int .i64 i] w fun e w' => e = .returned (.string ⟨(Lib.decDigits i).toArray⟩) ∧ w' = w := Any.strconv_Itoa_small Tryz.lays171 i hi w
def Tryz.laysM173_ren : Go.Shelf.Ren := ⟨fun | 173 => 63 | 246 => 118 | 283 => 156 | 284 => 157 | 285 => 158 | 286 => 159 | 129 => 187 | 317 => 186 | 318 => 188 | 319 => 189 | 320 => 190 | 337 => 197 | 338 => 198 | n => n, fun | 2 => 2 | 3 => 3 | 9 => 9 | 4 => 4 | 171 => 202 | 0 => 0 | 53 => 165 | 37 => 116 | 5 => 5 | 173 => 205 | 212 => 227 | 51 => 35 | 20 => 20 | 213 => 228 | 46 => 198 | 232 => 249 | 233 => 250 | n => n, fun | 17 => 2 | 18 => 6 | 19 => 7 | n => n⟩
theorem Tryz.laysM173 : Go.Proofs.LaysM.n173 Tryz.prog Tryz.laysM173_ren := {
  mixed := by kernel_rfl
  f129 := Tryz.func187.trans (congrArg some (by kernel_rfl))
  f173 := Tryz.func63.trans (congrArg some (by kernel_rfl))
  f246 := Tryz.func118.trans (congrArg some (by kernel_rfl))
  f283 := Tryz.func156.trans (congrArg some (by kernel_rfl))
  f284 := Tryz.func157.trans (congrArg some (by kernel_rfl))
  f285 := Tryz.func158.trans (congrArg some (by kernel_rfl))
  f286 := Tryz.func159.trans (congrArg some (by kernel_rfl))
  f317 := Tryz.func186.trans (congrArg some (by kernel_rfl))
  f318 := Tryz.func188.trans (congrArg some (by kernel_rfl))
  f319 := Tryz.func189.trans (congrArg some (by kernel_rfl))
  f320 := Tryz.func190.trans (congrArg some (by kernel_rfl))
  f337 := Tryz.func197.trans (congrArg some (by kernel_rfl))
  f338 := Tryz.func198.trans (congrArg some (by kernel_rfl))
  t0 := Tryz.underlying0
  a0 := Tryz.isAgg0
  z0 := Tryz.sizeOf0
  v0 := Tryz.zeroValue0
  t2 := Tryz.underlying2
  a2 := Tryz.isAgg2
  z2 := Tryz.sizeOf2
  v2 := Tryz.zeroValue2
  t3 := Tryz.underlying3
  a3 := Tryz.isAgg3
  z3 := Tryz.sizeOf3
  v3 := Tryz.zeroValue3
  t4 := Tryz.underlying4
  a4 := Tryz.isAgg4
  z4 := Tryz.sizeOf4
  v4 := Tryz.zeroValue4
  t5 := Tryz.underlying5
  a5 := Tryz.isAgg5
  z5 := Tryz.sizeOf5
  v5 := Tryz.zeroValue5
  t9 := Tryz.underlying9
  a9 := Tryz.isAgg9
  z9 := Tryz.sizeOf9
  v9 := Tryz.zeroValue9
  t20 := Tryz.underlying20
  a20 := Tryz.isAgg20
  z20 := Tryz.sizeOf20
  v20 := Tryz.zeroValue20
  t37 := Tryz.underlying116
  a37 := Tryz.isAgg116
  z37 := Tryz.sizeOf116
  v37 := Tryz.zeroValue116
  t46 := Tryz.underlying198
  a46 := Tryz.isAgg198
  z46 := Tryz.sizeOf198
  v46 := Tryz.zeroValue198
  t51 := Tryz.underlying35
  a51 := Tryz.isAgg35
  z51 := Tryz.sizeOf35
  v51 := Tryz.zeroValue35
  t53 := Tryz.underlying165
  a53 := Tryz.isAgg165
  z53 := Tryz.sizeOf165
  v53 := Tryz.zeroValue165
  t171 := Tryz.underlying202
  a171 := Tryz.isAgg202
  z171 := Tryz.sizeOf202
  v171 := Tryz.zeroValue202
  t173 := Tryz.underlying205
  a173 := Tryz.isAgg205
  z173 := Tryz.sizeOf205
  v173 := Tryz.zeroValue205
  t212 := Tryz.underlying227
  a212 := Tryz.isAgg227
  z212 := Tryz.sizeOf227
  v212 := Tryz.zeroValue227
  t213 := Tryz.underlying228
  a213 := Tryz.isAgg228
  z213 := Tryz.sizeOf228
  t232 := Tryz.underlying249
  a232 := Tryz.isAgg249
  z232 := Tryz.sizeOf249
  v232 := Tryz.zeroValue249
  t233 := Tryz.underlying250
  a233 := Tryz.isAgg250
  z233 := Tryz.sizeOf250
  v233 := Tryz.zeroValue250
  g17 := by kernel_rfl
  g18 := by kernel_rfl
  g19 := by kernel_rfl
  i0 := by kernel_rfl
  i2 := by kernel_rfl
  i3 := by kernel_rfl
  i4 := by kernel_rfl
  i5 := by kernel_rfl
  i9 := by kernel_rfl
  i20 := by kernel_rfl
  i37 := by kernel_rfl
  i46 := by kernel_rfl
  i51 := by kernel_rfl
  i53 := by kernel_rfl
  i171 := by kernel_rfl
  i173 := by kernel_rfl
  i212 := by kernel_rfl
  i232 := by kernel_rfl
  i233 := by kernel_rfl
  m17 := by kernel_rfl
  m18 := by kernel_rfl
  m19 := by kernel_rfl }
open Go.RowKit Go.Sort Go.Lib in
theorem Tryz.strconv_FormatInt_10 (n : Int) (h0 : -9223372036854775808 ≤ n) (h1 : n ≤ 9223372036854775807) (w : World) (htab : Lib.TabIs Tryz.prog w "internal/strconv.uint64pow10" .u64 Lib.pow10Tab) :
    Calls Tryz.prog 63 #[.int .i64 n, .int .i64 10] w fun e w' => e = .returned (.string ⟨(Lib.itoa n).toArray⟩) ∧ ∃ k os, w' = grow (w.drewN k) os := Any.strconv_FormatInt_10 Tryz.laysM173 n h0 h1 w htab
def Tryz.laysC172_ren : Go.Shelf.Ren := ⟨fun | 172 => 102 | 244 => 145 | 245 => 111 | 247 => 110 | 279 => 151 | 280 => 152 | 281 => 153 | 282 => 154 | 287 => 150 | 316 => 184 | 171 => 64 | 205 => 185 | 321 => 182 | 322 => 183 | 243 => 119 | 246 => 118 | 283 => 156 | 284 => 157 | 285 => 158 | 286 => 159 | 129 => 187 | 317 => 186 | 318 => 188 | 319 => 189 | 320 => 190 | 337 => 197 | 338 => 198 | n => n, fun | 9 => 9 | 3 => 3 | 75 => 101 | 76 => 151 | 4 => 4 | 5 => 5 | 167 => 195 | 37 => 116 | 0 => 0 | 85 => 102 | 2 => 2 | 168 => 199 | 53 => 165 | 175 => 196 | 46 => 198 | 210 => 223 | 127 => 241 | 145 => 244 | 143 => 242 | 21 => 21 | 171 => 202 | 173 => 205 | 212 => 227 | 51 => 35 | 20 => 20 | 213 => 228 | 232 => 249 | 233 => 250 | 80 => 147 | n => n, fun | 15 => 0 | 16 => 1 | 17 => 2 | 18 => 6 | 19 => 7 | n => n⟩
theorem Tryz.laysC172 : Go.Proofs.LaysC.n172 Tryz.prog Tryz.laysC172_ren := {
  mixed := by kernel_rfl
  f129 := Tryz.func187.trans (congrArg some (by kernel_rfl))
  f171 := Tryz.func64.trans (congrArg some (by kernel_rfl))
  f172 := Tryz.func102.trans (congrArg some (by kernel_rfl))
  f205 := Tryz.func185.trans (congrArg some (by kernel_rfl))
  f243 := Tryz.func119.trans (congrArg some (by kernel_rfl))
  f244 := Tryz.func145.trans (congrArg some (by kernel_rfl))
  f245 := Tryz.func111.trans (congrArg some (by kernel_rfl))
  f246 := Tryz.func118.trans (congrArg some (by kernel_rfl))
  f247 := Tryz.func110.trans (congrArg some (by kernel_rfl))
  f279 := Tryz.func151.trans (congrArg some (by kernel_rfl))
  f280 := Tryz.func152.trans (congrArg some (by kernel_rfl))
  f281 := Tryz.func153.trans (congrArg some (by kernel_rfl))
  f282 := Tryz.func154.trans (congrArg some (by kernel_rfl))
  f283 := Tryz.func156.trans (congrArg some (by kernel_rfl))
  f284 := Tryz.func157.trans (congrArg some (by kernel_rfl))
  f285 := Tryz.func158.trans (congrArg some (by kernel_rfl))
  f286 := Tryz.func159.trans (congrArg some (by kernel_rfl))
  f287 := Tryz.func150.trans (congrArg some (by kernel_rfl))
  f316 := Tryz.func184.trans (congrArg some (by kernel_rfl))
  f317 := Tryz.func186.trans (congrArg some (by kernel_rfl))
  f318 := Tryz.func188.trans (congrArg some (by kernel_rfl))
  f319 := Tryz.func189.trans (congrArg some (by kernel_rfl))
  f320 := Tryz.func190.trans (congrArg some (by kernel_rfl))
  f321 := Tryz.func182.trans (congrArg some (by kernel_rfl))
  f322 := Tryz.func183.trans (congrArg some (by kernel_rfl))
  f337 := Tryz.func197.trans (congrArg some (by kernel_rfl))
  f338 := Tryz.func198.trans (congrArg some (by kernel_rfl))
  t0 := Tryz.underlying0
  a0 := Tryz.isAgg0
  z0 := Tryz.sizeOf0
  v0 := Tryz.zeroValue0
  t2 := Tryz.underlying2
  a2 := Tryz.isAgg2
  z2 := Tryz.sizeOf2
  v2 := Tryz.zeroValue2
  t3 := Tryz.underlying3
  a3 := Tryz.isAgg3
  z3 := Tryz.sizeOf3
  v3 := Tryz.zeroValue3
  t4 := Tryz.underlying4
  a4 := Tryz.isAgg4
  z4 := Tryz.sizeOf4
  v4 := Tryz.zeroValue4
  t5 := Tryz.underlying5
  a5 := Tryz.isAgg5
  z5 := Tryz.sizeOf5
  v5 := Tryz.zeroValue5
  t9 := Tryz.underlying9
  a9 := Tryz.isAgg9
  z9 := Tryz.sizeOf9
  v9 := Tryz.zeroValue9
  t20 := Tryz.underlying20
  a20 := Tryz.isAgg20
  z20 := Tryz.sizeOf20
  v20 := Tryz.zeroValue20
  t21 := Tryz.underlying21
  a21 := Tryz.isAgg21
  z21 := Tryz.sizeOf21
  v21 := Tryz.zeroValue21
  t37 := Tryz.underlying116
  a37 := Tryz.isAgg116
  z37 := Tryz.sizeOf116
  v37 := Tryz.zeroValue116
  t46 := Tryz.underlying198
  a46 := Tryz.isAgg198
  z46 := Tryz.sizeOf198
  v46 := Tryz.zeroValue198
  t51 := Tryz.underlying35
  a51 := Tryz.isAgg35
  z51 := Tryz.sizeOf35
  v51 := Tryz.zeroValue35
  t53 := Tryz.underlying165
  a53 := Tryz.isAgg165
  z53 := Tryz.sizeOf165
  v53 := Tryz.zeroValue165
  t75 := Tryz.underlying101
  a75 := Tryz.isAgg101
  z75 := Tryz.sizeOf101
  v75 := Tryz.zeroValue101
  t76 := Tryz.underlying151
  a76 := Tryz.isAgg151
  z76 := Tryz.sizeOf151
  v76 := Tryz.zeroValue151
  t85 := Tryz.underlying102
  a85 := Tryz.isAgg102
  z85 := Tryz.sizeOf102
  v85 := Tryz.zeroValue102
  t127 := Tryz.underlying241
  a127 := Tryz.isAgg241
  z127 := Tryz.sizeOf241
  v127 := Tryz.zeroValue241
  t143 := Tryz.underlying242
  a143 := Tryz.isAgg242
  z143 := Tryz.sizeOf242
  v143 := Tryz.zeroValue242
  t145 := Tryz.underlying244
  a145 := Tryz.isAgg244
  z145 := Tryz.sizeOf244
  v145 := Tryz.zeroValue244
  t167 := Tryz.underlying195
  a167 := Tryz.isAgg195
  z167 := Tryz.sizeOf195
  v167 := Tryz.zeroValue195
  t168 := Tryz.underlying199
  a168 := Tryz.isAgg199
  z168 := Tryz.sizeOf199
  v168 := Tryz.zeroValue199
  t171 := Tryz.underlying202
  a171 := Tryz.isAgg202
  z171 := Tryz.sizeOf202
  v171 := Tryz.zeroValue202
  t173 := Tryz.underlying205
  a173 := Tryz.isAgg205
  z173 := Tryz.sizeOf205
  v173 := Tryz.zeroValue205
  t175 := Tryz.underlying196
  a175 := Tryz.isAgg196
  z175 := Tryz.sizeOf196
  v175 := Tryz.zeroValue196
  t210 := Tryz.underlying223
  a210 := Tryz.isAgg223
  z210 := Tryz.sizeOf223
  v210 := Tryz.zeroValue223
  t212 := Tryz.underlying227
  a212 := Tryz.isAgg227
  z212 := Tryz.sizeOf227
  v212 := Tryz.zeroValue227
  t213 := Tryz.underlying228
  a213 := Tryz.isAgg228
  z213 := Tryz.sizeOf228
  t232 := Tryz.underlying249
  a232 := Tryz.isAgg249
  z232 := Tryz.sizeOf249
  v232 := Tryz.zeroValue249
  t233 := Tryz.underlying250
  a233 := Tryz.isAgg250
  z233 := Tryz.sizeOf250
  v233 := Tryz.zeroValue250
  g15 := by kernel_rfl
  g16 := by kernel_rfl
  g17 := by kernel_rfl
  g18 := by kernel_rfl
  g19 := by kernel_rfl
  t80 := Tryz.underlying147
  a80 := Tryz.isAgg147
  z80 := Tryz.sizeOf147
  v80 := Tryz.zeroValue147
  i0 := by kernel_rfl
  i2 := by kernel_rfl
  i3 := by kernel_rfl
  i4 := by kernel_rfl
  i5 := by kernel_rfl
  i9 := by kernel_rfl
  i20 := by kernel_rfl
  i21 := by kernel_rfl
  i37 := by kernel_rfl
  i46 := by kernel_rfl
  i51 := by kernel_rfl
  i53 := by kernel_rfl
  i75 := by kernel_rfl
  i76 := by kernel_rfl
  i80 := by kernel_rfl
  i85 := by kernel_rfl
  i127 := by kernel_rfl
  i143 := by kernel_rfl
  i145 := by kernel_rfl
  i167 := by kernel_rfl
  i168 := by kernel_rfl
  i171 := by kernel_rfl
  i173 := by kernel_rfl
  i175 := by kernel_rfl
  i210 := by kernel_rfl
  i212 := by kernel_rfl
  i232 := by kernel_rfl
  i233 := by kernel_rfl
  m15 := by kernel_rfl
  m16 := by kernel_rfl
  m17 := by kernel_rfl
  m18 := by kernel_rfl
  m19 := by kernel_rfl
  c0 := by kernel_rfl
  c2 := by kernel_rfl
  c3 := by kernel_rfl
  c4 := by kernel_rfl
  c5 := by kernel_rfl
  c9 := by kernel_rfl
  c20 := by kernel_rfl
  c21 := by kernel_rfl
  c37 := by kernel_rfl
  c46 := by kernel_rfl
  c51 := by kernel_rfl
  c53 := by kernel_rfl
  c75 := by kernel_rfl
  c76 := by kernel_rfl
  c80 := by kernel_rfl
  c85 := by kernel_rfl
  c127 := by kernel_rfl
  c143 := by kernel_rfl
  c145 := by kernel_rfl
  c167 := by kernel_rfl
  c168 := by kernel_rfl
  c171 := by kernel_rfl
  c173 := by kernel_rfl
  c175 := by kernel_rfl
  c210 := by kernel_rfl
  c212 := by kernel_rfl
  c213 := by kernel_rfl
  c232 := by kernel_rfl
  c233 := by kernel_rfl }
open Go.RowKit in
theorem Tryz.strconv_Atoi_ok (s : ByteArray) (hmax : s.size ≤ 9223372036854775806) (v : Int) (h : Lib.atoiAll s.data.toList = .ok v) (w : World) :
    Calls Tryz.prog 102 #[.string s] w fun e w' => e = .returned (.tuple #[.int .i64 v, .nilIface]) ∧ (w' = w ∨ ∃ t, w' = Lib.bytesWorld w 5 t) := Any.strconv_Atoi_ok Tryz.laysC172 s hmax v h w
open Go.RowKit in
theorem Tryz.strconv_Atoi_syntax (s : ByteArray) (hlim : s.size ≤ 281474976710656) (h : Lib.atoiAll s.data.toList ≠ .range ∧ ∀ v, Lib.atoiAll s.data.toList ≠ .ok v) (ev : Value) (w : World) (hv : w.cell? ⟨0, 0, none⟩ = some ev) (hev : ev = .nilIface ∨ ∃ te pe, ev = .iface te pe) :
    Calls Tryz.prog 102 #[.string s] w fun e w' => ∃ N, e = .returned (.tuple #[.int .i64 (0), .iface 199 (.pointer (some ⟨N, 0, none⟩))]) ∧ w.heap.size ≤ N ∧ w'.heap[N]? = some (.cells #[.string ⟨#[65, 116, 111, 105]⟩, .string s, ev] 223 (0, 0)) ∧ Below w.heap.size w w' := Any.strconv_Atoi_syntax Tryz.laysC172 s hlim (by rcases hx : Lib.atoiAll s.data.toList with v | _ | _ <;> first | rfl | exact absurd hx (h.2 _) | exact absurd hx h.1) ev w hv hev
open Go.RowKit in
theorem Tryz.strconv_Atoi_range (s : ByteArray) (hlim : s.size ≤ 281474976710656) (h : Lib.atoiAll s.data.toList = .range) (ev : Value) (w : World) (hv : w.cell? ⟨1, 0, none⟩ = some ev) (hev : ev = .nilIface ∨ ∃ te pe, ev = .iface te pe) :
    Calls Tryz.prog 102 #[.string s] w fun e w' => ∃ N, e = .returned (.tuple #[.int .i64 (Lib.atoiSat s.data.toList), .iface 199 (.pointer (some ⟨N, 0, none⟩))]) ∧ w.heap.size ≤ N ∧ w'.heap[N]? = some (.cells #[.string ⟨#[65, 116, 111, 105]⟩, .string s, ev] 223 (0, 0)) ∧ Below w.heap.size w w' := Any.strconv_Atoi_range Tryz.laysC172 s hlim h ev w hv hev
def Tryz.laysC174_ren : Go.Shelf.Ren := ⟨fun | 174 => 54 | 247 => 110 | 245 => 111 | 287 => 150 | 279 => 151 | 280 => 152 | 281 => 153 | 282 => 154 | 321 => 182 | 322 => 183 | 316 => 184 | 171 => 64 | 205 => 185 | 243 => 119 | 246 => 118 | 283 => 156 | 284 => 157 | 285 => 158 | 286 => 159 | 129 => 187 | 317 => 186 | 318 => 188 | 319 => 189 | 320 => 190 | 337 => 197 | 338 => 198 | n => n, fun | 9 => 9 | 3 => 3 | 2 => 2 | 75 => 101 | 85 => 102 | 4 => 4 | 167 => 195 | 5 => 5 | 53 => 165 | 175 => 196 | 46 => 198 | 168 => 199 | 37 => 116 | 0 => 0 | 210 => 223 | 21 => 21 | 127 => 241 | 145 => 244 | 143 => 242 | 171 => 202 | 173 => 205 | 212 => 227 | 51 => 35 | 20 => 20 | 213 => 228 | 232 => 249 | 233 => 250 | 80 => 147 | n => n, fun | 15 => 0 | 16 => 1 | 17 => 2 | 18 => 6 | 19 => 7 | n => n⟩
theorem Tryz.laysC174 : Go.Proofs.LaysC.n174 Tryz.prog Tryz.laysC174_ren := {
  mixed := by kernel_rfl
  f129 := Tryz.func187.trans (congrArg some (by kernel_rfl))
  f171 := Tryz.func64.trans (congrArg some (by kernel_rfl))
  f174 := Tryz.func54.trans (congrArg some (by kernel_rfl))
  f205 := Tryz.func185.trans (congrArg some (by kernel_rfl))
  f243 := Tryz.func119.trans (congrArg some (by kernel_rfl))
  f245 := Tryz.func111.trans (congrArg some (by kernel_rfl))
  f246 := Tryz.func118.trans (congrArg some (by kernel_rfl))
  f247 := Tryz.func110.trans (congrArg some (by kernel_rfl))
  f279 := Tryz.func151.trans (congrArg some (by kernel_rfl))
  f280 := Tryz.func152.trans (congrArg some (by kernel_rfl))
  f281 := Tryz.func153.trans (congrArg some (by kernel_rfl))
  f282 := Tryz.func154.trans (congrArg some (by kernel_rfl))
  f283 := Tryz.func156.trans (congrArg some (by kernel_rfl))
  f284 := Tryz.func157.trans (congrArg some (by kernel_rfl))
  f285 := Tryz.func158.trans (congrArg some (by kernel_rfl))
  f286 := Tryz.func159.trans (congrArg some (by kernel_rfl))
  f287 := Tryz.func150.trans (congrArg some (by kernel_rfl))
  f316 := Tryz.func184.trans (congrArg some (by kernel_rfl))
  f317 := Tryz.func186.trans (congrArg some (by kernel_rfl))
  f318 := Tryz.func188.trans (congrArg some (by kernel_rfl))
  f319 := Tryz.func189.trans (congrArg some (by kernel_rfl))
  f320 := Tryz.func190.trans (congrArg some (by kernel_rfl))
  f321 := Tryz.func182.trans (congrArg some (by kernel_rfl))
  f322 := Tryz.func183.trans (congrArg some (by kernel_rfl))
  f337 := Tryz.func197.trans (congrArg some (by kernel_rfl))
  f338 := Tryz.func198.trans (congrArg some (by kernel_rfl))
  t0 := Tryz.underlying0
  a0 := Tryz.isAgg0
  z0 := Tryz.sizeOf0
  v0 := Tryz.zeroValue0
  t2 := Tryz.underlying2
  a2 := Tryz.isAgg2
  z2 := Tryz.sizeOf2
  v2 := Tryz.zeroValue2
  t3 := Tryz.underlying3
  a3 := Tryz.isAgg3
  z3 := Tryz.sizeOf3
  v3 := Tryz.zeroValue3
  t4 := Tryz.underlying4
  a4 := Tryz.isAgg4
  z4 := Tryz.sizeOf4
  v4 := Tryz.zeroValue4
  t5 := Tryz.underlying5
  a5 := Tryz.isAgg5
  z5 := Tryz.sizeOf5
  v5 := Tryz.zeroValue5
  t9 := Tryz.underlying9
  a9 := Tryz.isAgg9
  z9 := Tryz.sizeOf9
  v9 := Tryz.zeroValue9
  t20 := Tryz.underlying20
  a20 := Tryz.isAgg20
  z20 := Tryz.sizeOf20
  v20 := Tryz.zeroValue20
  t21 := Tryz.underlying21
  a21 := Tryz.isAgg21
  z21 := Tryz.sizeOf21
  v21 := Tryz.zeroValue21
  t37 := Tryz.underlying116
  a37 := Tryz.isAgg116
  z37 := Tryz.sizeOf116
  v37 := Tryz.zeroValue116
  t46 := Tryz.underlying198
  a46 := Tryz.isAgg198
  z46 := Tryz.sizeOf198
  v46 := Tryz.zeroValue198
  t51 := Tryz.underlying35
  a51 := Tryz.isAgg35
  z51 := Tryz.sizeOf35
  v51 := Tryz.zeroValue35
  t53 := Tryz.underlying165
  a53 := Tryz.isAgg165
  z53 := Tryz.sizeOf165
  v53 := Tryz.zeroValue165
  t75 := Tryz.underlying101
  a75 := Tryz.isAgg101
  z75 := Tryz.sizeOf101
  v75 := Tryz.zeroValue101
  t85 := Tryz.underlying102
  a85 := Tryz.isAgg102
  z85 := Tryz.sizeOf102
  v85 := Tryz.zeroValue102
  t127 := Tryz.underlying241
  a127 := Tryz.isAgg241
  z127 := Tryz.sizeOf241
  v127 := Tryz.zeroValue241
  t143 := Tryz.underlying242
  a143 := Tryz.isAgg242
  z143 := Tryz.sizeOf242
  v143 := Tryz.zeroValue242
  t145 := Tryz.underlying244
  a145 := Tryz.isAgg244
  z145 := Tryz.sizeOf244
  v145 := Tryz.zeroValue244
  t167 := Tryz.underlying195
  a167 := Tryz.isAgg195
  z167 := Tryz.sizeOf195
  v167 := Tryz.zeroValue195
  t168 := Tryz.underlying199
  a168 := Tryz.isAgg199
  z168 := Tryz.sizeOf199
  v168 := Tryz.zeroValue199
  t171 := Tryz.underlying202
  a171 := Tryz.isAgg202
  z171 := Tryz.sizeOf202
  v171 := Tryz.zeroValue202
  t173 := Tryz.underlying205
  a173 := Tryz.isAgg205
  z173 := Tryz.sizeOf205
  v173 := Tryz.zeroValue205
  t175 := Tryz.underlying196
  a175 := Tryz.isAgg196
  z175 := Tryz.sizeOf196
  v175 := Tryz.zeroValue196
  t210 := Tryz.underlying223
  a210 := Tryz.isAgg223
  z210 := Tryz.sizeOf223
  v210 := Tryz.zeroValue223
  t212 := Tryz.underlying227
  a212 := Tryz.isAgg227
  z212 := Tryz.sizeOf227
  v212 := Tryz.zeroValue227
  t213 := Tryz.underlying228
  a213 := Tryz.isAgg228
  z213 := Tryz.sizeOf228
  t232 := Tryz.underlying249
  a232 := Tryz.isAgg249
  z232 := Tryz.sizeOf249
  v232 := Tryz.zeroValue249
  t233 := Tryz.underlying250
  a233 := Tryz.isAgg250
  z233 := Tryz.sizeOf250
  v233 := Tryz.zeroValue250
  g15 := by kernel_rfl
  g16 := by kernel_rfl
  g17 := by kernel_rfl
  g18 := by kernel_rfl
  g19 := by kernel_rfl
  t80 := Tryz.underlying147
  a80 := Tryz.isAgg147
  z80 := Tryz.sizeOf147
  v80 := Tryz.zeroValue147
  i0 := by kernel_rfl
  i2 := by kernel_rfl
  i3 := by kernel_rfl
  i4 := by kernel_rfl
  i5 := by kernel_rfl
  i9 := by kernel_rfl
  i20 := by kernel_rfl
  i21 := by kernel_rfl
  i37 := by kernel_rfl
  i46 := by kernel_rfl
  i51 := by kernel_rfl
  i53 := by kernel_rfl
  i75 := by kernel_rfl
  i80 := by kernel_rfl
  i85 := by kernel_rfl
  i127 := by kernel_rfl
  i143 := by kernel_rfl
  i145 := by kernel_rfl
  i167 := by kernel_rfl
  i168 := by kernel_rfl
  i171 := by kernel_rfl
  i173 := by kernel_rfl
  i175 := by kernel_rfl
  i210 := by kernel_rfl
  i212 := by kernel_rfl
  i232 := by kernel_rfl
  i233 := by kernel_rfl
  m15 := by kernel_rfl
  m16 := by kernel_rfl
  m17 := by kernel_rfl
  m18 := by kernel_rfl
  m19 := by kernel_rfl
  c0 := by kernel_rfl
  c2 := by kernel_rfl
  c3 := by kernel_rfl
  c4 := by kernel_rfl
  c5 := by kernel_rfl
  c9 := by kernel_rfl
  c20 := by kernel_rfl
  c21 := by kernel_rfl
  c37 := by kernel_rfl
  c46 := by kernel_rfl
  c51 := by kernel_rfl
  c53 := by kernel_rfl
  c75 := by kernel_rfl
  c80 := by kernel_rfl
  c85 := by kernel_rfl
  c127 := by kernel_rfl
  c143 := by kernel_rfl
  c145 := by kernel_rfl
  c167 := by kernel_rfl
  c168 := by kernel_rfl
  c171 := by kernel_rfl
  c173 := by kernel_rfl
  c175 := by kernel_rfl
  c210 := by kernel_rfl
  c212 := by kernel_rfl
  c213 := by kernel_rfl
  c232 := by kernel_rfl
  c233 := by kernel_rfl }
open Go.RowKit in
theorem Tryz.strconv_ParseInt_10_at64_ok (s : ByteArray) (hmax : s.size ≤ 9223372036854775806) (v : Int) (h : Lib.parseIntB 64 s.data.toList = .ok v) (w : World) :
    Calls Tryz.prog 54 #[.string s, .int .i64 10, .int .i64 64] w fun e w' => e = .returned (.tuple #[.int .i64 v, .nilIface]) ∧ (w' = w ∨ ∃ t, w' = Lib.bytesWorld w 5 t) := Any.strconv_ParseInt_10_at64_ok Tryz.laysC174 s hmax v h w
def Tryz.lays99_ren : Go.Shelf.Ren := ⟨fun | 99 => 50 | 206 => 101 | n => n, fun | 9 => 9 | 4 => 4 | 3 => 3 | n => n, fun | n => n⟩
theorem Tryz.lays99 : Go.Proofs.Lays.n99 Tryz.prog Tryz.lays99_ren := {
  mixed := by kernel_rfl
  f99 := Tryz.func50.trans (congrArg some (by kernel_rfl))
  f206 := Tryz.func101.trans (congrArg some (by kernel_rfl))
  t3 := Tryz.underlying3
  a3 := Tryz.isAgg3
  z3 := Tryz.sizeOf3
  v3 := Tryz.zeroValue3
  t4 := Tryz.underlying4
  a4 := Tryz.isAgg4
  z4 := Tryz.sizeOf4
  v4 := Tryz.zeroValue4
  t9 := Tryz.underlying9
  a9 := Tryz.isAgg9
  z9 := Tryz.sizeOf9
  v9 := Tryz.zeroValue9 }
open Go.RowKit Go.Lib in
theorem Tryz.strings_HasPrefix (s p : ByteArray) (w : World) :
    Calls Tryz.prog 50 #[.string s, .string p] w fun e w' => e = .returned (.bool (Lib.hasPrefix s.data.toList p.data.toList)) ∧ w' = w := Any.strings_HasPrefix Tryz.lays99 s p w
end Go.Proofs
end
section
/- The library's contracts that the texts of numbers lean on, taken over. -/
namespace Go.Proofs.YtfjelkjlfcafgaaGreatDoor.NumL
open Go Go.RowKit Go.Proofs.YtfjelkjlfcafgaaGreatDoor.Ax Go.Proofs.YtfjelkjlfcafgaaGreatDoor.BigM Go.Proofs.YtfjelkjlfcafgaaGreatDoor.NumS Go.Proofs.YtfjelkjlfcafgaaGreatDoor.NumT
set_option linter.unusedSimpArgs false
set_option linter.unusedVariables false
set_option maxRecDepth 4000

theorem data_bs (l : List Nat) : (bs l).data.toList = l.map UInt8.ofNat := by
  show ((l.map UInt8.ofNat).toArray).toList = _
  rw [List.toList_toArray]
theorem ofNat_inj {a b : Nat} (ha : a < 256) (hb : b < 256) (h : UInt8.ofNat a = UInt8.ofNat b) : a = b := by
  have := congrArg UInt8.toNat h
  simpa [Nat.mod_eq_of_lt ha, Nat.mod_eq_of_lt hb] using this
theorem pre_one (l : List Nat) (h : By l) (c : Nat) (hc : c < 256) : Lib.hasPrefix (l.map UInt8.ofNat) [UInt8.ofNat c] = decide (l.head? = some c) := by
  cases l with
  | nil => rfl
  | cons a r =>
    have ha := h a (by simp)
    show (UInt8.ofNat c == UInt8.ofNat a && true) = _
    by_cases e : a = c
    · subst e; simp
    · have : UInt8.ofNat c ≠ UInt8.ofNat a := fun q => e (ofNat_inj ha hc q.symm)
      simp [this, e]
theorem below_self (w : World) : Below w.heap.size w w := Below.refl _ w
theorem hasPrefix_ax (l : List Nat) (h : By l) (c : Nat) (hc : c < 256) : PCall Tryz.prog 50 [.v (.string (bs l)), .v (.string (bs [c]))] (.v (.bool (decide (l.head? = some c)))) := by
  have e := pre_one l h c hc
  refine pcall_lift (us := [.string (bs l), .string (bs [c])]) (enters_of Tryz.func50 rfl rfl) (fun k => .v _) fun w => ?_
  refine (Tryz.strings_HasPrefix (bs l) (bs [c]) w).mono ?_
  rintro en w' ⟨rfl, rfl⟩
  rw [data_bs, data_bs, List.map_cons, List.map_nil, e]
  exact ⟨rfl, below_self _⟩
def cut1 (l : List Nat) (c : Nat) : List Nat := if l.head? = some c then l.tail else l
theorem cutPrefix_ax (l : List Nat) (h : By l) (c : Nat) (hc : c < 256) : PCall Tryz.prog 48 [.v (.string (bs l)), .v (.string (bs [c]))] (.tp [.v (.string (bs (cut1 l c))), .v (.bool (decide (l.head? = some c)))]) := by
  have e := pre_one l h c hc
  refine pcall_lift (us := [.string (bs l), .string (bs [c])]) (v := .tuple #[.string (bs (cut1 l c)), .bool (decide (l.head? = some c))]) (enters_of Tryz.func48 rfl rfl) (fun k => .tp _ [_, _] rfl fun j z u hz hu => ?_) fun w => ?_
  · match j with
    | 0 => simp at hz hu; subst hz hu; exact .v _
    | 1 => simp at hz hu; subst hz hu; exact .v _
    | j + 2 => simp at hz
  refine (Tryz.strings_CutPrefix (bs l) (bs [c]) w).mono ?_
  rintro en w' ⟨rfl, rfl⟩
  rw [data_bs, data_bs, List.map_cons, List.map_nil]
  unfold Lib.trimPrefix
  rw [e]
  refine ⟨?_, below_self _⟩
  unfold cut1
  by_cases q : l.head? = some c
  · rw [if_pos q, decide_eq_true q, if_pos rfl]
    cases l with
    | nil => cases q
    | cons a r => rfl
  · rw [if_neg q, decide_eq_false q, if_neg (by simp)]
    rfl
def lead (l : List Nat) : List Nat := l.dropWhile (· == 48)
def trail (l : List Nat) : List Nat := (l.reverse.dropWhile (· == 48)).reverse
theorem drop_map (l : List Nat) (h : By l) : (l.map UInt8.ofNat).dropWhile (· == UInt8.ofNat 48) = (l.dropWhile (· == 48)).map UInt8.ofNat := by
  induction l with
  | nil => rfl
  | cons a r ih =>
    have ha := h a (by simp)
    have ih := ih fun c hc => h c (by simp [hc])
    rw [List.map_cons, List.dropWhile_cons, List.dropWhile_cons]
    by_cases e : a = 48
    · subst e; simp only [beq_self_eq_true, if_true]; exact ih
    · have : UInt8.ofNat a ≠ UInt8.ofNat 48 := fun q => e (ofNat_inj ha (by decide) q)
      rw [if_neg (by simpa using this), if_neg (by simpa using e)]
      rfl
theorem trimLeft_ax (l : List Nat) (h : By l) : PCall Tryz.prog 52 [.v (.string (bs l)), .v (.string (bs [48]))] (.v (.string (bs (lead l)))) := by
  refine pcall_lift (us := [.string (bs l), .string (bs [48])]) (enters_of Tryz.func52 rfl rfl) (fun k => .v _) fun w => ?_
  refine (Tryz.strings_TrimLeft_one (bs l) (UInt8.ofNat 48) (by decide) w).mono ?_
  rintro en w' ⟨rfl, rfl⟩
  refine ⟨?_, below_self _⟩
  rw [data_bs]
  unfold Lib.trimLeftB
  rw [drop_map l h]
  rfl
theorem trimRight_ax (l : List Nat) (h : By l) (hl : l.length ≤ 1000000000) : PCall Tryz.prog 53 [.v (.string (bs l)), .v (.string (bs [48]))] (.v (.string (bs (trail l)))) := by
  refine pcall_lift (us := [.string (bs l), .string (bs [48])]) (enters_of Tryz.func53 rfl rfl) (fun k => .v _) fun w => ?_
  refine (Tryz.strings_TrimRight_one (bs l) (UInt8.ofNat 48) (by decide) w (by rw [bs_size]; omega)).mono ?_
  rintro en w' ⟨rfl, rfl⟩
  refine ⟨?_, below_self _⟩
  rw [data_bs]
  unfold Lib.trimRightB
  rw [← List.map_reverse, drop_map _ (fun c hc => h c (List.mem_reverse.1 hc)), ← List.map_reverse]
  rfl
theorem dec_from (l : List Nat) (h : ∀ c ∈ l, isD c = true) : ∀ acc, Lib.decFrom acc (l.map UInt8.ofNat) = some (l.foldl (fun a c => 10 * a + (c - 48)) acc) := by
  induction l with
  | nil => intro acc; rfl
  | cons a r ih =>
    intro acc
    have ha := (isD_iff a).1 (h a (by simp))
    have hd : Lib.digitVal (UInt8.ofNat a) = some (a - 48) := by
      unfold Lib.digitVal
      have : (UInt8.ofNat a).toNat = a := by simp; omega
      rw [this, if_pos ha]
    rw [List.map_cons, List.foldl_cons, Lib.decFrom, hd]
    simp only
    rw [ih (fun c hc => h c (by simp [hc]))]
    congr 2
    omega
theorem atoi_ax (l : List Nat) (h : ∀ c ∈ l, isD c = true) (h0 : l ≠ []) (hl : l.length ≤ 18) : PCall Tryz.prog 102 [.v (.string (bs l))] (.tp [.v (.int .i64 (digV l : Nat)), .v .nilIface]) := by
  refine pcall_lift (us := [.string (bs l)]) (v := .tuple #[.int .i64 (digV l : Nat), .nilIface]) (enters_of Tryz.func102 rfl rfl) (fun k => .tp _ [_, _] rfl fun j z u hz hu => ?_) fun w => ?_
  · match j with
    | 0 => simp at hz hu; subst hz hu; exact .v _
    | 1 => simp at hz hu; subst hz hu; exact .v _
    | j + 2 => simp at hz
  refine (Tryz.strconv_Atoi (bs l) (digV l : Nat) (by rw [bs_size]; exact hl) ?_ w).mono ?_
  · rw [data_bs]
    cases l with
    | nil => exact absurd rfl h0
    | cons a r =>
      have ha := (isD_iff a).1 (h a (by simp))
      have h45 : (UInt8.ofNat a == 45) = false := by
        rw [beq_eq_false_iff_ne]
        intro q
        have := ofNat_inj (b := 45) (by omega) (by decide) q
        omega
      have h43 : (UInt8.ofNat a == 43) = false := by
        rw [beq_eq_false_iff_ne]
        intro q
        have := ofNat_inj (b := 43) (by omega) (by decide) q
        omega
      have hf := dec_from (a :: r) h 0
      rw [List.map_cons] at hf ⊢
      show (if (UInt8.ofNat a == 45) = true then Option.map (fun (m : Nat) => -(m : Int)) (Lib.decNat (List.map UInt8.ofNat r)) else if (UInt8.ofNat a == 43) = true then Option.map (fun (m : Nat) => (m : Int)) (Lib.decNat (List.map UInt8.ofNat r)) else Option.map (fun (m : Nat) => (m : Int)) (Lib.decNat (UInt8.ofNat a :: List.map UInt8.ofNat r))) = _
      rw [h45, h43]
      simp only [Bool.false_eq_true, if_false]
      unfold Lib.decNat
      rw [List.isEmpty_cons, if_neg (by simp), hf]
      rfl
  · rintro en w' ⟨rfl, t, rfl⟩
    exact ⟨rfl, Lib.bytesWorld_below _ _ _⟩
theorem uint_from (l : List Nat) (h : ∀ c ∈ l, isD c = true) : ∀ acc, (acc + 1) * 10 ^ l.length ≤ 1000000000 → Lib.parseUintM (2 ^ 64 - 1) acc (l.map UInt8.ofNat) = .ok (l.foldl (fun a c => 10 * a + (c - 48)) acc) := by
  induction l with
  | nil => intro acc hb; rfl
  | cons a r ih =>
    intro acc hb
    have ha := (isD_iff a).1 (h a (by simp))
    have e : (UInt8.ofNat a).toNat = a := by simp; omega
    rw [List.length_cons, Nat.pow_succ] at hb
    have hpos : 1 ≤ 10 ^ r.length := Nat.pow_pos (by decide)
    have h1 : (acc + 1) * (1 * 10) ≤ (acc + 1) * (10 ^ r.length * 10) := Nat.mul_le_mul_left _ (Nat.mul_le_mul_right _ hpos)
    have h2 : (acc * 10 + (a - 48) + 1) * 10 ^ r.length ≤ (acc + 1) * (10 ^ r.length * 10) := by
      rw [Nat.mul_comm (10 ^ r.length), ← Nat.mul_assoc]
      exact Nat.mul_le_mul_right _ (by omega)
    rw [List.map_cons, List.foldl_cons, Lib.parseUintM, e, if_pos ha, if_neg (by omega), if_neg (by omega), ih (fun c hc => h c (by simp [hc])) _ (by omega), Nat.mul_comm acc]
theorem parseInt_ax (l : List Nat) (h : ∀ c ∈ l, isD c = true) (h0 : l ≠ []) (hl : l.length ≤ 9) : PCall Tryz.prog 54 [.v (.string (bs l)), .v (.int .i64 10), .v (.int .i64 64)] (.tp [.v (.int .i64 (digV l : Nat)), .v .nilIface]) := by
  refine pcall_lift (us := [.string (bs l), .int .i64 10, .int .i64 64]) (v := .tuple #[.int .i64 (digV l : Nat), .nilIface]) (enters_of Tryz.func54 rfl rfl) (fun k => .tp _ [_, _] rfl fun j z u hz hu => ?_) fun w => ?_
  · match j with
    | 0 => simp at hz hu; subst hz hu; exact .v _
    | 1 => simp at hz hu; subst hz hu; exact .v _
    | j + 2 => simp at hz
  refine (Tryz.strconv_ParseInt_10_at64_ok (bs l) (by rw [bs_size]; omega) (digV l : Nat) ?_ w).mono ?_
  · rw [data_bs]
    have hb : (0 + 1) * 10 ^ l.length ≤ 1000000000 := by
      rw [Nat.zero_add, Nat.one_mul]
      exact Nat.le_trans (Nat.pow_le_pow_right (by decide) hl) (by decide)
    have hf := uint_from l h 0 hb
    cases l with
    | nil => exact absurd rfl h0
    | cons a r =>
      have ha := (isD_iff a).1 (h a (by simp))
      have e : (UInt8.ofNat a).toNat = a := by simp; omega
      rw [List.map_cons] at hf ⊢
      have hlt : digV (a :: r) < 2 ^ 63 := by
        have : ∀ (l : List Nat) (acc : Nat), (∀ c ∈ l, isD c = true) → l.foldl (fun a c => 10 * a + (c - 48)) acc + 1 ≤ (acc + 1) * 10 ^ l.length := by
          intro l
          induction l with
          | nil => intro acc _; simp
          | cons b l ih =>
            intro acc hd
            have hb := (isD_iff b).1 (hd b (by simp))
            have h3 := ih (10 * acc + (b - 48)) fun c hc => hd c (by simp [hc])
            rw [List.foldl_cons, List.length_cons, Nat.pow_succ, Nat.mul_comm (10 ^ l.length), ← Nat.mul_assoc]
            exact Nat.le_trans h3 (Nat.mul_le_mul_right _ (by omega))
        have h4 := this (a :: r) 0 h
        have h5 : digV (a :: r) + 1 ≤ (0 + 1) * 10 ^ (a :: r).length := h4
        omega
      unfold Lib.parseIntB Lib.parseUintB
      have n1 : ¬ (a = 43 ∨ a = 45) := by omega
      have n2 : ¬ a = 45 := by omega
      have hh : List.foldl (fun a c => 10 * a + (c - 48)) 0 (a :: r) = digV (a :: r) := rfl
      rw [hh] at hf
      simp only [e, if_neg n1, if_neg (List.cons_ne_nil _ _), hf]
      rw [if_neg (by omega), if_neg (by omega), if_neg n2]
  · rintro en w' ⟨rfl, q⟩
    refine ⟨rfl, ?_⟩
    rcases q with rfl | ⟨t, rfl⟩
    · exact below_self _
    · exact Lib.bytesWorld_below _ _ _
end Go.Proofs.YtfjelkjlfcafgaaGreatDoor.NumL
end
section
/- Plain lists: what num.Parse makes of digits. -/
namespace Go.Proofs.YtfjelkjlfcafgaaGreatDoor.NumP
open Go.Proofs.YtfjelkjlfcafgaaGreatDoor.BigM Go.Proofs.YtfjelkjlfcafgaaGreatDoor.NumS Go.Proofs.YtfjelkjlfcafgaaGreatDoor.NumT Go.Proofs.YtfjelkjlfcafgaaGreatDoor.NumL
set_option linter.unusedVariables false

theorem dw (m : List Nat) : ∃ n, m = List.replicate n 48 ++ m.dropWhile (· == 48) ∧ ∀ c, (m.dropWhile (· == 48)).head? = some c → c ≠ 48 := by
  induction m with
  | nil => exact ⟨0, rfl, fun c h => by cases h⟩
  | cons a m ih =>
    rw [List.dropWhile_cons]
    by_cases e : a = 48
    · obtain ⟨n, h1, h2⟩ := ih
      subst e
      simp only [beq_self_eq_true, if_true]
      refine ⟨n + 1, ?_, h2⟩
      rw [List.replicate_succ, List.cons_append, ← h1]
    · rw [if_neg (by simpa using e)]
      exact ⟨0, rfl, fun c h => by obtain rfl : a = c := by simpa using h
                                   exact e⟩
theorem fold_acc (l : List Nat) : ∀ acc, l.foldl (fun a c => 10 * a + (c - 48)) acc = acc * 10 ^ l.length + digV l := by
  induction l with
  | nil => intro acc; simp [digV]
  | cons c l ih =>
    intro acc
    have h0 : digV (c :: l) = l.foldl (fun a c => 10 * a + (c - 48)) (10 * 0 + (c - 48)) := rfl
    rw [List.foldl_cons, ih, h0, ih, List.length_cons, Nat.pow_succ, Nat.mul_zero, Nat.zero_add]
    have e1 : (10 * acc + (c - 48)) * 10 ^ l.length = acc * (10 ^ l.length * 10) + (c - 48) * 10 ^ l.length := by
      rw [Nat.add_mul, Nat.mul_comm 10 acc, Nat.mul_assoc, Nat.mul_comm 10]
    omega
theorem digV_append (a b : List Nat) : digV (a ++ b) = digV a * 10 ^ b.length + digV b := by
  unfold digV
  rw [List.foldl_append, fold_acc]
  rfl
theorem digV_rep (n : Nat) : digV (List.replicate n 48) = 0 := by
  have := digV_zeros [] n
  rw [List.nil_append] at this
  rw [this]
  simp [digV]
theorem lead_val (l : List Nat) : digV (lead l) = digV l := by
  obtain ⟨n, h1, h2⟩ := dw l
  have : digV l = digV (List.replicate n 48 ++ lead l) := congrArg digV h1
  rw [this, digV_append, digV_rep]
  simp
theorem lead_sub (l : List Nat) : ∀ c ∈ lead l, c ∈ l := fun c h => (List.dropWhile_sublist _).subset h
theorem lead_len (l : List Nat) : (lead l).length ≤ l.length := (List.dropWhile_sublist _).length_le
theorem trail_eq (l : List Nat) : ∃ n, l = trail l ++ List.replicate n 48 ∧ (∀ c, (trail l).reverse.head? = some c → c ≠ 48) := by
  obtain ⟨n, h1, h2⟩ := dw l.reverse
  refine ⟨n, ?_, fun c h => h2 c (by unfold trail at h; rw [List.reverse_reverse] at h; exact h)⟩
  have h3 := congrArg List.reverse h1
  rw [List.reverse_reverse, List.reverse_append, List.reverse_replicate] at h3
  exact h3
theorem dig_lt (l : List Nat) (h : ∀ c ∈ l, isD c = true) : digV l < 10 ^ l.length := by
  induction l with
  | nil => simp [digV]
  | cons c l ih =>
    have hc := (isD_iff c).1 (h c (by simp))
    have := ih fun x hx => h x (by simp [hx])
    have e := digV_append [c] l
    rw [List.singleton_append] at e
    rw [e, List.length_cons, Nat.pow_succ]
    have e1 : digV [c] = c - 48 := by simp [digV]
    rw [e1]
    have h2 : (c - 48) * 10 ^ l.length ≤ 9 * 10 ^ l.length := Nat.mul_le_mul_right _ (by omega)
    omega
theorem dig_ge (c : Nat) (l : List Nat) (h : 49 ≤ c) : 10 ^ l.length ≤ digV (c :: l) := by
  have e := digV_append [c] l
  rw [List.singleton_append] at e
  have e1 : digV [c] = c - 48 := by simp [digV]
  rw [e, e1]
  have h2 : 1 * 10 ^ l.length ≤ (c - 48) * 10 ^ l.length := Nat.mul_le_mul_right _ (by omega)
  omega
theorem fin_parse (neg : Bool) (ds : List Nat) (X : Int) (h : ∀ c ∈ ds, isD c = true) :
    (lead ds = [] → finS neg (digV ds) X = (0, 0, 0)) ∧
    (lead ds ≠ [] → trail (lead ds) ≠ [] ∧ (∀ c ∈ trail (lead ds), isD c = true) ∧ (trail (lead ds)).length ≤ (lead ds).length ∧
      (if (trail (lead ds)).length > 9 ∨ X + ((lead ds).length - (trail (lead ds)).length : Nat) < -18 ∨ X + ((lead ds).length - (trail (lead ds)).length : Nat) > 9 then finS neg (digV ds) X = (0, 0, 30)
       else finS neg (digV ds) X = (if neg then -(digV (trail (lead ds)) : Int) else digV (trail (lead ds)), X + ((lead ds).length - (trail (lead ds)).length : Nat), 0))) := by
  have hv := lead_val ds
  have hl : ∀ c ∈ lead ds, isD c = true := fun c hc => h c (lead_sub ds c hc)
  obtain ⟨_, _, hhead⟩ := dw ds
  constructor
  · intro e
    rw [e] at hv
    unfold finS
    rw [← hv]
    rfl
  · intro hne
    obtain ⟨n, t1, t2⟩ := trail_eq (lead ds)
    have hlen := congrArg List.length t1
    rw [List.length_append, List.length_replicate] at hlen
    have hval := congrArg digV t1
    rw [digV_zeros, hv] at hval
    have hds : ∀ c ∈ trail (lead ds), isD c = true := fun c hc => hl c (by rw [t1]; exact List.mem_append_left _ hc)
    have hh : ∀ c, (lead ds).head? = some c → 49 ≤ c := fun c hc => by
      have a := hhead c hc
      have b := (isD_iff c).1 (hl c (List.mem_of_head? hc))
      omega
    have htne : trail (lead ds) ≠ [] := fun e => by
      rw [e, List.nil_append] at t1
      cases n with
      | zero => exact hne t1
      | succ n =>
        have := hh 48 (by rw [t1]; rfl)
        omega
    generalize hT : trail (lead ds) = T at *
    obtain ⟨c, r, rfl⟩ : ∃ c r, T = c :: r := by
      cases T with
      | nil => exact absurd rfl htne
      | cons c r => exact ⟨c, r, rfl⟩
    have hc49 : 49 ≤ c := hh c (by rw [t1]; rfl)
    have hge := dig_ge c r hc49
    have hlt := dig_lt (c :: r) hds
    have hpos : 0 < digV (c :: r) := Nat.lt_of_lt_of_le (Nat.pow_pos (by decide)) hge
    have hmod : digV (c :: r) % 10 ≠ 0 := by
      obtain ⟨x, y, hxy⟩ : ∃ x y, c :: r = x ++ [y] := ⟨(c :: r).dropLast, (c :: r).getLast (by simp), (List.dropLast_concat_getLast (by simp)).symm⟩
      have hy := t2 y (by rw [hxy]; simp)
      have hyd := (isD_iff y).1 (hds y (by rw [hxy]; simp))
      rw [hxy, digV_snoc]
      omega
    have hst : strip (digV ds) X = (digV (c :: r), X + n) := by rw [hval, strip_pow _ hpos, strip_stop _ _ (fun q => hmod q.2)]
    have hd0 : digV ds ≠ 0 := by
      rw [hval]
      have := Nat.mul_pos hpos (Nat.pow_pos (n := n) (show 0 < 10 by decide))
      omega
    have hn : (lead ds).length - (c :: r).length = n := by omega
    refine ⟨htne, hds, by omega, ?_⟩
    rw [hn]
    have h9 : (c :: r).length > 9 ↔ ¬ digV (c :: r) ≤ 999999999 := by
      constructor
      · intro q
        have : 10 ^ 9 ≤ 10 ^ r.length := Nat.pow_le_pow_right (by decide) (by rw [List.length_cons] at q; omega)
        omega
      · intro q
        refine Nat.lt_of_not_le fun q2 => q ?_
        have : 10 ^ (c :: r).length ≤ 10 ^ 9 := Nat.pow_le_pow_right (by decide) q2
        omega
    unfold finS
    rw [if_neg hd0, hst]
    simp only
    by_cases q : (c :: r).length > 9 ∨ X + (n : Int) < -18 ∨ X + (n : Int) > 9
    · rw [if_pos q, if_neg]
      rintro ⟨a, b, d⟩
      rcases q with q | q | q
      · exact (h9.1 q) a
      · omega
      · omega
    · rw [if_neg q, if_pos]
      refine ⟨?_, by omega, by omega⟩
      have q1 : ¬ (c :: r).length > 9 := fun e => q (.inl e)
      rw [h9] at q1
      omega
theorem parse_cut (l : List Nat) (h : l.length ≤ 32) : parseS l = bodyS (decide (l.head? = some 45)) (cut1 l 45) := by
  unfold parseS cut1
  rw [if_neg (by omega)]
  split
  · rfl
  · rename_i hne
    cases l with
    | nil => rfl
    | cons a r =>
      have : a ≠ 45 := fun e => hne r (by rw [e])
      simp [this]
theorem fr_take (r : List Nat) : r.take (fr r).length = fr r := by
  have h2 : (fr r ++ bk r).take (fr r).length = fr r := List.take_left
  rw [fr_bk] at h2
  exact h2
theorem bk_drop (r : List Nat) : r.drop (fr r).length = bk r := by
  have h2 : (fr r ++ bk r).drop (fr r).length = bk r := List.drop_left
  rw [fr_bk] at h2
  exact h2
end Go.Proofs.YtfjelkjlfcafgaaGreatDoor.NumP
end
section
/- Texts of numbers: num.letters. -/
namespace Go.Proofs.YtfjelkjlfcafgaaGreatDoor.NumV
open Go Go.RowKit Go.Proofs.YtfjelkjlfcafgaaGreatDoor.Ax Go.Proofs.YtfjelkjlfcafgaaGreatDoor.Ti Go.Proofs.YtfjelkjlfcafgaaGreatDoor.BigM Go.Proofs.YtfjelkjlfcafgaaGreatDoor.NumS Go.Proofs.YtfjelkjlfcafgaaGreatDoor.NumA Go.Proofs.YtfjelkjlfcafgaaGreatDoor.NumT Go.Proofs.YtfjelkjlfcafgaaGreatDoor.NumU Go.Proofs.YtfjelkjlfcafgaaGreatDoor.NumL
set_option linter.unusedSimpArgs false
set_option linter.unusedVariables false
set_option maxRecDepth 4000
set_option maxHeartbeats 2000000
theorem rTI : type_of% (cj @ti3 (cj @ti2 (cj @ti4 (cj @ti9 (cj @ti5 (cj @ti36 (cj @ti24 @ti25))))))) := cj @ti3 (cj @ti2 (cj @ti4 (cj @ti9 (cj @ti5 (cj @ti36 (cj @ti24 @ti25))))))

theorem fr_full (d : List Nat) : (fr d).length = d.length ↔ ∀ c ∈ d, isD c = true := by
  constructor
  · intro h
    have h1 := fr_bk d
    have h2 := congrArg List.length h1
    rw [List.length_append] at h2
    have h3 : bk d = [] := List.length_eq_zero_iff.1 (by omega)
    rw [h3, List.append_nil] at h1
    rw [← h1]
    exact fr_all d
  · intro h
    have := (fr_app d [] h (fun c hc => by cases hc)).1
    rw [List.append_nil] at this
    rw [this]
theorem slice_one (c : Nat) (r : List Nat) (n : Nat) (hn : n = r.length + 1) : (bs (c :: r)).extract 1 n = bs r := by
  subst hn
  rw [bs_slice, List.drop_one, List.tail_cons, Nat.add_sub_cancel, List.take_length]
theorem beq_c (l : List Nat) (h : By l) (m : List Nat) (hm : By m) (b : Bool) (hb : decide (l = m) = b) : ((bs l).toList == (bs m).toList) = b := by rw [bs_beq l m h hm, hb]
theorem letters_ax (l : List Nat) (h : By l) (hl : l.length ≤ 1000000000) : PCall Tryz.prog 51 [.v (.string (bs l))] (tailV (lettersS l)) := by
  have hid : idf (tailV (lettersS l)) = true := by cases lettersS l <;> rfl
  refine pcall_of fun s => ?_
  rw [hid]
  by_cases w5 : l = []
  · subst w5
    have e5 : ((bs []).toList == (ByteArray.mk #[]).toList) = true := beq_c [] h [] (letter_by 5) true (by decide)
    have e0 : ((bs []).toList == (ByteArray.mk #[102]).toList) = false := beq_c [] h [102] (letter_by 0) false (by decide)
    have e1 : ((bs []).toList == (ByteArray.mk #[112]).toList) = false := beq_c [] h [112] (letter_by 1) false (by decide)
    have e2 : ((bs []).toList == (ByteArray.mk #[110]).toList) = false := beq_c [] h [110] (letter_by 2) false (by decide)
    have e3 : ((bs []).toList == (ByteArray.mk #[117]).toList) = false := beq_c [] h [117] (letter_by 3) false (by decide)
    have e4 : ((bs []).toList == (ByteArray.mk #[109]).toList) = false := beq_c [] h [109] (letter_by 4) false (by decide)
    have e6 : ((bs []).toList == (ByteArray.mk #[107]).toList) = false := beq_c [] h [107] (letter_by 6) false (by decide)
    have e7 : ((bs []).toList == (ByteArray.mk #[109, 101, 103]).toList) = false := beq_c [] h [109, 101, 103] (letter_by 7) false (by decide)
    have e8 : ((bs []).toList == (ByteArray.mk #[103]).toList) = false := beq_c [] h [103] (letter_by 8) false (by decide)
    have e9 : ((bs []).toList == (ByteArray.mk #[116]).toList) = false := beq_c [] h [116] (letter_by 9) false (by decide)
    rw [show lettersS [] = some (0) from rfl]
    refine acall_of Tryz.func51 rfl rfl (by simp [Tryz.ntmps51]) ?_; rw [Tryz.ntmps51, Tryz.results51]
    refine go (cj rTI (cj @e5 (cj @e0 (cj @e1 (cj @e2 (cj @e3 (cj @e4 (cj @e6 (cj @e7 (cj @e8 @e9)))))))))) ?_
    all_goals (try (refine ifs ?_ ?_ <;> first | exact nope | intro hb; refine go (cj rTI (cj @e5 (cj @e0 (cj @e1 (cj @e2 (cj @e3 (cj @e4 (cj @e6 (cj @e7 (cj @e8 @e9)))))))))) ?_))
    all_goals rfl
  by_cases w0 : l = [102]
  · subst w0
    have e5 : ((bs [102]).toList == (ByteArray.mk #[]).toList) = false := beq_c [102] h [] (letter_by 5) false (by decide)
    have e0 : ((bs [102]).toList == (ByteArray.mk #[102]).toList) = true := beq_c [102] h [102] (letter_by 0) true (by decide)
    have e1 : ((bs [102]).toList == (ByteArray.mk #[112]).toList) = false := beq_c [102] h [112] (letter_by 1) false (by decide)
    have e2 : ((bs [102]).toList == (ByteArray.mk #[110]).toList) = false := beq_c [102] h [110] (letter_by 2) false (by decide)
    have e3 : ((bs [102]).toList == (ByteArray.mk #[117]).toList) = false := beq_c [102] h [117] (letter_by 3) false (by decide)
    have e4 : ((bs [102]).toList == (ByteArray.mk #[109]).toList) = false := beq_c [102] h [109] (letter_by 4) false (by decide)
    have e6 : ((bs [102]).toList == (ByteArray.mk #[107]).toList) = false := beq_c [102] h [107] (letter_by 6) false (by decide)
    have e7 : ((bs [102]).toList == (ByteArray.mk #[109, 101, 103]).toList) = false := beq_c [102] h [109, 101, 103] (letter_by 7) false (by decide)
    have e8 : ((bs [102]).toList == (ByteArray.mk #[103]).toList) = false := beq_c [102] h [103] (letter_by 8) false (by decide)
    have e9 : ((bs [102]).toList == (ByteArray.mk #[116]).toList) = false := beq_c [102] h [116] (letter_by 9) false (by decide)
    rw [show lettersS [102] = some (-15) from rfl]
    refine acall_of Tryz.func51 rfl rfl (by simp [Tryz.ntmps51]) ?_; rw [Tryz.ntmps51, Tryz.results51]
    refine go (cj rTI (cj @e5 (cj @e0 (cj @e1 (cj @e2 (cj @e3 (cj @e4 (cj @e6 (cj @e7 (cj @e8 @e9)))))))))) ?_
    all_goals (try (refine ifs ?_ ?_ <;> first | exact nope | intro hb; refine go (cj rTI (cj @e5 (cj @e0 (cj @e1 (cj @e2 (cj @e3 (cj @e4 (cj @e6 (cj @e7 (cj @e8 @e9)))))))))) ?_))
    all_goals (try (refine ifs ?_ ?_ <;> first | exact nope | intro hb; refine go (cj rTI (cj @e5 (cj @e0 (cj @e1 (cj @e2 (cj @e3 (cj @e4 (cj @e6 (cj @e7 (cj @e8 @e9)))))))))) ?_))
    all_goals rfl
  by_cases w1 : l = [112]
  · subst w1
    have e5 : ((bs [112]).toList == (ByteArray.mk #[]).toList) = false := beq_c [112] h [] (letter_by 5) false (by decide)
    have e0 : ((bs [112]).toList == (ByteArray.mk #[102]).toList) = false := beq_c [112] h [102] (letter_by 0) false (by decide)
    have e1 : ((bs [112]).toList == (ByteArray.mk #[112]).toList) = true := beq_c [112] h [112] (letter_by 1) true (by decide)
    have e2 : ((bs [112]).toList == (ByteArray.mk #[110]).toList) = false := beq_c [112] h [110] (letter_by 2) false (by decide)
    have e3 : ((bs [112]).toList == (ByteArray.mk #[117]).toList) = false := beq_c [112] h [117] (letter_by 3) false (by decide)
    have e4 : ((bs [112]).toList == (ByteArray.mk #[109]).toList) = false := beq_c [112] h [109] (letter_by 4) false (by decide)
    have e6 : ((bs [112]).toList == (ByteArray.mk #[107]).toList) = false := beq_c [112] h [107] (letter_by 6) false (by decide)
    have e7 : ((bs [112]).toList == (ByteArray.mk #[109, 101, 103]).toList) = false := beq_c [112] h [109, 101, 103] (letter_by 7) false (by decide)
    have e8 : ((bs [112]).toList == (ByteArray.mk #[103]).toList) = false := beq_c [112] h [103] (letter_by 8) false (by decide)
    have e9 : ((bs [112]).toList == (ByteArray.mk #[116]).toList) = false := beq_c [112] h [116] (letter_by 9) false (by decide)
    rw [show lettersS [112] = some (-12) from rfl]
    refine acall_of Tryz.func51 rfl rfl (by simp [Tryz.ntmps51]) ?_; rw [Tryz.ntmps51, Tryz.results51]
    refine go (cj rTI (cj @e5 (cj @e0 (cj @e1 (cj @e2 (cj @e3 (cj @e4 (cj @e6 (cj @e7 (cj @e8 @e9)))))))))) ?_
    all_goals (try (refine ifs ?_ ?_ <;> first | exact nope | intro hb; refine go (cj rTI (cj @e5 (cj @e0 (cj @e1 (cj @e2 (cj @e3 (cj @e4 (cj @e6 (cj @e7 (cj @e8 @e9)))))))))) ?_))
    all_goals (try (refine ifs ?_ ?_ <;> first | exact nope | intro hb; refine go (cj rTI (cj @e5 (cj @e0 (cj @e1 (cj @e2 (cj @e3 (cj @e4 (cj @e6 (cj @e7 (cj @e8 @e9)))))))))) ?_))
    all_goals (try (refine ifs ?_ ?_ <;> first | exact nope | intro hb; refine go (cj rTI (cj @e5 (cj @e0 (cj @e1 (cj @e2 (cj @e3 (cj @e4 (cj @e6 (cj @e7 (cj @e8 @e9)))))))))) ?_))
    all_goals rfl
  by_cases w2 : l = [110]
  · subst w2
    have e5 : ((bs [110]).toList == (ByteArray.mk #[]).toList) = false := beq_c [110] h [] (letter_by 5) false (by decide)
    have e0 : ((bs [110]).toList == (ByteArray.mk #[102]).toList) = false := beq_c [110] h [102] (letter_by 0) false (by decide)
    have e1 : ((bs [110]).toList == (ByteArray.mk #[112]).toList) = false := beq_c [110] h [112] (letter_by 1) false (by decide)
    have e2 : ((bs [110]).toList == (ByteArray.mk #[110]).toList) = true := beq_c [110] h [110] (letter_by 2) true (by decide)
    have e3 : ((bs [110]).toList == (ByteArray.mk #[117]).toList) = false := beq_c [110] h [117] (letter_by 3) false (by decide)
    have e4 : ((bs [110]).toList == (ByteArray.mk #[109]).toList) = false := beq_c [110] h [109] (letter_by 4) false (by decide)
    have e6 : ((bs [110]).toList == (ByteArray.mk #[107]).toList) = false := beq_c [110] h [107] (letter_by 6) false (by decide)
    have e7 : ((bs [110]).toList == (ByteArray.mk #[109, 101, 103]).toList) = false := beq_c [110] h [109, 101, 103] (letter_by 7) false (by decide)
    have e8 : ((bs [110]).toList == (ByteArray.mk #[103]).toList) = false := beq_c [110] h [103] (letter_by 8) false (by decide)
    have e9 : ((bs [110]).toList == (ByteArray.mk #[116]).toList) = false := beq_c [110] h [116] (letter_by 9) false (by decide)
    rw [show lettersS [110] = some (-9) from rfl]
    refine acall_of Tryz.func51 rfl rfl (by simp [Tryz.ntmps51]) ?_; rw [Tryz.ntmps51, Tryz.results51]
    refine go (cj rTI (cj @e5 (cj @e0 (cj @e1 (cj @e2 (cj @e3 (cj @e4 (cj @e6 (cj @e7 (cj @e8 @e9)))))))))) ?_
    all_goals (try (refine ifs ?_ ?_ <;> first | exact nope | intro hb; refine go (cj rTI (cj @e5 (cj @e0 (cj @e1 (cj @e2 (cj @e3 (cj @e4 (cj @e6 (cj @e7 (cj @e8 @e9)))))))))) ?_))
    all_goals (try (refine ifs ?_ ?_ <;> first | exact nope | intro hb; refine go (cj rTI (cj @e5 (cj @e0 (cj @e1 (cj @e2 (cj @e3 (cj @e4 (cj @e6 (cj @e7 (cj @e8 @e9)))))))))) ?_))
    all_goals (try (refine ifs ?_ ?_ <;> first | exact nope | intro hb; refine go (cj rTI (cj @e5 (cj @e0 (cj @e1 (cj @e2 (cj @e3 (cj @e4 (cj @e6 (cj @e7 (cj @e8 @e9)))))))))) ?_))
    all_goals (try (refine ifs ?_ ?_ <;> first | exact nope | intro hb; refine go (cj rTI (cj @e5 (cj @e0 (cj @e1 (cj @e2 (cj @e3 (cj @e4 (cj @e6 (cj @e7 (cj @e8 @e9)))))))))) ?_))
    all_goals rfl
  by_cases w3 : l = [117]
  · subst w3
    have e5 : ((bs [117]).toList == (ByteArray.mk #[]).toList) = false := beq_c [117] h [] (letter_by 5) false (by decide)
    have e0 : ((bs [117]).toList == (ByteArray.mk #[102]).toList) = false := beq_c [117] h [102] (letter_by 0) false (by decide)
    have e1 : ((bs [117]).toList == (ByteArray.mk #[112]).toList) = false := beq_c [117] h [112] (letter_by 1) false (by decide)
    have e2 : ((bs [117]).toList == (ByteArray.mk #[110]).toList) = false := beq_c [117] h [110] (letter_by 2) false (by decide)
    have e3 : ((bs [117]).toList == (ByteArray.mk #[117]).toList) = true := beq_c [117] h [117] (letter_by 3) true (by decide)
    have e4 : ((bs [117]).toList == (ByteArray.mk #[109]).toList) = false := beq_c [117] h [109] (letter_by 4) false (by decide)
    have e6 : ((bs [117]).toList == (ByteArray.mk #[107]).toList) = false := beq_c [117] h [107] (letter_by 6) false (by decide)
    have e7 : ((bs [117]).toList == (ByteArray.mk #[109, 101, 103]).toList) = false := beq_c [117] h [109, 101, 103] (letter_by 7) false (by decide)
    have e8 : ((bs [117]).toList == (ByteArray.mk #[103]).toList) = false := beq_c [117] h [103] (letter_by 8) false (by decide)
    have e9 : ((bs [117]).toList == (ByteArray.mk #[116]).toList) = false := beq_c [117] h [116] (letter_by 9) false (by decide)
    rw [show lettersS [117] = some (-6) from rfl]
    refine acall_of Tryz.func51 rfl rfl (by simp [Tryz.ntmps51]) ?_; rw [Tryz.ntmps51, Tryz.results51]
    refine go (cj rTI (cj @e5 (cj @e0 (cj @e1 (cj @e2 (cj @e3 (cj @e4 (cj @e6 (cj @e7 (cj @e8 @e9)))))))))) ?_
    all_goals (try (refine ifs ?_ ?_ <;> first | exact nope | intro hb; refine go (cj rTI (cj @e5 (cj @e0 (cj @e1 (cj @e2 (cj @e3 (cj @e4 (cj @e6 (cj @e7 (cj @e8 @e9)))))))))) ?_))
    all_goals (try (refine ifs ?_ ?_ <;> first | exact nope | intro hb; refine go (cj rTI (cj @e5 (cj @e0 (cj @e1 (cj @e2 (cj @e3 (cj @e4 (cj @e6 (cj @e7 (cj @e8 @e9)))))))))) ?_))
    all_goals (try (refine ifs ?_ ?_ <;> first | exact nope | intro hb; refine go (cj rTI (cj @e5 (cj @e0 (cj @e1 (cj @e2 (cj @e3 (cj @e4 (cj @e6 (cj @e7 (cj @e8 @e9)))))))))) ?_))
    all_goals (try (refine ifs ?_ ?_ <;> first | exact nope | intro hb; refine go (cj rTI (cj @e5 (cj @e0 (cj @e1 (cj @e2 (cj @e3 (cj @e4 (cj @e6 (cj @e7 (cj @e8 @e9)))))))))) ?_))
    all_goals (try (refine ifs ?_ ?_ <;> first | exact nope | intro hb; refine go (cj rTI (cj @e5 (cj @e0 (cj @e1 (cj @e2 (cj @e3 (cj @e4 (cj @e6 (cj @e7 (cj @e8 @e9)))))))))) ?_))
    all_goals rfl
  by_cases w4 : l = [109]
  · subst w4
    have e5 : ((bs [109]).toList == (ByteArray.mk #[]).toList) = false := beq_c [109] h [] (letter_by 5) false (by decide)
    have e0 : ((bs [109]).toList == (ByteArray.mk #[102]).toList) = false := beq_c [109] h [102] (letter_by 0) false (by decide)
    have e1 : ((bs [109]).toList == (ByteArray.mk #[112]).toList) = false := beq_c [109] h [112] (letter_by 1) false (by decide)
    have e2 : ((bs [109]).toList == (ByteArray.mk #[110]).toList) = false := beq_c [109] h [110] (letter_by 2) false (by decide)
    have e3 : ((bs [109]).toList == (ByteArray.mk #[117]).toList) = false := beq_c [109] h [117] (letter_by 3) false (by decide)
    have e4 : ((bs [109]).toList == (ByteArray.mk #[109]).toList) = true := beq_c [109] h [109] (letter_by 4) true (by decide)
    have e6 : ((bs [109]).toList == (ByteArray.mk #[107]).toList) = false := beq_c [109] h [107] (letter_by 6) false (by decide)
    have e7 : ((bs [109]).toList == (ByteArray.mk #[109, 101, 103]).toList) = false := beq_c [109] h [109, 101, 103] (letter_by 7) false (by decide)
    have e8 : ((bs [109]).toList == (ByteArray.mk #[103]).toList) = false := beq_c [109] h [103] (letter_by 8) false (by decide)
    have e9 : ((bs [109]).toList == (ByteArray.mk #[116]).toList) = false := beq_c [109] h [116] (letter_by 9) false (by decide)
    rw [show lettersS [109] = some (-3) from rfl]
    refine acall_of Tryz.func51 rfl rfl (by simp [Tryz.ntmps51]) ?_; rw [Tryz.ntmps51, Tryz.results51]
    refine go (cj rTI (cj @e5 (cj @e0 (cj @e1 (cj @e2 (cj @e3 (cj @e4 (cj @e6 (cj @e7 (cj @e8 @e9)))))))))) ?_
    all_goals (try (refine ifs ?_ ?_ <;> first | exact nope | intro hb; refine go (cj rTI (cj @e5 (cj @e0 (cj @e1 (cj @e2 (cj @e3 (cj @e4 (cj @e6 (cj @e7 (cj @e8 @e9)))))))))) ?_))
    all_goals (try (refine ifs ?_ ?_ <;> first | exact nope | intro hb; refine go (cj rTI (cj @e5 (cj @e0 (cj @e1 (cj @e2 (cj @e3 (cj @e4 (cj @e6 (cj @e7 (cj @e8 @e9)))))))))) ?_))
    all_goals (try (refine ifs ?_ ?_ <;> first | exact nope | intro hb; refine go (cj rTI (cj @e5 (cj @e0 (cj @e1 (cj @e2 (cj @e3 (cj @e4 (cj @e6 (cj @e7 (cj @e8 @e9)))))))))) ?_))
    all_goals (try (refine ifs ?_ ?_ <;> first | exact nope | intro hb; refine go (cj rTI (cj @e5 (cj @e0 (cj @e1 (cj @e2 (cj @e3 (cj @e4 (cj @e6 (cj @e7 (cj @e8 @e9)))))))))) ?_))
    all_goals (try (refine ifs ?_ ?_ <;> first | exact nope | intro hb; refine go (cj rTI (cj @e5 (cj @e0 (cj @e1 (cj @e2 (cj @e3 (cj @e4 (cj @e6 (cj @e7 (cj @e8 @e9)))))))))) ?_))
    all_goals (try (refine ifs ?_ ?_ <;> first | exact nope | intro hb; refine go (cj rTI (cj @e5 (cj @e0 (cj @e1 (cj @e2 (cj @e3 (cj @e4 (cj @e6 (cj @e7 (cj @e8 @e9)))))))))) ?_))
    all_goals rfl
  by_cases w6 : l = [107]
  · subst w6
    have e5 : ((bs [107]).toList == (ByteArray.mk #[]).toList) = false := beq_c [107] h [] (letter_by 5) false (by decide)
    have e0 : ((bs [107]).toList == (ByteArray.mk #[102]).toList) = false := beq_c [107] h [102] (letter_by 0) false (by decide)
    have e1 : ((bs [107]).toList == (ByteArray.mk #[112]).toList) = false := beq_c [107] h [112] (letter_by 1) false (by decide)
    have e2 : ((bs [107]).toList == (ByteArray.mk #[110]).toList) = false := beq_c [107] h [110] (letter_by 2) false (by decide)
    have e3 : ((bs [107]).toList == (ByteArray.mk #[117]).toList) = false := beq_c [107] h [117] (letter_by 3) false (by decide)
    have e4 : ((bs [107]).toList == (ByteArray.mk #[109]).toList) = false := beq_c [107] h [109] (letter_by 4) false (by decide)
    have e6 : ((bs [107]).toList == (ByteArray.mk #[107]).toList) = true := beq_c [107] h [107] (letter_by 6) true (by decide)
    have e7 : ((bs [107]).toList == (ByteArray.mk #[109, 101, 103]).toList) = false := beq_c [107] h [109, 101, 103] (letter_by 7) false (by decide)
    have e8 : ((bs [107]).toList == (ByteArray.mk #[103]).toList) = false := beq_c [107] h [103] (letter_by 8) false (by decide)
    have e9 : ((bs [107]).toList == (ByteArray.mk #[116]).toList) = false := beq_c [107] h [116] (letter_by 9) false (by decide)
    rw [show lettersS [107] = some (3) from rfl]
    refine acall_of Tryz.func51 rfl rfl (by simp [Tryz.ntmps51]) ?_; rw [Tryz.ntmps51, Tryz.results51]
    refine go (cj rTI (cj @e5 (cj @e0 (cj @e1 (cj @e2 (cj @e3 (cj @e4 (cj @e6 (cj @e7 (cj @e8 @e9)))))))))) ?_
    all_goals (try (refine ifs ?_ ?_ <;> first | exact nope | intro hb; refine go (cj rTI (cj @e5 (cj @e0 (cj @e1 (cj @e2 (cj @e3 (cj @e4 (cj @e6 (cj @e7 (cj @e8 @e9)))))))))) ?_))
    all_goals (try (refine ifs ?_ ?_ <;> first | exact nope | intro hb; refine go (cj rTI (cj @e5 (cj @e0 (cj @e1 (cj @e2 (cj @e3 (cj @e4 (cj @e6 (cj @e7 (cj @e8 @e9)))))))))) ?_))
    all_goals (try (refine ifs ?_ ?_ <;> first | exact nope | intro hb; refine go (cj rTI (cj @e5 (cj @e0 (cj @e1 (cj @e2 (cj @e3 (cj @e4 (cj @e6 (cj @e7 (cj @e8 @e9)))))))))) ?_))
    all_goals (try (refine ifs ?_ ?_ <;> first | exact nope | intro hb; refine go (cj rTI (cj @e5 (cj @e0 (cj @e1 (cj @e2 (cj @e3 (cj @e4 (cj @e6 (cj @e7 (cj @e8 @e9)))))))))) ?_))
    all_goals (try (refine ifs ?_ ?_ <;> first | exact nope | intro hb; refine go (cj rTI (cj @e5 (cj @e0 (cj @e1 (cj @e2 (cj @e3 (cj @e4 (cj @e6 (cj @e7 (cj @e8 @e9)))))))))) ?_))
    all_goals (try (refine ifs ?_ ?_ <;> first | exact nope | intro hb; refine go (cj rTI (cj @e5 (cj @e0 (cj @e1 (cj @e2 (cj @e3 (cj @e4 (cj @e6 (cj @e7 (cj @e8 @e9)))))))))) ?_))
    all_goals (try (refine ifs ?_ ?_ <;> first | exact nope | intro hb; refine go (cj rTI (cj @e5 (cj @e0 (cj @e1 (cj @e2 (cj @e3 (cj @e4 (cj @e6 (cj @e7 (cj @e8 @e9)))))))))) ?_))
    all_goals rfl
  by_cases w7 : l = [109, 101, 103]
  · subst w7
    have e5 : ((bs [109, 101, 103]).toList == (ByteArray.mk #[]).toList) = false := beq_c [109, 101, 103] h [] (letter_by 5) false (by decide)
    have e0 : ((bs [109, 101, 103]).toList == (ByteArray.mk #[102]).toList) = false := beq_c [109, 101, 103] h [102] (letter_by 0) false (by decide)
    have e1 : ((bs [109, 101, 103]).toList == (ByteArray.mk #[112]).toList) = false := beq_c [109, 101, 103] h [112] (letter_by 1) false (by decide)
    have e2 : ((bs [109, 101, 103]).toList == (ByteArray.mk #[110]).toList) = false := beq_c [109, 101, 103] h [110] (letter_by 2) false (by decide)
    have e3 : ((bs [109, 101, 103]).toList == (ByteArray.mk #[117]).toList) = false := beq_c [109, 101, 103] h [117] (letter_by 3) false (by decide)
    have e4 : ((bs [109, 101, 103]).toList == (ByteArray.mk #[109]).toList) = false := beq_c [109, 101, 103] h [109] (letter_by 4) false (by decide)
    have e6 : ((bs [109, 101, 103]).toList == (ByteArray.mk #[107]).toList) = false := beq_c [109, 101, 103] h [107] (letter_by 6) false (by decide)
    have e7 : ((bs [109, 101, 103]).toList == (ByteArray.mk #[109, 101, 103]).toList) = true := beq_c [109, 101, 103] h [109, 101, 103] (letter_by 7) true (by decide)
    have e8 : ((bs [109, 101, 103]).toList == (ByteArray.mk #[103]).toList) = false := beq_c [109, 101, 103] h [103] (letter_by 8) false (by decide)
    have e9 : ((bs [109, 101, 103]).toList == (ByteArray.mk #[116]).toList) = false := beq_c [109, 101, 103] h [116] (letter_by 9) false (by decide)
    rw [show lettersS [109, 101, 103] = some (6) from rfl]
    refine acall_of Tryz.func51 rfl rfl (by simp [Tryz.ntmps51]) ?_; rw [Tryz.ntmps51, Tryz.results51]
    refine go (cj rTI (cj @e5 (cj @e0 (cj @e1 (cj @e2 (cj @e3 (cj @e4 (cj @e6 (cj @e7 (cj @e8 @e9)))))))))) ?_
    all_goals (try (refine ifs ?_ ?_ <;> first | exact nope | intro hb; refine go (cj rTI (cj @e5 (cj @e0 (cj @e1 (cj @e2 (cj @e3 (cj @e4 (cj @e6 (cj @e7 (cj @e8 @e9)))))))))) ?_))
    all_goals (try (refine ifs ?_ ?_ <;> first | exact nope | intro hb; refine go (cj rTI (cj @e5 (cj @e0 (cj @e1 (cj @e2 (cj @e3 (cj @e4 (cj @e6 (cj @e7 (cj @e8 @e9)))))))))) ?_))
    all_goals (try (refine ifs ?_ ?_ <;> first | exact nope | intro hb; refine go (cj rTI (cj @e5 (cj @e0 (cj @e1 (cj @e2 (cj @e3 (cj @e4 (cj @e6 (cj @e7 (cj @e8 @e9)))))))))) ?_))
    all_goals (try (refine ifs ?_ ?_ <;> first | exact nope | intro hb; refine go (cj rTI (cj @e5 (cj @e0 (cj @e1 (cj @e2 (cj @e3 (cj @e4 (cj @e6 (cj @e7 (cj @e8 @e9)))))))))) ?_))
    all_goals (try (refine ifs ?_ ?_ <;> first | exact nope | intro hb; refine go (cj rTI (cj @e5 (cj @e0 (cj @e1 (cj @e2 (cj @e3 (cj @e4 (cj @e6 (cj @e7 (cj @e8 @e9)))))))))) ?_))
    all_goals (try (refine ifs ?_ ?_ <;> first | exact nope | intro hb; refine go (cj rTI (cj @e5 (cj @e0 (cj @e1 (cj @e2 (cj @e3 (cj @e4 (cj @e6 (cj @e7 (cj @e8 @e9)))))))))) ?_))
    all_goals (try (refine ifs ?_ ?_ <;> first | exact nope | intro hb; refine go (cj rTI (cj @e5 (cj @e0 (cj @e1 (cj @e2 (cj @e3 (cj @e4 (cj @e6 (cj @e7 (cj @e8 @e9)))))))))) ?_))
    all_goals (try (refine ifs ?_ ?_ <;> first | exact nope | intro hb; refine go (cj rTI (cj @e5 (cj @e0 (cj @e1 (cj @e2 (cj @e3 (cj @e4 (cj @e6 (cj @e7 (cj @e8 @e9)))))))))) ?_))
    all_goals rfl
  by_cases w8 : l = [103]
  · subst w8
    have e5 : ((bs [103]).toList == (ByteArray.mk #[]).toList) = false := beq_c [103] h [] (letter_by 5) false (by decide)
    have e0 : ((bs [103]).toList == (ByteArray.mk #[102]).toList) = false := beq_c [103] h [102] (letter_by 0) false (by decide)
    have e1 : ((bs [103]).toList == (ByteArray.mk #[112]).toList) = false := beq_c [103] h [112] (letter_by 1) false (by decide)
    have e2 : ((bs [103]).toList == (ByteArray.mk #[110]).toList) = false := beq_c [103] h [110] (letter_by 2) false (by decide)
    have e3 : ((bs [103]).toList == (ByteArray.mk #[117]).toList) = false := beq_c [103] h [117] (letter_by 3) false (by decide)
    have e4 : ((bs [103]).toList == (ByteArray.mk #[109]).toList) = false := beq_c [103] h [109] (letter_by 4) false (by decide)
    have e6 : ((bs [103]).toList == (ByteArray.mk #[107]).toList) = false := beq_c [103] h [107] (letter_by 6) false (by decide)
    have e7 : ((bs [103]).toList == (ByteArray.mk #[109, 101, 103]).toList) = false := beq_c [103] h [109, 101, 103] (letter_by 7) false (by decide)
    have e8 : ((bs [103]).toList == (ByteArray.mk #[103]).toList) = true := beq_c [103] h [103] (letter_by 8) true (by decide)
    have e9 : ((bs [103]).toList == (ByteArray.mk #[116]).toList) = false := beq_c [103] h [116] (letter_by 9) false (by decide)
    rw [show lettersS [103] = some (9) from rfl]
    refine acall_of Tryz.func51 rfl rfl (by simp [Tryz.ntmps51]) ?_; rw [Tryz.ntmps51, Tryz.results51]
    refine go (cj rTI (cj @e5 (cj @e0 (cj @e1 (cj @e2 (cj @e3 (cj @e4 (cj @e6 (cj @e7 (cj @e8 @e9)))))))))) ?_
    all_goals (try (refine ifs ?_ ?_ <;> first | exact nope | intro hb; refine go (cj rTI (cj @e5 (cj @e0 (cj @e1 (cj @e2 (cj @e3 (cj @e4 (cj @e6 (cj @e7 (cj @e8 @e9)))))))))) ?_))
    all_goals (try (refine ifs ?_ ?_ <;> first | exact nope | intro hb; refine go (cj rTI (cj @e5 (cj @e0 (cj @e1 (cj @e2 (cj @e3 (cj @e4 (cj @e6 (cj @e7 (cj @e8 @e9)))))))))) ?_))
    all_goals (try (refine ifs ?_ ?_ <;> first | exact nope | intro hb; refine go (cj rTI (cj @e5 (cj @e0 (cj @e1 (cj @e2 (cj @e3 (cj @e4 (cj @e6 (cj @e7 (cj @e8 @e9)))))))))) ?_))
    all_goals (try (refine ifs ?_ ?_ <;> first | exact nope | intro hb; refine go (cj rTI (cj @e5 (cj @e0 (cj @e1 (cj @e2 (cj @e3 (cj @e4 (cj @e6 (cj @e7 (cj @e8 @e9)))))))))) ?_))
    all_goals (try (refine ifs ?_ ?_ <;> first | exact nope | intro hb; refine go (cj rTI (cj @e5 (cj @e0 (cj @e1 (cj @e2 (cj @e3 (cj @e4 (cj @e6 (cj @e7 (cj @e8 @e9)))))))))) ?_))
    all_goals (try (refine ifs ?_ ?_ <;> first | exact nope | intro hb; refine go (cj rTI (cj @e5 (cj @e0 (cj @e1 (cj @e2 (cj @e3 (cj @e4 (cj @e6 (cj @e7 (cj @e8 @e9)))))))))) ?_))
    all_goals (try (refine ifs ?_ ?_ <;> first | exact nope | intro hb; refine go (cj rTI (cj @e5 (cj @e0 (cj @e1 (cj @e2 (cj @e3 (cj @e4 (cj @e6 (cj @e7 (cj @e8 @e9)))))))))) ?_))
    all_goals (try (refine ifs ?_ ?_ <;> first | exact nope | intro hb; refine go (cj rTI (cj @e5 (cj @e0 (cj @e1 (cj @e2 (cj @e3 (cj @e4 (cj @e6 (cj @e7 (cj @e8 @e9)))))))))) ?_))
    all_goals (try (refine ifs ?_ ?_ <;> first | exact nope | intro hb; refine go (cj rTI (cj @e5 (cj @e0 (cj @e1 (cj @e2 (cj @e3 (cj @e4 (cj @e6 (cj @e7 (cj @e8 @e9)))))))))) ?_))
    all_goals rfl
  by_cases w9 : l = [116]
  · subst w9
    have e5 : ((bs [116]).toList == (ByteArray.mk #[]).toList) = false := beq_c [116] h [] (letter_by 5) false (by decide)
    have e0 : ((bs [116]).toList == (ByteArray.mk #[102]).toList) = false := beq_c [116] h [102] (letter_by 0) false (by decide)
    have e1 : ((bs [116]).toList == (ByteArray.mk #[112]).toList) = false := beq_c [116] h [112] (letter_by 1) false (by decide)
    have e2 : ((bs [116]).toList == (ByteArray.mk #[110]).toList) = false := beq_c [116] h [110] (letter_by 2) false (by decide)
    have e3 : ((bs [116]).toList == (ByteArray.mk #[117]).toList) = false := beq_c [116] h [117] (letter_by 3) false (by decide)
    have e4 : ((bs [116]).toList == (ByteArray.mk #[109]).toList) = false := beq_c [116] h [109] (letter_by 4) false (by decide)
    have e6 : ((bs [116]).toList == (ByteArray.mk #[107]).toList) = false := beq_c [116] h [107] (letter_by 6) false (by decide)
    have e7 : ((bs [116]).toList == (ByteArray.mk #[109, 101, 103]).toList) = false := beq_c [116] h [109, 101, 103] (letter_by 7) false (by decide)
    have e8 : ((bs [116]).toList == (ByteArray.mk #[103]).toList) = false := beq_c [116] h [103] (letter_by 8) false (by decide)
    have e9 : ((bs [116]).toList == (ByteArray.mk #[116]).toList) = true := beq_c [116] h [116] (letter_by 9) true (by decide)
    rw [show lettersS [116] = some (12) from rfl]
    refine acall_of Tryz.func51 rfl rfl (by simp [Tryz.ntmps51]) ?_; rw [Tryz.ntmps51, Tryz.results51]
    refine go (cj rTI (cj @e5 (cj @e0 (cj @e1 (cj @e2 (cj @e3 (cj @e4 (cj @e6 (cj @e7 (cj @e8 @e9)))))))))) ?_
    all_goals (try (refine ifs ?_ ?_ <;> first | exact nope | intro hb; refine go (cj rTI (cj @e5 (cj @e0 (cj @e1 (cj @e2 (cj @e3 (cj @e4 (cj @e6 (cj @e7 (cj @e8 @e9)))))))))) ?_))
    all_goals (try (refine ifs ?_ ?_ <;> first | exact nope | intro hb; refine go (cj rTI (cj @e5 (cj @e0 (cj @e1 (cj @e2 (cj @e3 (cj @e4 (cj @e6 (cj @e7 (cj @e8 @e9)))))))))) ?_))
    all_goals (try (refine ifs ?_ ?_ <;> first | exact nope | intro hb; refine go (cj rTI (cj @e5 (cj @e0 (cj @e1 (cj @e2 (cj @e3 (cj @e4 (cj @e6 (cj @e7 (cj @e8 @e9)))))))))) ?_))
    all_goals (try (refine ifs ?_ ?_ <;> first | exact nope | intro hb; refine go (cj rTI (cj @e5 (cj @e0 (cj @e1 (cj @e2 (cj @e3 (cj @e4 (cj @e6 (cj @e7 (cj @e8 @e9)))))))))) ?_))
    all_goals (try (refine ifs ?_ ?_ <;> first | exact nope | intro hb; refine go (cj rTI (cj @e5 (cj @e0 (cj @e1 (cj @e2 (cj @e3 (cj @e4 (cj @e6 (cj @e7 (cj @e8 @e9)))))))))) ?_))
    all_goals (try (refine ifs ?_ ?_ <;> first | exact nope | intro hb; refine go (cj rTI (cj @e5 (cj @e0 (cj @e1 (cj @e2 (cj @e3 (cj @e4 (cj @e6 (cj @e7 (cj @e8 @e9)))))))))) ?_))
    all_goals (try (refine ifs ?_ ?_ <;> first | exact nope | intro hb; refine go (cj rTI (cj @e5 (cj @e0 (cj @e1 (cj @e2 (cj @e3 (cj @e4 (cj @e6 (cj @e7 (cj @e8 @e9)))))))))) ?_))
    all_goals (try (refine ifs ?_ ?_ <;> first | exact nope | intro hb; refine go (cj rTI (cj @e5 (cj @e0 (cj @e1 (cj @e2 (cj @e3 (cj @e4 (cj @e6 (cj @e7 (cj @e8 @e9)))))))))) ?_))
    all_goals (try (refine ifs ?_ ?_ <;> first | exact nope | intro hb; refine go (cj rTI (cj @e5 (cj @e0 (cj @e1 (cj @e2 (cj @e3 (cj @e4 (cj @e6 (cj @e7 (cj @e8 @e9)))))))))) ?_))
    all_goals (try (refine ifs ?_ ?_ <;> first | exact nope | intro hb; refine go (cj rTI (cj @e5 (cj @e0 (cj @e1 (cj @e2 (cj @e3 (cj @e4 (cj @e6 (cj @e7 (cj @e8 @e9)))))))))) ?_))
    all_goals rfl
  have hne : ∀ k, k < 10 → l ≠ letterS k := fun k hk => by
    have : k = 0 ∨ k = 1 ∨ k = 2 ∨ k = 3 ∨ k = 4 ∨ k = 5 ∨ k = 6 ∨ k = 7 ∨ k = 8 ∨ k = 9 := by omega
    rcases this with rfl | rfl | rfl | rfl | rfl | rfl | rfl | rfl | rfl | rfl <;> assumption
  rw [letters_exp l hne]
  clear hne
  have e5 : ((bs l).toList == (ByteArray.mk #[]).toList) = false := beq_c l h [] (letter_by 5) false (decide_eq_false w5)
  have e0 : ((bs l).toList == (ByteArray.mk #[102]).toList) = false := beq_c l h [102] (letter_by 0) false (decide_eq_false w0)
  have e1 : ((bs l).toList == (ByteArray.mk #[112]).toList) = false := beq_c l h [112] (letter_by 1) false (decide_eq_false w1)
  have e2 : ((bs l).toList == (ByteArray.mk #[110]).toList) = false := beq_c l h [110] (letter_by 2) false (decide_eq_false w2)
  have e3 : ((bs l).toList == (ByteArray.mk #[117]).toList) = false := beq_c l h [117] (letter_by 3) false (decide_eq_false w3)
  have e4 : ((bs l).toList == (ByteArray.mk #[109]).toList) = false := beq_c l h [109] (letter_by 4) false (decide_eq_false w4)
  have e6 : ((bs l).toList == (ByteArray.mk #[107]).toList) = false := beq_c l h [107] (letter_by 6) false (decide_eq_false w6)
  have e7 : ((bs l).toList == (ByteArray.mk #[109, 101, 103]).toList) = false := beq_c l h [109, 101, 103] (letter_by 7) false (decide_eq_false w7)
  have e8 : ((bs l).toList == (ByteArray.mk #[103]).toList) = false := beq_c l h [103] (letter_by 8) false (decide_eq_false w8)
  have e9 : ((bs l).toList == (ByteArray.mk #[116]).toList) = false := beq_c l h [116] (letter_by 9) false (decide_eq_false w9)

  obtain ⟨c, r, rfl⟩ : ∃ c r, l = c :: r := by
    cases l with
    | nil => exact absurd rfl w5
    | cons c r => exact ⟨c, r, rfl⟩
  clear w5 w0 w1 w2 w3 w4 w6 w7 w8 w9
  have l1 := bs_size (c :: r)
  have g0 := bs_get (c :: r) h 0
  rw [List.getD_cons_zero] at g0
  rw [List.length_cons] at l1 hl
  have tz : Int.toNat 0 = 0 := rfl
  have t1 : Int.toNat 1 = 1 := rfl
  have hc : c < 256 := h c (by simp)
  have hr : By r := fun x hx => h x (by simp [hx])
  by_cases qe : c = 101
  · subst qe
    rw [show expL (101 :: r) = expS r from rfl]
    have sl := slice_one 101 r (r.length + 1) rfl
    have hp1 := hasPrefix_ax r hr 45 (by decide)
    have hp2 := hasPrefix_ax r hr 43 (by decide)
    have lr := bs_size r
    rcases exp_ways r with ⟨d, hrd, hexp⟩ | ⟨d, hrd, hexp⟩ | ⟨d, hrd, hexp, hn1, hn2⟩
    · obtain rfl : r = 45 :: d := by injection hrd
      have hbd : By d := fun x hx => hr x (by simp [hx])
      have s2 := slice_one 45 d (d.length + 1) rfl
      rw [List.length_cons] at l1 hl lr sl
      rw [show decide ((45 :: d).head? = some 45) = true from rfl] at hp1
      refine acall_of Tryz.func51 rfl rfl (by simp [Tryz.ntmps51]) ?_; rw [Tryz.ntmps51, Tryz.results51]
      refine go (cj rTI (cj @e5 (cj @e0 (cj @e1 (cj @e2 (cj @e3 (cj @e4 (cj @e6 (cj @e7 (cj @e8 @e9)))))))))) ?_
      refine ifs ?_ ?_ <;> first | exact nope | intro hb
      refine go (cj rTI (cj @e5 (cj @e0 (cj @e1 (cj @e2 (cj @e3 (cj @e4 (cj @e6 (cj @e7 (cj @e8 (cj @e9 (cj @l1 (cj @g0 @tz))))))))))))) ?_
      refine ifs ?_ ?_ <;> first | exact nope | intro hb
      refine go (cj rTI (cj @e5 (cj @e0 (cj @e1 (cj @e2 (cj @e3 (cj @e4 (cj @e6 (cj @e7 (cj @e8 (cj @e9 (cj @l1 (cj @g0 @tz))))))))))))) ?_
      refine ifs ?_ ?_ <;> first | exact nope | intro hb
      refine go (cj rTI (cj @e5 (cj @e0 (cj @e1 (cj @e2 (cj @e3 (cj @e4 (cj @e6 (cj @e7 (cj @e8 (cj @e9 (cj @l1 (cj @g0 @tz))))))))))))) ?_
      refine ifs ?_ ?_ <;> first | exact nope | intro hb
      refine go (cj rTI (cj @e5 (cj @e0 (cj @e1 (cj @e2 (cj @e3 (cj @e4 (cj @e6 (cj @e7 (cj @e8 (cj @e9 (cj @l1 (cj @g0 @tz))))))))))))) ?_
      refine ifs ?_ ?_ <;> first | exact nope | intro hb
      refine go (cj rTI (cj @e5 (cj @e0 (cj @e1 (cj @e2 (cj @e3 (cj @e4 (cj @e6 (cj @e7 (cj @e8 (cj @e9 (cj @l1 (cj @g0 @tz))))))))))))) ?_
      refine ifs ?_ ?_ <;> first | exact nope | intro hb
      refine go (cj rTI (cj @e5 (cj @e0 (cj @e1 (cj @e2 (cj @e3 (cj @e4 (cj @e6 (cj @e7 (cj @e8 (cj @e9 (cj @l1 (cj @g0 @tz))))))))))))) ?_
      refine ifs ?_ ?_ <;> first | exact nope | intro hb
      refine go (cj rTI (cj @e5 (cj @e0 (cj @e1 (cj @e2 (cj @e3 (cj @e4 (cj @e6 (cj @e7 (cj @e8 (cj @e9 (cj @l1 (cj @g0 @tz))))))))))))) ?_
      refine ifs ?_ ?_ <;> first | exact nope | intro hb
      refine go (cj rTI (cj @e5 (cj @e0 (cj @e1 (cj @e2 (cj @e3 (cj @e4 (cj @e6 (cj @e7 (cj @e8 (cj @e9 (cj @l1 (cj @g0 @tz))))))))))))) ?_
      refine ifs ?_ ?_ <;> first | exact nope | intro hb
      refine go (cj rTI (cj @e5 (cj @e0 (cj @e1 (cj @e2 (cj @e3 (cj @e4 (cj @e6 (cj @e7 (cj @e8 (cj @e9 (cj @l1 (cj @g0 @tz))))))))))))) ?_
      refine ifs ?_ ?_ <;> first | exact nope | intro hb
      refine go (cj rTI (cj @e5 (cj @e0 (cj @e1 (cj @e2 (cj @e3 (cj @e4 (cj @e6 (cj @e7 (cj @e8 (cj @e9 (cj @l1 (cj @g0 @tz))))))))))))) ?_
      rw [then_normal]
      refine ifs ?_ ?_ <;> first | exact nope | intro hb
      refine go (cj rTI (cj @l1 (cj @t1 @sl))) ?_
      refine aw_reg fun K hK => ?_; refine rn rTI ?_; refine cont_pure hp1 ?_; refine rn rTI ?_; refine hK _ _ ?_; clear hK K
      rw [then_normal]
      refine go trivial ?_
      refine ifs ?_ ?_ <;> first | exact nope | intro hb
      refine go (cj rTI (cj @lr (cj @t1 @s2))) ?_

      rw [hexp]
      have ld := bs_size d
      have hld : d.length ≤ 1000000000 := by omega
      have hrun := run_ax d hbd hld
      have hfl := fr_le d
      by_cases q1 : d.length < 1
      · rw [two_bad d (fun h => by omega)]
        refine go (cj rTI @ld) ?_
        refine ifs ?_ ?_ <;> first | exact nope | intro hb
        refine go trivial ?_
        all_goals rfl
      · by_cases q2 : 2 < d.length
        · rw [two_bad d (fun h => by omega)]
          refine go (cj rTI @ld) ?_
          refine ifs ?_ ?_ <;> first | exact nope | intro hb
          refine go trivial ?_
          all_goals rfl
        · have htwo := two_good d (by omega) (by omega)
          have hff := fr_full d
          by_cases q3 : (fr d).length = d.length
          · have hall := hff.1 q3
            have hat := atoi_ax d hall (fun e => by rw [e] at q1; simp at q1) (by omega)
            have hvb : digV d ≤ 99 := digV_two d (by omega) hall
            rw [htwo, if_pos hall]
            clear hff htwo hall
            refine aw_reg fun K hK => ?_; refine rn (cj rTI @ld) ?_; refine cont_pure hrun ?_; refine rn (cj rTI @ld) ?_; refine hK _ _ ?_; clear hK K
            rw [then_normal]
            refine ifs ?_ ?_ <;> first | exact nope | intro hb
            refine go trivial ?_
            generalize digV d = v at *
            refine aw_reg fun K hK => ?_; refine rn rTI ?_; refine cont_pure hat ?_; refine rn rTI ?_; refine hK _ _ ?_; clear hK K
            rw [then_normal]
            refine go trivial ?_
            refine ifs ?_ ?_ <;> first | exact nope | intro hb
            refine go trivial ?_
            show _ = AV.tp [.v (.int .i64 (-(v : Int))), _]; simp
          · rw [htwo, if_neg (fun h => q3 (hff.2 h))]
            clear hff htwo
            refine aw_reg fun K hK => ?_; refine rn (cj rTI @ld) ?_; refine cont_pure hrun ?_; refine rn (cj rTI @ld) ?_; refine hK _ _ ?_; clear hK K
            rw [then_normal]
            refine ifs ?_ ?_ <;> first | exact nope | intro hb
            refine go trivial ?_
            all_goals rfl
    · obtain rfl : r = 43 :: d := by injection hrd
      have hbd : By d := fun x hx => hr x (by simp [hx])
      have s2 := slice_one 43 d (d.length + 1) rfl
      rw [List.length_cons] at l1 hl lr sl
      rw [show decide ((43 :: d).head? = some 45) = false from rfl] at hp1
      rw [show decide ((43 :: d).head? = some 43) = true from rfl] at hp2
      refine acall_of Tryz.func51 rfl rfl (by simp [Tryz.ntmps51]) ?_; rw [Tryz.ntmps51, Tryz.results51]
      refine go (cj rTI (cj @e5 (cj @e0 (cj @e1 (cj @e2 (cj @e3 (cj @e4 (cj @e6 (cj @e7 (cj @e8 @e9)))))))))) ?_
      refine ifs ?_ ?_ <;> first | exact nope | intro hb
      refine go (cj rTI (cj @e5 (cj @e0 (cj @e1 (cj @e2 (cj @e3 (cj @e4 (cj @e6 (cj @e7 (cj @e8 (cj @e9 (cj @l1 (cj @g0 @tz))))))))))))) ?_
      refine ifs ?_ ?_ <;> first | exact nope | intro hb
      refine go (cj rTI (cj @e5 (cj @e0 (cj @e1 (cj @e2 (cj @e3 (cj @e4 (cj @e6 (cj @e7 (cj @e8 (cj @e9 (cj @l1 (cj @g0 @tz))))))))))))) ?_
      refine ifs ?_ ?_ <;> first | exact nope | intro hb
      refine go (cj rTI (cj @e5 (cj @e0 (cj @e1 (cj @e2 (cj @e3 (cj @e4 (cj @e6 (cj @e7 (cj @e8 (cj @e9 (cj @l1 (cj @g0 @tz))))))))))))) ?_
      refine ifs ?_ ?_ <;> first | exact nope | intro hb
      refine go (cj rTI (cj @e5 (cj @e0 (cj @e1 (cj @e2 (cj @e3 (cj @e4 (cj @e6 (cj @e7 (cj @e8 (cj @e9 (cj @l1 (cj @g0 @tz))))))))))))) ?_
      refine ifs ?_ ?_ <;> first | exact nope | intro hb
      refine go (cj rTI (cj @e5 (cj @e0 (cj @e1 (cj @e2 (cj @e3 (cj @e4 (cj @e6 (cj @e7 (cj @e8 (cj @e9 (cj @l1 (cj @g0 @tz))))))))))))) ?_
      refine ifs ?_ ?_ <;> first | exact nope | intro hb
      refine go (cj rTI (cj @e5 (cj @e0 (cj @e1 (cj @e2 (cj @e3 (cj @e4 (cj @e6 (cj @e7 (cj @e8 (cj @e9 (cj @l1 (cj @g0 @tz))))))))))))) ?_
      refine ifs ?_ ?_ <;> first | exact nope | intro hb
      refine go (cj rTI (cj @e5 (cj @e0 (cj @e1 (cj @e2 (cj @e3 (cj @e4 (cj @e6 (cj @e7 (cj @e8 (cj @e9 (cj @l1 (cj @g0 @tz))))))))))))) ?_
      refine ifs ?_ ?_ <;> first | exact nope | intro hb
      refine go (cj rTI (cj @e5 (cj @e0 (cj @e1 (cj @e2 (cj @e3 (cj @e4 (cj @e6 (cj @e7 (cj @e8 (cj @e9 (cj @l1 (cj @g0 @tz))))))))))))) ?_
      refine ifs ?_ ?_ <;> first | exact nope | intro hb
      refine go (cj rTI (cj @e5 (cj @e0 (cj @e1 (cj @e2 (cj @e3 (cj @e4 (cj @e6 (cj @e7 (cj @e8 (cj @e9 (cj @l1 (cj @g0 @tz))))))))))))) ?_
      refine ifs ?_ ?_ <;> first | exact nope | intro hb
      refine go (cj rTI (cj @e5 (cj @e0 (cj @e1 (cj @e2 (cj @e3 (cj @e4 (cj @e6 (cj @e7 (cj @e8 (cj @e9 (cj @l1 (cj @g0 @tz))))))))))))) ?_
      rw [then_normal]
      refine ifs ?_ ?_ <;> first | exact nope | intro hb
      refine go (cj rTI (cj @l1 (cj @t1 @sl))) ?_
      refine aw_reg fun K hK => ?_; refine rn rTI ?_; refine cont_pure hp1 ?_; refine rn rTI ?_; refine hK _ _ ?_; clear hK K
      rw [then_normal]
      refine go trivial ?_
      refine aw_reg fun K hK => ?_; refine rn rTI ?_; refine cont_pure hp2 ?_; refine rn rTI ?_; refine hK _ _ ?_; clear hK K
      rw [then_normal]
      refine ifs ?_ ?_ <;> first | exact nope | intro hb
      refine go (cj rTI (cj @lr (cj @t1 @s2))) ?_

      rw [hexp]
      have ld := bs_size d
      have hld : d.length ≤ 1000000000 := by omega
      have hrun := run_ax d hbd hld
      have hfl := fr_le d
      by_cases q1 : d.length < 1
      · rw [two_bad d (fun h => by omega)]
        refine go (cj rTI @ld) ?_
        refine ifs ?_ ?_ <;> first | exact nope | intro hb
        refine go trivial ?_
        all_goals rfl
      · by_cases q2 : 2 < d.length
        · rw [two_bad d (fun h => by omega)]
          refine go (cj rTI @ld) ?_
          refine ifs ?_ ?_ <;> first | exact nope | intro hb
          refine go trivial ?_
          all_goals rfl
        · have htwo := two_good d (by omega) (by omega)
          have hff := fr_full d
          by_cases q3 : (fr d).length = d.length
          · have hall := hff.1 q3
            have hat := atoi_ax d hall (fun e => by rw [e] at q1; simp at q1) (by omega)
            have hvb : digV d ≤ 99 := digV_two d (by omega) hall
            rw [htwo, if_pos hall]
            clear hff htwo hall
            refine aw_reg fun K hK => ?_; refine rn (cj rTI @ld) ?_; refine cont_pure hrun ?_; refine rn (cj rTI @ld) ?_; refine hK _ _ ?_; clear hK K
            rw [then_normal]
            refine ifs ?_ ?_ <;> first | exact nope | intro hb
            refine go trivial ?_
            generalize digV d = v at *
            refine aw_reg fun K hK => ?_; refine rn rTI ?_; refine cont_pure hat ?_; refine rn rTI ?_; refine hK _ _ ?_; clear hK K
            rw [then_normal]
            refine go trivial ?_
            refine ifs ?_ ?_ <;> first | exact nope | intro hb
            refine go trivial ?_
            show _ = AV.tp [.v (.int .i64 (v : Int)), _]; simp
          · rw [htwo, if_neg (fun h => q3 (hff.2 h))]
            clear hff htwo
            refine aw_reg fun K hK => ?_; refine rn (cj rTI @ld) ?_; refine cont_pure hrun ?_; refine rn (cj rTI @ld) ?_; refine hK _ _ ?_; clear hK K
            rw [then_normal]
            refine ifs ?_ ?_ <;> first | exact nope | intro hb
            refine go trivial ?_
            all_goals rfl
    · obtain rfl : r = d := by injection hrd
      have hbd := hr
      have hh1 : decide (r.head? = some 45) = false := by cases r with | nil => rfl | cons a r => simpa using hn1
      have hh2 : decide (r.head? = some 43) = false := by cases r with | nil => rfl | cons a r => simpa using hn2
      rw [hh1] at hp1
      rw [hh2] at hp2
      refine acall_of Tryz.func51 rfl rfl (by simp [Tryz.ntmps51]) ?_; rw [Tryz.ntmps51, Tryz.results51]
      refine go (cj rTI (cj @e5 (cj @e0 (cj @e1 (cj @e2 (cj @e3 (cj @e4 (cj @e6 (cj @e7 (cj @e8 @e9)))))))))) ?_
      refine ifs ?_ ?_ <;> first | exact nope | intro hb
      refine go (cj rTI (cj @e5 (cj @e0 (cj @e1 (cj @e2 (cj @e3 (cj @e4 (cj @e6 (cj @e7 (cj @e8 (cj @e9 (cj @l1 (cj @g0 @tz))))))))))))) ?_
      refine ifs ?_ ?_ <;> first | exact nope | intro hb
      refine go (cj rTI (cj @e5 (cj @e0 (cj @e1 (cj @e2 (cj @e3 (cj @e4 (cj @e6 (cj @e7 (cj @e8 (cj @e9 (cj @l1 (cj @g0 @tz))))))))))))) ?_
      refine ifs ?_ ?_ <;> first | exact nope | intro hb
      refine go (cj rTI (cj @e5 (cj @e0 (cj @e1 (cj @e2 (cj @e3 (cj @e4 (cj @e6 (cj @e7 (cj @e8 (cj @e9 (cj @l1 (cj @g0 @tz))))))))))))) ?_
      refine ifs ?_ ?_ <;> first | exact nope | intro hb
      refine go (cj rTI (cj @e5 (cj @e0 (cj @e1 (cj @e2 (cj @e3 (cj @e4 (cj @e6 (cj @e7 (cj @e8 (cj @e9 (cj @l1 (cj @g0 @tz))))))))))))) ?_
      refine ifs ?_ ?_ <;> first | exact nope | intro hb
      refine go (cj rTI (cj @e5 (cj @e0 (cj @e1 (cj @e2 (cj @e3 (cj @e4 (cj @e6 (cj @e7 (cj @e8 (cj @e9 (cj @l1 (cj @g0 @tz))))))))))))) ?_
      refine ifs ?_ ?_ <;> first | exact nope | intro hb
      refine go (cj rTI (cj @e5 (cj @e0 (cj @e1 (cj @e2 (cj @e3 (cj @e4 (cj @e6 (cj @e7 (cj @e8 (cj @e9 (cj @l1 (cj @g0 @tz))))))))))))) ?_
      refine ifs ?_ ?_ <;> first | exact nope | intro hb
      refine go (cj rTI (cj @e5 (cj @e0 (cj @e1 (cj @e2 (cj @e3 (cj @e4 (cj @e6 (cj @e7 (cj @e8 (cj @e9 (cj @l1 (cj @g0 @tz))))))))))))) ?_
      refine ifs ?_ ?_ <;> first | exact nope | intro hb
      refine go (cj rTI (cj @e5 (cj @e0 (cj @e1 (cj @e2 (cj @e3 (cj @e4 (cj @e6 (cj @e7 (cj @e8 (cj @e9 (cj @l1 (cj @g0 @tz))))))))))))) ?_
      refine ifs ?_ ?_ <;> first | exact nope | intro hb
      refine go (cj rTI (cj @e5 (cj @e0 (cj @e1 (cj @e2 (cj @e3 (cj @e4 (cj @e6 (cj @e7 (cj @e8 (cj @e9 (cj @l1 (cj @g0 @tz))))))))))))) ?_
      refine ifs ?_ ?_ <;> first | exact nope | intro hb
      refine go (cj rTI (cj @e5 (cj @e0 (cj @e1 (cj @e2 (cj @e3 (cj @e4 (cj @e6 (cj @e7 (cj @e8 (cj @e9 (cj @l1 (cj @g0 @tz))))))))))))) ?_
      rw [then_normal]
      refine ifs ?_ ?_ <;> first | exact nope | intro hb
      refine go (cj rTI (cj @l1 (cj @t1 @sl))) ?_
      refine aw_reg fun K hK => ?_; refine rn rTI ?_; refine cont_pure hp1 ?_; refine rn rTI ?_; refine hK _ _ ?_; clear hK K
      rw [then_normal]
      refine go trivial ?_
      refine aw_reg fun K hK => ?_; refine rn rTI ?_; refine cont_pure hp2 ?_; refine rn rTI ?_; refine hK _ _ ?_; clear hK K
      rw [then_normal]
      refine ifs ?_ ?_ <;> first | exact nope | intro hb
      refine go trivial ?_

      rw [hexp]
      have ld := bs_size r
      have hld : r.length ≤ 1000000000 := by omega
      have hrun := run_ax r hbd hld
      have hfl := fr_le r
      by_cases q1 : r.length < 1
      · rw [two_bad r (fun h => by omega)]
        refine go (cj rTI @ld) ?_
        refine ifs ?_ ?_ <;> first | exact nope | intro hb
        refine go trivial ?_
        all_goals rfl
      · by_cases q2 : 2 < r.length
        · rw [two_bad r (fun h => by omega)]
          refine go (cj rTI @ld) ?_
          refine ifs ?_ ?_ <;> first | exact nope | intro hb
          refine go trivial ?_
          all_goals rfl
        · have htwo := two_good r (by omega) (by omega)
          have hff := fr_full r
          by_cases q3 : (fr r).length = r.length
          · have hall := hff.1 q3
            have hat := atoi_ax r hall (fun e => by rw [e] at q1; simp at q1) (by omega)
            have hvb : digV r ≤ 99 := digV_two r (by omega) hall
            rw [htwo, if_pos hall]
            clear hff htwo hall
            refine aw_reg fun K hK => ?_; refine rn (cj rTI @ld) ?_; refine cont_pure hrun ?_; refine rn (cj rTI @ld) ?_; refine hK _ _ ?_; clear hK K
            rw [then_normal]
            refine ifs ?_ ?_ <;> first | exact nope | intro hb
            refine go trivial ?_
            generalize digV r = v at *
            refine aw_reg fun K hK => ?_; refine rn rTI ?_; refine cont_pure hat ?_; refine rn rTI ?_; refine hK _ _ ?_; clear hK K
            rw [then_normal]
            refine go trivial ?_
            refine ifs ?_ ?_ <;> first | exact nope | intro hb
            refine go trivial ?_
            show _ = AV.tp [.v (.int .i64 (v : Int)), _]; simp
          · rw [htwo, if_neg (fun h => q3 (hff.2 h))]
            clear hff htwo
            refine aw_reg fun K hK => ?_; refine rn (cj rTI @ld) ?_; refine cont_pure hrun ?_; refine rn (cj rTI @ld) ?_; refine hK _ _ ?_; clear hK K
            rw [then_normal]
            refine ifs ?_ ?_ <;> first | exact nope | intro hb
            refine go trivial ?_
            all_goals rfl
  · rw [show expL (c :: r) = none by unfold expL; split <;> simp_all]
    refine acall_of Tryz.func51 rfl rfl (by simp [Tryz.ntmps51]) ?_; rw [Tryz.ntmps51, Tryz.results51]
    refine go (cj rTI (cj @e5 (cj @e0 (cj @e1 (cj @e2 (cj @e3 (cj @e4 (cj @e6 (cj @e7 (cj @e8 @e9)))))))))) ?_
    refine ifs ?_ ?_ <;> first | exact nope | intro hb
    refine go (cj rTI (cj @e5 (cj @e0 (cj @e1 (cj @e2 (cj @e3 (cj @e4 (cj @e6 (cj @e7 (cj @e8 (cj @e9 (cj @l1 (cj @g0 @tz))))))))))))) ?_
    refine ifs ?_ ?_ <;> first | exact nope | intro hb
    refine go (cj rTI (cj @e5 (cj @e0 (cj @e1 (cj @e2 (cj @e3 (cj @e4 (cj @e6 (cj @e7 (cj @e8 (cj @e9 (cj @l1 (cj @g0 @tz))))))))))))) ?_
    refine ifs ?_ ?_ <;> first | exact nope | intro hb
    refine go (cj rTI (cj @e5 (cj @e0 (cj @e1 (cj @e2 (cj @e3 (cj @e4 (cj @e6 (cj @e7 (cj @e8 (cj @e9 (cj @l1 (cj @g0 @tz))))))))))))) ?_
    refine ifs ?_ ?_ <;> first | exact nope | intro hb
    refine go (cj rTI (cj @e5 (cj @e0 (cj @e1 (cj @e2 (cj @e3 (cj @e4 (cj @e6 (cj @e7 (cj @e8 (cj @e9 (cj @l1 (cj @g0 @tz))))))))))))) ?_
    refine ifs ?_ ?_ <;> first | exact nope | intro hb
    refine go (cj rTI (cj @e5 (cj @e0 (cj @e1 (cj @e2 (cj @e3 (cj @e4 (cj @e6 (cj @e7 (cj @e8 (cj @e9 (cj @l1 (cj @g0 @tz))))))))))))) ?_
    refine ifs ?_ ?_ <;> first | exact nope | intro hb
    refine go (cj rTI (cj @e5 (cj @e0 (cj @e1 (cj @e2 (cj @e3 (cj @e4 (cj @e6 (cj @e7 (cj @e8 (cj @e9 (cj @l1 (cj @g0 @tz))))))))))))) ?_
    refine ifs ?_ ?_ <;> first | exact nope | intro hb
    refine go (cj rTI (cj @e5 (cj @e0 (cj @e1 (cj @e2 (cj @e3 (cj @e4 (cj @e6 (cj @e7 (cj @e8 (cj @e9 (cj @l1 (cj @g0 @tz))))))))))))) ?_
    refine ifs ?_ ?_ <;> first | exact nope | intro hb
    refine go (cj rTI (cj @e5 (cj @e0 (cj @e1 (cj @e2 (cj @e3 (cj @e4 (cj @e6 (cj @e7 (cj @e8 (cj @e9 (cj @l1 (cj @g0 @tz))))))))))))) ?_
    refine ifs ?_ ?_ <;> first | exact nope | intro hb
    refine go (cj rTI (cj @e5 (cj @e0 (cj @e1 (cj @e2 (cj @e3 (cj @e4 (cj @e6 (cj @e7 (cj @e8 (cj @e9 (cj @l1 (cj @g0 @tz))))))))))))) ?_
    refine ifs ?_ ?_ <;> first | exact nope | intro hb
    refine go (cj rTI (cj @e5 (cj @e0 (cj @e1 (cj @e2 (cj @e3 (cj @e4 (cj @e6 (cj @e7 (cj @e8 (cj @e9 (cj @l1 (cj @g0 @tz))))))))))))) ?_
    rw [then_normal]
    refine ifs ?_ ?_ <;> first | exact nope | intro hb
    refine go trivial ?_
    all_goals rfl
end Go.Proofs.YtfjelkjlfcafgaaGreatDoor.NumV
end
section
/- Texts of numbers: num.Parse. -/
namespace Go.Proofs.YtfjelkjlfcafgaaGreatDoor.NumW
open Go Go.RowKit Go.Proofs.YtfjelkjlfcafgaaGreatDoor.Ax Go.Proofs.YtfjelkjlfcafgaaGreatDoor.Ti Go.Proofs.YtfjelkjlfcafgaaGreatDoor.BigM Go.Proofs.YtfjelkjlfcafgaaGreatDoor.NumS Go.Proofs.YtfjelkjlfcafgaaGreatDoor.NumA Go.Proofs.YtfjelkjlfcafgaaGreatDoor.NumT Go.Proofs.YtfjelkjlfcafgaaGreatDoor.NumU Go.Proofs.YtfjelkjlfcafgaaGreatDoor.NumL Go.Proofs.YtfjelkjlfcafgaaGreatDoor.NumV Go.Proofs.YtfjelkjlfcafgaaGreatDoor.NumP
set_option linter.unusedSimpArgs false
set_option linter.unusedVariables false
set_option maxRecDepth 4000
set_option maxHeartbeats 2000000
theorem rTI : type_of% (cj @ti3 (cj @ti2 (cj @ti4 (cj @ti9 (cj @ti5 (cj @ti36 (cj @ti24 @ti25))))))) := cj @ti3 (cj @ti2 (cj @ti4 (cj @ti9 (cj @ti5 (cj @ti36 (cj @ti24 @ti25))))))

theorem aw_way {P : Program} {x : Code} {m0 : Nat} {e : Env} {s : St} {Q : Exit → Env → St → Prop} (I : Env → St → Prop) (h1 : AW P x m0 e s fun ex e' s' => (ex = .normal ∧ I e' s') ∨ (ex = .ret ∧ Q .ret e' s')) (h2 : ∀ e' s', I e' s' → Q .normal e' s') : AW P x m0 e s Q :=
  aw_mono h1 fun ex e' s' h => by
    rcases h with ⟨hn, hI⟩ | ⟨hn, hQ⟩
    · subst hn; exact h2 e' s' hI
    · subst hn; exact hQ
def parseV (p : Int × Int × Int) : AV := .tp [NM p.1 p.2.1, .v (.int .i64 p.2.2)]
theorem slice_to (l : List Nat) (k : Nat) : (bs l).extract 0 k = bs (l.take k) := by
  rw [bs_slice, List.drop_zero, Nat.sub_zero]
theorem slice_from (l : List Nat) (k n : Nat) (hn : n = l.length) : (bs l).extract k n = bs (l.drop k) := by
  rw [bs_slice]
  congr 1
  rw [List.take_of_length_le (by rw [List.length_drop]; omega)]
theorem by_sub {l : List Nat} (h : By l) {m : List Nat} (hm : ∀ c ∈ m, c ∈ l) : By m := fun c hc => h c (hm c hc)
theorem bk_mem (r : List Nat) : ∀ c ∈ bk r, c ∈ r := fun c hc => by rw [← fr_bk r]; exact List.mem_append_right _ hc
theorem cut_mem (l : List Nat) : ∀ c ∈ cut1 l 45, c ∈ l := fun c hc => by
  unfold cut1 at hc
  split at hc
  · exact List.mem_of_mem_tail hc
  · exact hc
theorem cut_len (l : List Nat) : (cut1 l 45).length ≤ l.length := by
  unfold cut1
  split
  · rw [List.length_tail]; omega
  · exact Nat.le_refl _
theorem two_bound (d : List Nat) (v : Int) (h : two d = some v) : 0 ≤ v ∧ v ≤ 99 := by
  unfold two at h
  split at h
  · split at h
    · rename_i hd
      have := (isD_iff _).1 hd
      injection h with h
      omega
    · cases h
  · split at h
    · rename_i hd
      rw [Bool.and_eq_true] at hd
      have h1 := (isD_iff _).1 hd.1
      have h2 := (isD_iff _).1 hd.2
      injection h with h
      omega
    · cases h
  · cases h
theorem exp_bound (d : List Nat) (v : Int) (h : expS d = some v) : -99 ≤ v ∧ v ≤ 99 := by
  unfold expS at h
  split at h
  · rename_i r
    cases hr : two r with
    | none => rw [hr] at h; cases h
    | some w =>
      rw [hr] at h
      have := two_bound r w hr
      have h' : -w = v := by simpa using h
      omega
  · have := two_bound _ v h
    omega
  · have := two_bound _ v h
    omega
theorem letters_bound (l : List Nat) (v : Int) (h : lettersS l = some v) : -99 ≤ v ∧ v ≤ 99 := by
  unfold lettersS at h
  split at h
  all_goals first
    | (injection h with h; omega)
    | exact exp_bound _ _ h
    | cases h
def fin3 (neg : Bool) (ds : List Nat) (x : Int) : Option Int → Int × Int × Int
  | none => (0, 0, 3)
  | some e => finS neg (digV ds) (x + e)
theorem body_no (neg : Bool) (r : List Nat) (h0 : fr r ≠ []) (h1 : ¬ (bk r).head? = some 46) : bodyS neg r = fin3 neg (fr r) 0 (lettersS (bk r)) := by
  unfold bodyS
  rw [if_neg h0]
  split
  · rename_i q hq
    rw [hq] at h1
    exact absurd rfl h1
  · unfold fin3
    split <;> simp_all
theorem body_pt (neg : Bool) (r q : List Nat) (h0 : fr r ≠ []) (h1 : bk r = 46 :: q) : bodyS neg r = if fr q = [] then (0, 0, 3) else fin3 neg (fr r ++ fr q) (-((fr q).length : Int)) (lettersS (bk q)) := by
  unfold bodyS
  rw [if_neg h0, h1]
  simp only
  by_cases h2 : fr q = []
  · rw [if_pos h2, if_pos h2]
  · rw [if_neg h2, if_neg h2]
    unfold fin3
    split
    · rename_i hh; first | rfl | rw [hh]
    · rename_i e hh
      first
        | (rw [hh]; simp only; congr 1; omega)
        | (congr 1; omega)
theorem parse_ax (l : List Nat) (h : By l) (hl : l.length ≤ 1000000000) : PCall Tryz.prog 14 [.v (.string (bs l))] (parseV (parseS l)) := by
  refine pcall_of fun s => ?_
  rw [show idf (parseV (parseS l)) = true from rfl]
  have l1 := bs_size l
  have p0 : (s.push [.v (.int .i64 0), .v (.int .i64 0)]).get s.nx = some [.v (.int .i64 0), .v (.int .i64 0)] := St.push_same _ _
  by_cases q32 : 32 < l.length
  · rw [show parseS l = (0, 0, 3) by unfold parseS; rw [if_pos q32]]
    show ACall _ _ _ _ fun r' s' => r' = .tp [.ag [.v (.int .i64 0), .v (.int .i64 0)], .v (.int .i64 3)] ∧ _
    refine acall_of Tryz.func14 rfl rfl (by simp [Tryz.ntmps14]) ?_; rw [Tryz.ntmps14, Tryz.results14]
    refine go (cj rTI @l1) ?_
    refine ifs ?_ ?_ <;> first | exact nope | intro hb
    refine go rTI ?_
    exact fun i hi => by rw [if_neg (by omega)]
  · have hcut := cutPrefix_ax l h 45 (by decide)
    have hb1 := by_sub h (cut_mem l)
    have hlc := cut_len l
    rw [parse_cut l (by omega)]
    generalize cut1 l 45 = r at *
    generalize decide (l.head? = some 45) = neg at *
    have hrun := run_ax r hb1 (by omega)
    have lr := bs_size r
    have hfl := fr_le r
    refine acall_of Tryz.func14 rfl rfl (by simp [Tryz.ntmps14]) ?_; rw [Tryz.ntmps14, Tryz.results14]
    refine go (cj rTI @l1) ?_
    refine ifs ?_ ?_ <;> first | exact nope | intro hb
    refine go rTI ?_
    refine aw_reg fun K hK => ?_; refine rn rTI ?_; refine cont_pure hcut ?_; refine rn rTI ?_; refine hK _ _ ?_; clear hK K
    rw [then_normal]
    refine go trivial ?_
    refine aw_reg fun K hK => ?_; refine rn rTI ?_; refine cont_pure hrun ?_; refine rn rTI ?_; refine hK _ _ ?_; clear hK K
    rw [then_normal]
    by_cases q0 : (fr r).length = 0
    · have hf0 : fr r = [] := List.length_eq_zero_iff.1 q0
      have hbs : bodyS neg r = (0, 0, 3) := by unfold bodyS; rw [if_pos hf0]
      rw [hbs]
      show AW _ _ _ _ _ (fpost _ _ fun r' s' => r' = .tp [.ag [.v (.int .i64 0), .v (.int .i64 0)], .v (.int .i64 3)] ∧ _)
      refine go rTI ?_
      refine ifs ?_ ?_ <;> first | exact nope | intro hb
      refine go rTI ?_
      exact fun i hi => by rw [if_neg (by omega)]
    · have sl1 := slice_to r (fr r).length
      have sl2 := slice_from r (fr r).length r.length rfl
      rw [fr_take] at sl1
      rw [bk_drop] at sl2
      have tz : Int.toNat 0 = 0 := rfl
      refine go rTI ?_
      refine ifs ?_ ?_ <;> first | exact nope | intro hb
      refine go (cj rTI (cj @lr (cj @sl1 (cj @sl2 @tz)))) ?_
      have hfn : fr r ≠ [] := fun e => q0 (by rw [e]; rfl)
      have hb2 : By (bk r) := by_sub hb1 (bk_mem r)
      have hpre := hasPrefix_ax (bk r) hb2 46 (by decide)
      have hlk : (bk r).length ≤ r.length := by have := congrArg List.length (fr_bk r); rw [List.length_append] at this; omega
      have hfd := fr_all r
      have lk := bs_size (bk r)
      have ppush : ∀ i, i < s.nx → (s.push [.v (.int .i64 0), .v (.int .i64 0)]).get i = s.get i := fun i hi => St.push_ne _ _ _ (by omega)
      refine aw_reg fun K hK => ?_; refine rn rTI ?_; refine cont_pure hpre ?_; refine rn rTI ?_; refine hK _ _ ?_; clear hK K
      rw [then_normal]
      refine aw_way (fun e s' => ∃ (ds r3 : List Nat) (x : Int), e.n = 102 ∧ e.m 2 = .ptr s.nx 0 ∧ e.m 4 = .v (.string (bs r3)) ∧ e.m 5 = .v (.bool neg) ∧ e.m 7 = .v (.string (bs ds)) ∧ e.m 8 = .v (.int .i64 x) ∧ By r3 ∧ r3.length ≤ 32 ∧ (∀ c ∈ ds, isD c = true) ∧ ds.length ≤ 64 ∧ -32 ≤ x ∧ x ≤ 0 ∧ bodyS neg r = fin3 neg ds x (lettersS r3) ∧ s'.get s.nx = some [.v (.int .i64 0), .v (.int .i64 0)] ∧ ∀ i, i < s.nx → s'.get i = s.get i) ?_ ?_
      · by_cases qp : (bk r).head? = some 46
        · rw [decide_eq_true qp]
          obtain ⟨q, hq⟩ : ∃ q, bk r = 46 :: q := by
            cases hk : bk r with
            | nil => rw [hk] at qp; cases qp
            | cons a q =>
              rw [hk] at qp
              exact ⟨q, by rw [show a = 46 by simpa using qp]⟩
          have hbody := body_pt neg r q hfn hq
          have hbq : By q := by_sub hb2 (fun c hc => by rw [hq]; exact List.mem_cons_of_mem _ hc)
          rw [hq] at lk hlk
          rw [List.length_cons] at lk hlk
          have hrq := run_ax q hbq (by omega)
          have hfq := fr_le q
          have s3 := slice_from (46 :: q) 1 (q.length + 1) rfl
          rw [List.drop_one, List.tail_cons] at s3
          have t1 : Int.toNat 1 = 1 := rfl
          rw [hq]
          refine ifs ?_ ?_ <;> first | exact nope | intro hb
          refine go (cj rTI (cj @lk (cj @t1 @s3))) ?_
          refine aw_reg fun K hK => ?_; refine rn (cj rTI (cj @lk (cj @t1 @s3))) ?_; refine cont_pure hrq ?_; refine rn (cj rTI (cj @lk (cj @t1 @s3))) ?_; refine hK _ _ ?_; clear hK K
          rw [then_normal]
          by_cases qf : fr q = []
          · have qf0 : (fr q).length = 0 := by rw [qf]; rfl
            rw [if_pos qf] at hbody
            rw [hbody]
            refine go rTI ?_
            refine ifs ?_ ?_ <;> first | exact nope | intro hb
            refine go rTI ?_
            exact .inr ⟨rfl, fun i hi => by rw [if_neg (by omega)]⟩
          · have qf0 : (fr q).length ≠ 0 := fun e => qf (List.length_eq_zero_iff.1 e)
            rw [if_neg qf] at hbody
            have s4 : (bs (46 :: q)).extract 1 (1 + (fr q).length) = bs (fr q) := by
              rw [bs_slice, List.drop_one, List.tail_cons, Nat.add_sub_cancel_left, fr_take]
            have s5 : (bs (46 :: q)).extract (1 + (fr q).length) (q.length + 1) = bs (bk q) := by
              rw [slice_from (46 :: q) (1 + (fr q).length) (q.length + 1) rfl, Nat.add_comm 1, List.drop_succ_cons, bk_drop]
            have k1 : ((1 : Int) + ((fr q).length : Int)).toNat = 1 + (fr q).length := by omega
            have lf1 := bs_size (fr r)
            have lf2 := bs_size (fr q)
            have ap := bs_append (fr r) (fr q)
            have hlq : (bk q).length ≤ q.length := by have := congrArg List.length (fr_bk q); rw [List.length_append] at this; omega
            refine go rTI ?_
            refine ifs ?_ ?_ <;> first | exact nope | intro hb
            refine go (cj rTI (cj @lk (cj @t1 (cj @s3 (cj @s4 (cj @s5 (cj @k1 (cj @lf1 (cj @lf2 @ap))))))))) ?_
            refine .inl ⟨rfl, fr r ++ fr q, bk q, -((fr q).length : Int), ?_⟩
            refine rn @Int.zero_sub ?_
            refine ⟨by_sub hbq (bk_mem q), by omega, fun c hc => ?_, by rw [List.length_append]; omega, by omega, by omega, hbody, fun i hi => by rw [if_neg (by omega)]⟩
            rcases List.mem_append.1 hc with hc | hc
            · exact hfd c hc
            · exact fr_all q c hc
        · rw [decide_eq_false qp]
          have hbody := body_no neg r hfn qp
          refine ifs ?_ ?_ <;> first | exact nope | intro hb
          refine go trivial ?_
          exact .inl ⟨fr r, bk r, 0, rfl, rfl, rfl, hb2, by omega, hfd, by omega, by omega, by omega, hbody, fun i hi => by rw [if_neg (by omega)]⟩
      · clear hcut hrun sl1 sl2 hpre lk lr l1
        rintro e s' ⟨ds, r3, x, h1, k2, k4, k5, k7, k8, hb3, hl3, hds, hld, hx1, hx2, hbody, g, fr2⟩
        rw [hbody, then_normal]
        have hlet := letters_ax r3 hb3 (by omega)
        have hbd := letters_bound r3
        generalize lettersS r3 = o at *
        cases o with
        | none =>
          show AW _ _ _ _ _ (fpost _ _ fun r' s' => r' = .tp [.ag [.v (.int .i64 0), .v (.int .i64 0)], .v (.int .i64 3)] ∧ _)
          refine go trivial ?_
          refine aw_reg fun K hK => ?_; refine rn (cj rTI (cj @k4 (cj @tailV.eq_1 @tailV.eq_2))) ?_; refine cont_pure hlet ?_; refine rn (cj rTI (cj @k4 (cj @tailV.eq_1 @tailV.eq_2))) ?_; refine hK _ _ ?_; clear hK K
          rw [then_normal]
          refine go trivial ?_
          refine ifs ?_ ?_ <;> first | exact nope | intro hb
          refine go (cj rTI (cj @h1 (cj @k2 @g))) ?_
          intro i hi
          rw [if_neg (by omega)]
          exact fr2 i hi
        | some ee =>
          obtain ⟨b1, b2⟩ := hbd ee rfl
          obtain ⟨P1, P2⟩ := fin_parse neg ds (x + ee) hds
          have hbds : By ds := fun c hc => by have := (isD_iff c).1 (hds c hc); omega
          have hbl : By (lead ds) := by_sub hbds (lead_sub ds)
          have hll := lead_len ds
          have htl := trimLeft_ax ds hbds
          have htr := trimRight_ax (lead ds) hbl (by omega)
          have e0 : ((bs (lead ds)).toList == (ByteArray.mk #[]).toList) = decide (lead ds = []) := bs_beq (lead ds) [] hbl (fun c hc => by cases hc)
          show AW _ _ _ _ _ (fpost _ _ fun r' s' => r' = parseV (finS neg (digV ds) (x + ee)) ∧ _)
          by_cases ql : lead ds = []
          · rw [P1 ql, decide_eq_true ql] at *
            show AW _ _ _ _ _ (fpost _ _ fun r' s' => r' = .tp [.ag [.v (.int .i64 0), .v (.int .i64 0)], .v (.int .i64 0)] ∧ _)
            clear P1 P2
            refine go trivial ?_
            refine aw_reg fun K hK => ?_; refine rn (cj rTI (cj @k4 (cj @tailV.eq_1 @tailV.eq_2))) ?_; refine cont_pure hlet ?_; refine rn (cj rTI (cj @k4 (cj @tailV.eq_1 @tailV.eq_2))) ?_; refine hK _ _ ?_; clear hK K
            rw [then_normal]
            refine go trivial ?_
            refine ifs ?_ ?_ <;> first | exact nope | intro hb
            refine go (cj rTI (cj @h1 (cj @k2 (cj @k7 (cj @k8 @g))))) ?_
            refine aw_reg fun K hK => ?_; refine rn (cj rTI @k7) ?_; refine cont_pure htl ?_; refine rn (cj rTI @k7) ?_; refine hK _ _ ?_; clear hK K
            rw [then_normal]
            refine go (cj rTI @e0) ?_
            refine ifs ?_ ?_ <;> first | exact nope | intro hb
            refine go (cj rTI (cj @h1 (cj @k2 @g))) ?_
            intro i hi
            rw [if_neg (by omega)]
            exact fr2 i hi
          · rw [decide_eq_false ql] at e0
            obtain ⟨T1, T2, T3, T4⟩ := P2 ql
            have lT := bs_size (trail (lead ds))
            have lL := bs_size (lead ds)
            have hpi := fun h9 => parseInt_ax (trail (lead ds)) T2 T1 h9
            clear P1 P2
            generalize trail (lead ds) = T at *
            obtain ⟨n, hn⟩ : ∃ n, n = (lead ds).length - T.length := ⟨_, rfl⟩
            rw [← hn] at T4
            by_cases q9 : T.length > 9
            · rw [if_pos (.inl q9)] at T4
              rw [T4]
              show AW _ _ _ _ _ (fpost _ _ fun r' s' => r' = .tp [.ag [.v (.int .i64 0), .v (.int .i64 0)], .v (.int .i64 30)] ∧ _)
              refine go trivial ?_
              refine aw_reg fun K hK => ?_; refine rn (cj rTI (cj @k4 (cj @tailV.eq_1 @tailV.eq_2))) ?_; refine cont_pure hlet ?_; refine rn (cj rTI (cj @k4 (cj @tailV.eq_1 @tailV.eq_2))) ?_; refine hK _ _ ?_; clear hK K
              rw [then_normal]
              refine go trivial ?_
              refine ifs ?_ ?_ <;> first | exact nope | intro hb
              refine go (cj rTI (cj @h1 (cj @k2 (cj @k7 (cj @k8 @g))))) ?_
              refine aw_reg fun K hK => ?_; refine rn (cj rTI @k7) ?_; refine cont_pure htl ?_; refine rn (cj rTI @k7) ?_; refine hK _ _ ?_; clear hK K
              rw [then_normal]
              refine go (cj rTI @e0) ?_
              refine ifs ?_ ?_ <;> first | exact nope | intro hb
              refine go trivial ?_
              refine aw_reg fun K hK => ?_; refine rn rTI ?_; refine cont_pure htr ?_; refine rn rTI ?_; refine hK _ _ ?_; clear hK K
              rw [then_normal]
              refine go (cj rTI (cj @lT @lL)) ?_
              refine ifs ?_ ?_ <;> first | exact nope | intro hb
              refine go (cj rTI (cj @h1 (cj @k2 @g))) ?_
              intro i hi
              rw [if_neg (by omega)]
              exact fr2 i hi
            · have hpi := hpi (by omega)
              have e3 : ((lead ds).length : Int) - (T.length : Int) = (n : Int) := by omega
              have hv9 : digV T < 1000000000 := by
                have h1' := dig_lt T T2
                have h2' : 10 ^ T.length ≤ 10 ^ 9 := Nat.pow_le_pow_right (by decide) (by omega)
                omega
              obtain ⟨X, hX⟩ : ∃ X, X = x + ee + (n : Int) := ⟨_, rfl⟩
              rw [← hX] at T4
              by_cases q18 : X < -18
              · rw [if_pos (.inr (.inl q18))] at T4
                rw [T4]
                show AW _ _ _ _ _ (fpost _ _ fun r' s' => r' = .tp [.ag [.v (.int .i64 0), .v (.int .i64 0)], .v (.int .i64 30)] ∧ _)
                refine go trivial ?_
                refine aw_reg fun K hK => ?_; refine rn (cj rTI (cj @k4 (cj @tailV.eq_1 @tailV.eq_2))) ?_; refine cont_pure hlet ?_; refine rn (cj rTI (cj @k4 (cj @tailV.eq_1 @tailV.eq_2))) ?_; refine hK _ _ ?_; clear hK K
                rw [then_normal]
                refine go trivial ?_
                refine ifs ?_ ?_ <;> first | exact nope | intro hb
                refine go (cj rTI (cj @h1 (cj @k2 (cj @k7 (cj @k8 @g))))) ?_
                refine aw_reg fun K hK => ?_; refine rn (cj rTI @k7) ?_; refine cont_pure htl ?_; refine rn (cj rTI @k7) ?_; refine hK _ _ ?_; clear hK K
                rw [then_normal]
                refine go (cj rTI @e0) ?_
                refine ifs ?_ ?_ <;> first | exact nope | intro hb
                refine go trivial ?_
                refine aw_reg fun K hK => ?_; refine rn rTI ?_; refine cont_pure htr ?_; refine rn rTI ?_; refine hK _ _ ?_; clear hK K
                rw [then_normal]
                refine go (cj rTI (cj @lT (cj @lL (cj @k8 @e3)))) ?_
                refine ifs ?_ ?_ <;> first | exact nope | intro hb
                refine go (cj rTI (cj @h1 (cj @k2 @g))) ?_
                intro i hi
                rw [if_neg (by omega)]
                exact fr2 i hi
              · by_cases q19 : X > 9
                · rw [if_pos (.inr (.inr q19))] at T4
                  rw [T4]
                  show AW _ _ _ _ _ (fpost _ _ fun r' s' => r' = .tp [.ag [.v (.int .i64 0), .v (.int .i64 0)], .v (.int .i64 30)] ∧ _)
                  refine go trivial ?_
                  refine aw_reg fun K hK => ?_; refine rn (cj rTI (cj @k4 (cj @tailV.eq_1 @tailV.eq_2))) ?_; refine cont_pure hlet ?_; refine rn (cj rTI (cj @k4 (cj @tailV.eq_1 @tailV.eq_2))) ?_; refine hK _ _ ?_; clear hK K
                  rw [then_normal]
                  refine go trivial ?_
                  refine ifs ?_ ?_ <;> first | exact nope | intro hb
                  refine go (cj rTI (cj @h1 (cj @k2 (cj @k7 (cj @k8 @g))))) ?_
                  refine aw_reg fun K hK => ?_; refine rn (cj rTI @k7) ?_; refine cont_pure htl ?_; refine rn (cj rTI @k7) ?_; refine hK _ _ ?_; clear hK K
                  rw [then_normal]
                  refine go (cj rTI @e0) ?_
                  refine ifs ?_ ?_ <;> first | exact nope | intro hb
                  refine go trivial ?_
                  refine aw_reg fun K hK => ?_; refine rn rTI ?_; refine cont_pure htr ?_; refine rn rTI ?_; refine hK _ _ ?_; clear hK K
                  rw [then_normal]
                  refine go (cj rTI (cj @lT (cj @lL (cj @k8 @e3)))) ?_
                  refine ifs ?_ ?_ <;> first | exact nope | intro hb
                  refine go (cj rTI (cj @h1 (cj @k2 @g))) ?_
                  intro i hi
                  rw [if_neg (by omega)]
                  exact fr2 i hi
                · rw [if_neg (fun h => h.elim q9 fun h => h.elim q18 q19)] at T4
                  rw [T4]
                  clear T4
                  generalize digV T = v at *
                  cases neg
                  · show AW _ _ _ _ _ (fpost _ _ fun r' s' => r' = .tp [.ag [.v (.int .i64 v), .v (.int .i64 X)], .v (.int .i64 0)] ∧ _)
                    refine go trivial ?_
                    refine aw_reg fun K hK => ?_; refine rn (cj rTI (cj @k4 (cj @tailV.eq_1 @tailV.eq_2))) ?_; refine cont_pure hlet ?_; refine rn (cj rTI (cj @k4 (cj @tailV.eq_1 @tailV.eq_2))) ?_; refine hK _ _ ?_; clear hK K
                    rw [then_normal]
                    refine go trivial ?_
                    refine ifs ?_ ?_ <;> first | exact nope | intro hb
                    refine go (cj rTI (cj @h1 (cj @k2 (cj @k7 (cj @k8 @g))))) ?_
                    refine aw_reg fun K hK => ?_; refine rn (cj rTI @k7) ?_; refine cont_pure htl ?_; refine rn (cj rTI @k7) ?_; refine hK _ _ ?_; clear hK K
                    rw [then_normal]
                    refine go (cj rTI @e0) ?_
                    refine ifs ?_ ?_ <;> first | exact nope | intro hb
                    refine go trivial ?_
                    refine aw_reg fun K hK => ?_; refine rn rTI ?_; refine cont_pure htr ?_; refine rn rTI ?_; refine hK _ _ ?_; clear hK K
                    rw [then_normal]
                    refine go (cj rTI (cj @lT (cj @lL (cj @k8 @e3)))) ?_
                    refine ifs ?_ ?_ <;> first | exact nope | intro hb
                    refine go rTI ?_
                    refine aw_reg fun K hK => ?_; refine rn rTI ?_; refine cont_pure hpi ?_; refine rn rTI ?_; refine hK _ _ ?_; clear hK K
                    rw [then_normal]
                    refine go (cj rTI @k5) ?_
                    refine ifs ?_ ?_ <;> first | exact nope | intro hb
                    refine go (cj rTI (cj @h1 (cj @k2 (cj @k5 (cj @g @e3))))) ?_
                    rw [hX]
                    exact ⟨rfl, fun i hi => by rw [if_neg (by omega)]; exact fr2 i hi⟩
                  · show AW _ _ _ _ _ (fpost _ _ fun r' s' => r' = .tp [.ag [.v (.int .i64 (-(v : Int))), .v (.int .i64 X)], .v (.int .i64 0)] ∧ _)
                    refine go trivial ?_
                    refine aw_reg fun K hK => ?_; refine rn (cj rTI (cj @k4 (cj @tailV.eq_1 @tailV.eq_2))) ?_; refine cont_pure hlet ?_; refine rn (cj rTI (cj @k4 (cj @tailV.eq_1 @tailV.eq_2))) ?_; refine hK _ _ ?_; clear hK K
                    rw [then_normal]
                    refine go trivial ?_
                    refine ifs ?_ ?_ <;> first | exact nope | intro hb
                    refine go (cj rTI (cj @h1 (cj @k2 (cj @k7 (cj @k8 @g))))) ?_
                    refine aw_reg fun K hK => ?_; refine rn (cj rTI @k7) ?_; refine cont_pure htl ?_; refine rn (cj rTI @k7) ?_; refine hK _ _ ?_; clear hK K
                    rw [then_normal]
                    refine go (cj rTI @e0) ?_
                    refine ifs ?_ ?_ <;> first | exact nope | intro hb
                    refine go trivial ?_
                    refine aw_reg fun K hK => ?_; refine rn rTI ?_; refine cont_pure htr ?_; refine rn rTI ?_; refine hK _ _ ?_; clear hK K
                    rw [then_normal]
                    refine go (cj rTI (cj @lT (cj @lL (cj @k8 @e3)))) ?_
                    refine ifs ?_ ?_ <;> first | exact nope | intro hb
                    refine go rTI ?_
                    refine aw_reg fun K hK => ?_; refine rn rTI ?_; refine cont_pure hpi ?_; refine rn rTI ?_; refine hK _ _ ?_; clear hK K
                    rw [then_normal]
                    refine go (cj rTI @k5) ?_
                    refine ifs ?_ ?_ <;> first | exact nope | intro hb
                    refine go (cj rTI (cj @h1 (cj @k2 (cj @k5 (cj @g (cj @e3 @Int.zero_sub)))))) ?_
                    rw [hX]
                    exact ⟨rfl, fun i hi => by rw [if_neg (by omega)]; exact fr2 i hi⟩
end Go.Proofs.YtfjelkjlfcafgaaGreatDoor.NumW
end
section
/- Texts of numbers: num.Text, where FormatInt writes what it should. -/
namespace Go.Proofs.YtfjelkjlfcafgaaGreatDoor.NumX
open Go Go.RowKit Go.Proofs.YtfjelkjlfcafgaaGreatDoor.Ax Go.Proofs.YtfjelkjlfcafgaaGreatDoor.Ti Go.Proofs.YtfjelkjlfcafgaaGreatDoor.BigM Go.Proofs.YtfjelkjlfcafgaaGreatDoor.NumS Go.Proofs.YtfjelkjlfcafgaaGreatDoor.NumA Go.Proofs.YtfjelkjlfcafgaaGreatDoor.NumT Go.Proofs.YtfjelkjlfcafgaaGreatDoor.NumU Go.Proofs.YtfjelkjlfcafgaaGreatDoor.NumL Go.Proofs.YtfjelkjlfcafgaaGreatDoor.NumW
set_option linter.unusedSimpArgs false
set_option linter.unusedVariables false
set_option maxRecDepth 4000
set_option maxHeartbeats 2000000
theorem rTI : type_of% (cj @ti3 (cj @ti2 (cj @ti4 (cj @ti9 (cj @ti5 (cj @ti36 (cj @ti24 @ti25))))))) := cj @ti3 (cj @ti2 (cj @ti4 (cj @ti9 (cj @ti5 (cj @ti36 (cj @ti24 @ti25))))))

theorem itoa_ax (i : Nat) (h : i = 16 ∨ i = 17 ∨ i = 18) : PCall Tryz.prog 64 [.v (.int .i64 i)] (.v (.string (bs (decN i)))) := by
  refine pcall_lift (us := [.int .i64 i]) (enters_of Tryz.func64 rfl rfl) (fun k => .v _) fun w => ?_
  refine (Tryz.strconv_Itoa_small i (by omega) w).mono ?_
  rintro en w' ⟨rfl, rfl⟩
  refine ⟨?_, Below.refl _ _⟩
  have e : Lib.decDigits i = (decN i).map UInt8.ofNat := by
    rcases h with rfl | rfl | rfl <;> simp [Lib.decDigits, decN, digs_pos, digs_zero]
  rw [e]
  rfl
def textV (m x : Int) : AV := if validN m x = true then .tp [.v (.string (bs (textS m x))), .v (.int .i64 0)] else .tp [.v (.string (bs [])), .v (.int .i64 30)]
theorem decS_len (m : Int) (h1 : -999999999 ≤ m) (h2 : m ≤ 999999999) : (decS m).length ≤ 10 := by
  unfold decS
  split
  · simp
  · rw [List.length_append]
    have := decN_len m.natAbs 9 (by omega)
    split <;> simp <;> omega
theorem text_ax (m x : Int) (hF : validN m x = true → PCall Tryz.prog 63 [.v (.int .i64 m), .v (.int .i64 10)] (.v (.string (bs (decS m))))) : PCall Tryz.prog 17 [NM m x] (textV m x) := by
  refine pcall_of fun s => ?_
  have hv := valid_ax m x
  unfold NM at hv ⊢
  unfold textV
  by_cases q : validN m x = true
  · have hF := hF q
    rw [if_pos q]
    rw [q] at hv
    obtain ⟨m1, m2, k1, k2⟩ := RefM.validN_m m x q
    have hld := decS_len m m1 m2
    have lD := bs_size (decS m)
    by_cases qx : x < -15
    · have hi := itoa_ax x.natAbs (by omega)
      have e1 : textS m x = decS m ++ [101, 45] ++ decN x.natAbs := by unfold textS; rw [if_pos qx]
      rw [e1]
      have e2 : -x = (x.natAbs : Int) := by omega
      have c1 : bs (decS m) ++ (ByteArray.mk #[101, 45]) = bs (decS m ++ [101, 45]) := by
        show bs (decS m) ++ bs [101, 45] = _
        exact bs_append _ _
      have c2 := bs_append (decS m ++ [101, 45]) (decN x.natAbs)
      have lE := bs_size (decS m ++ [101, 45])
      have lN := bs_size (decN x.natAbs)
      have lN2 := decN_len x.natAbs 2 (by omega)
      have l2 : (ByteArray.mk #[101, 45]).size = 2 := rfl
      rw [List.length_append] at lE
      rw [show ([101, 45] : List Nat).length = 2 from rfl] at lE
      clear e1
      refine acall_of Tryz.func17 rfl rfl (by simp [Tryz.ntmps17]) ?_; rw [Tryz.ntmps17, Tryz.results17]
      refine go rTI ?_
      refine aw_reg fun K hK => ?_; refine rn rTI ?_; refine cont_pure hv ?_; refine rn rTI ?_; refine hK _ _ ?_; clear hK K
      rw [then_normal]
      refine ifs ?_ ?_ <;> first | exact nope | intro hb
      refine go trivial ?_
      refine aw_reg fun K hK => ?_; refine rn rTI ?_; refine cont_pure hF ?_; refine rn rTI ?_; refine hK _ _ ?_; clear hK K
      rw [then_normal]
      refine go rTI ?_
      refine ifs ?_ ?_ <;> first | exact nope | intro hb
      generalize x.natAbs = i at *
      refine aw_seq ?_
      refine aw_reg fun K hK => ?_; refine rn (cj rTI (cj @c1 (cj @c2 (cj @lD (cj @lE (cj @lN (cj @l2 (cj @Int.zero_sub @e2)))))))) ?_; refine cont_pure hi ?_; refine rn (cj rTI (cj @c1 (cj @c2 (cj @lD (cj @lE (cj @lN (cj @l2 (cj @Int.zero_sub @e2)))))))) ?_; refine hK _ _ ?_; clear hK K
      refine go rTI ?_
      exact fun i hi => if_neg (by omega)
    · obtain ⟨kk, hkk⟩ : ∃ kk : Nat, kk = ((x + 15) / 3).toNat := ⟨_, rfl⟩
      obtain ⟨z, hz⟩ : ∃ z : Nat, z = ((x + 15) % 3).toNat := ⟨_, rfl⟩
      have e1 : textS m x = decS m ++ List.replicate z 48 ++ letterS kk := by unfold textS; rw [if_neg qx, hkk, hz]
      rw [e1]
      have e2 : (x + 15) / 3 = (kk : Int) := by omega
      have e3 : x + 15 - 3 * (kk : Int) = (z : Int) := by omega
      have hz3 : z < 3 := by omega
      have hk9 : kk < 9 := by omega
      have s1 : (ByteArray.mk #[48, 48]).extract 0 z = bs (List.replicate z 48) := by
        have : z = 0 ∨ z = 1 ∨ z = 2 := by omega
        rcases this with rfl | rfl | rfl <;> rfl
      have tz : Int.toNat 0 = 0 := rfl
      have l00 : (ByteArray.mk #[48, 48]).size = 2 := rfl
      have c1 := bs_append (decS m) (List.replicate z 48)
      have c2 := bs_append (decS m ++ List.replicate z 48) (letterS kk)
      have lZ := bs_size (List.replicate z 48)
      have lE := bs_size (decS m ++ List.replicate z 48)
      have lK := bs_size (letterS kk)
      have lK3 := (letter_reads kk (by omega)).2.2
      rw [List.length_replicate] at lZ
      rw [List.length_append, List.length_replicate] at lE
      have hd : (([AV.v (.string (ByteArray.mk #[102])), .v (.string (ByteArray.mk #[112])), .v (.string (ByteArray.mk #[110])), .v (.string (ByteArray.mk #[117])), .v (.string (ByteArray.mk #[109])), .v (.string (ByteArray.mk #[])), .v (.string (ByteArray.mk #[107])), .v (.string (ByteArray.mk #[109, 101, 103])), .v (.string (ByteArray.mk #[103]))]).drop kk).head? = some (.v (.string (bs (letterS kk)))) := by
        have : kk = 0 ∨ kk = 1 ∨ kk = 2 ∨ kk = 3 ∨ kk = 4 ∨ kk = 5 ∨ kk = 6 ∨ kk = 7 ∨ kk = 8 := by omega
        rcases this with rfl | rfl | rfl | rfl | rfl | rfl | rfl | rfl | rfl <;> rfl
      clear e1
      refine acall_of Tryz.func17 rfl rfl (by simp [Tryz.ntmps17]) ?_; rw [Tryz.ntmps17, Tryz.results17]
      refine go rTI ?_
      refine aw_reg fun K hK => ?_; refine rn rTI ?_; refine cont_pure hv ?_; refine rn rTI ?_; refine hK _ _ ?_; clear hK K
      rw [then_normal]
      refine ifs ?_ ?_ <;> first | exact nope | intro hb
      refine go trivial ?_
      refine aw_reg fun K hK => ?_; refine rn rTI ?_; refine cont_pure hF ?_; refine rn rTI ?_; refine hK _ _ ?_; clear hK K
      rw [then_normal]
      refine go rTI ?_
      refine ifs ?_ ?_ <;> first | exact nope | intro hb
      refine go (cj rTI @e2) ?_
      generalize letterS kk = lk at *
      refine aw_drw (.take 0 (.take 1 (.take 2 (.take 3 (.take 4 (.take 5 (.take 6 (.take 7 (.take 8 (.take 10 (.one 9 (.one 11 (.one 12 (.one 13 (.one 14 (.one 15 (.done))))))))))))))))) [s.nx] (by kernel_rfl) (by kernel_rfl) fun K hK => ?_; refine dr (cj rTI (cj @e3 (cj @s1 (cj @tz (cj @l00 (cj @c1 (cj @c2 (cj @lD (cj @lZ (cj @lE (cj @lK (cj @hd @Nat.zero_add)))))))))))) ?_; refine hK _ _ ?_; clear hK K
      refine go rTI ?_
      exact fun i hi => by rw [if_neg (by omega), if_neg (by omega)]
  · have q' : validN m x = false := by simpa using q
    rw [if_neg q]
    rw [q'] at hv
    refine acall_of Tryz.func17 rfl rfl (by simp [Tryz.ntmps17]) ?_; rw [Tryz.ntmps17, Tryz.results17]
    refine go rTI ?_
    refine aw_reg fun K hK => ?_; refine rn rTI ?_; refine cont_pure hv ?_; refine rn rTI ?_; refine hK _ _ ?_; clear hK K
    rw [then_normal]
    refine ifs ?_ ?_ <;> first | exact nope | intro hb
    refine go trivial ?_
    exact ⟨rfl, fun i hi => if_neg (by omega)⟩
end Go.Proofs.YtfjelkjlfcafgaaGreatDoor.NumX
end
section
/- The laws of layer 3: awake, decimal. -/
namespace Go.Proofs.YtfjelkjlfcafgaaGreatDoor.NumY
open Go Go.RowKit Go.Proofs.YtfjelkjlfcafgaaGreatDoor.Ax Go.Proofs.YtfjelkjlfcafgaaGreatDoor.Ti Go.Proofs.YtfjelkjlfcafgaaGreatDoor.BigM Go.Proofs.YtfjelkjlfcafgaaGreatDoor.NumS Go.Proofs.YtfjelkjlfcafgaaGreatDoor.NumA Go.Proofs.YtfjelkjlfcafgaaGreatDoor.NumB Go.Proofs.YtfjelkjlfcafgaaGreatDoor.NumT Go.Proofs.YtfjelkjlfcafgaaGreatDoor.NumU Go.Proofs.YtfjelkjlfcafgaaGreatDoor.NumL Go.Proofs.YtfjelkjlfcafgaaGreatDoor.NumW Go.Proofs.YtfjelkjlfcafgaaGreatDoor.NumX
set_option linter.unusedSimpArgs false
set_option linter.unusedVariables false
set_option maxRecDepth 4000
set_option maxHeartbeats 2000000
theorem rTI : type_of% (cj @ti3 (cj @ti2 (cj @ti4 (cj @ti9 (cj @ti5 (cj @ti35 (cj @ti36 (cj @ti116 (cj @ti24 @ti25))))))))) := cj @ti3 (cj @ti2 (cj @ti4 (cj @ti9 (cj @ti5 (cj @ti35 (cj @ti36 (cj @ti116 (cj @ti24 @ti25))))))))

end Go.Proofs.YtfjelkjlfcafgaaGreatDoor.NumY
end
section
/- The document's Parse reads what parseS says. -/
namespace Go.Proofs.YtfjelkjlfcafgaaGreatDoor.NumR
open Go Go.RowKit Go.Proofs.YtfjelkjlfcafgaaGreatDoor.Ax Go.Proofs.YtfjelkjlfcafgaaGreatDoor.Ti Go.Proofs.YtfjelkjlfcafgaaGreatDoor.BigM Go.Proofs.YtfjelkjlfcafgaaGreatDoor.RefA Go.Proofs.YtfjelkjlfcafgaaGreatDoor.RefC Go.Proofs.YtfjelkjlfcafgaaGreatDoor.RefD Go.Proofs.YtfjelkjlfcafgaaGreatDoor.RefF Go.Proofs.YtfjelkjlfcafgaaGreatDoor.RefG Go.Proofs.YtfjelkjlfcafgaaGreatDoor.RefI Go.Proofs.YtfjelkjlfcafgaaGreatDoor.RefK Go.Proofs.YtfjelkjlfcafgaaGreatDoor.NumS Go.Proofs.YtfjelkjlfcafgaaGreatDoor.NumP Go.Proofs.YtfjelkjlfcafgaaGreatDoor.NumT Go.Proofs.YtfjelkjlfcafgaaGreatDoor.NumU Go.Proofs.YtfjelkjlfcafgaaGreatDoor.NumL Go.Proofs.YtfjelkjlfcafgaaGreatDoor.NumW
set_option linter.unusedSimpArgs false
set_option linter.unusedVariables false
set_option maxRecDepth 4000
set_option maxHeartbeats 2000000
theorem rTI : type_of% (cj @ti3 (cj @ti2 (cj @ti4 (cj @ti9 (cj @ti5 (cj @ti24 @ti105)))))) := cj @ti3 (cj @ti2 (cj @ti4 (cj @ti9 (cj @ti5 (cj @ti24 @ti105)))))

end Go.Proofs.YtfjelkjlfcafgaaGreatDoor.NumR
end
section
/- The law NumReads, walked. -/
namespace Go.Proofs.YtfjelkjlfcafgaaGreatDoor.NumE
open Go Go.RowKit Go.Proofs.YtfjelkjlfcafgaaGreatDoor.Ax Go.Proofs.YtfjelkjlfcafgaaGreatDoor.Ti Go.Proofs.YtfjelkjlfcafgaaGreatDoor.BigM Go.Proofs.YtfjelkjlfcafgaaGreatDoor.NumS Go.Proofs.YtfjelkjlfcafgaaGreatDoor.NumA Go.Proofs.YtfjelkjlfcafgaaGreatDoor.NumB Go.Proofs.YtfjelkjlfcafgaaGreatDoor.NumT Go.Proofs.YtfjelkjlfcafgaaGreatDoor.NumU Go.Proofs.YtfjelkjlfcafgaaGreatDoor.NumL Go.Proofs.YtfjelkjlfcafgaaGreatDoor.NumW Go.Proofs.YtfjelkjlfcafgaaGreatDoor.NumX Go.Proofs.YtfjelkjlfcafgaaGreatDoor.NumY Go.Proofs.YtfjelkjlfcafgaaGreatDoor.NumR
set_option linter.unusedSimpArgs false
set_option linter.unusedVariables false
set_option maxRecDepth 4000
set_option maxHeartbeats 2000000
theorem rTI : type_of% (cj @ti3 (cj @ti2 (cj @ti4 (cj @ti9 (cj @ti5 (cj @ti24 @ti25)))))) := cj @ti3 (cj @ti2 (cj @ti4 (cj @ti9 (cj @ti5 (cj @ti24 @ti25)))))

theorem parse_long (l : List Nat) (h : 32 < l.length) : PCall Tryz.prog 14 [.v (.string (bs l))] (parseV (parseS l)) := by
  have l1 := bs_size l
  rw [show parseS l = (0, 0, 3) by unfold parseS; rw [if_pos h], show parseV (0, 0, 3) = .tp [.ag [.v (.int .i64 0), .v (.int .i64 0)], .v (.int .i64 3)] from rfl]
  refine pcall_of fun s => ?_
  refine acall_of Tryz.func14 rfl rfl (by simp [Tryz.ntmps14]) ?_; rw [Tryz.ntmps14, Tryz.results14]
  refine go (cj rTI @l1) ?_
  refine ifs ?_ ?_ <;> first | exact nope | intro hb
  refine go rTI ?_
  exact fun i hi => by rw [if_neg (by omega)]
theorem parse_any (l : List Nat) (h : By l) : PCall Tryz.prog 14 [.v (.string (bs l))] (parseV (parseS l)) := by
  by_cases q : 32 < l.length
  · exact parse_long l q
  · exact parse_ax l h (by omega)
end Go.Proofs.YtfjelkjlfcafgaaGreatDoor.NumE
end
section
/- A world in which the listed tables lie as the program's text lays them; and what the list says of the table of tens. -/
namespace Go.Proofs.YtfjelkjlfcafgaaGreatDoor.NumLaid
open Go.Proofs.YtfjelkjlfcafgaaGreatDoor.Ax
set_option linter.unusedVariables false
set_option maxRecDepth 100000

theorem own : ownKnob Tryz.prog.godebug = none := by kernel_rfl
theorem laidOut : laidOutB Tryz.prog = true := by kernel_rfl

noncomputable def laidWorld (os : Os) : World := World.laidAll Tryz.prog os Rows.numShiftRow.laid
theorem laidWorld_os (os : Os) : (laidWorld os).os = os := World.laidAll_os _ _ _
theorem laid_met (os : Os) (args : Array Value) : laidMet Tryz.prog Rows.numShiftRow.laid ((laidWorld os).forCall (fun _ _ => 0) ⟨#[], args, []⟩).memory := laidMet_laidAll args (by kernel_rfl) (by kernel_rfl)

theorem laidMet_tail {P : Program} {w : World} {x : String × DataW Unit} {l : List (String × DataW Unit)} (h : laidMet P (x :: l) w) : laidMet P l w := by
  obtain ⟨ps, ⟨g1, t1, c1, f1, p1, q1, a1, a2, a3, a4, a5, rfl⟩, hn, hc⟩ := h
  exact ⟨q1, a5, (List.nodup_append.1 hn).2.1, fun b off hb => hc b off (List.mem_append_right _ hb)⟩

theorem iface_of {H : Type} {enc : TypeId × Value → H} {P : Program} {w : World} {base : Nat} {sp : Nat → Bool} {held : Bool} {fuel : Nat} {t : TypeId} {ms : _} {cs : List Value} {name : String} {d : DataW H} {p : List MemPlace}
    (ht : P.underlying t = some (.interface ms)) (h : DataW.trod enc P w base sp held fuel t cs = some (.iface name d, p)) : ∃ u v, cs = [.iface u v] := by
  cases fuel with
  | zero => simp [DataW.trod] at h
  | succ fuel =>
    match cs with
    | [] => simp [DataW.trod, ht] at h
    | _ :: _ :: _ => simp [DataW.trod, ht] at h
    | [x] =>
      cases x
      case iface u v => exact ⟨u, v, rfl⟩
      all_goals simp [DataW.trod, ht] at h
theorem syntax_cell {w : World} (h : laidMet Tryz.prog Rows.numShiftRow.laid w) : ∃ t p, w.cell? ⟨0, 0, none⟩ = some (.iface t p) := by
  have h := laidMet_tail (laidMet_tail (laidMet_tail (laidMet_tail (laidMet_tail h))))
  obtain ⟨ps, ⟨g', t', cs, fuel, p, q, hg', ht', hvar, hd, _, _⟩, _⟩ := h
  obtain rfl := Option.some.inj ((show Tryz.prog.globalNamed "strconv.ErrSyntax" = some 0 by kernel_rfl).symm.trans hg')
  obtain rfl := Option.some.inj ((show (Tryz.prog.globals[0]?).map (·.type) = some 101 by kernel_rfl).symm.trans ht')
  obtain ⟨u, v, hcs⟩ := iface_of Tryz.underlying101 hd
  obtain rfl : cs = #[.iface u v] := by rw [← Array.toList_inj, hcs]
  exact ⟨u, v, by have := World.var?_cell hg' hvar 0; simpa using this⟩
theorem range_cell {w : World} (h : laidMet Tryz.prog Rows.numShiftRow.laid w) : ∃ t p, w.cell? ⟨1, 0, none⟩ = some (.iface t p) := by
  have h := laidMet_tail (laidMet_tail (laidMet_tail (laidMet_tail h)))
  obtain ⟨ps, ⟨g', t', cs, fuel, p, q, hg', ht', hvar, hd, _, _⟩, _⟩ := h
  obtain rfl := Option.some.inj ((show Tryz.prog.globalNamed "strconv.ErrRange" = some 1 by kernel_rfl).symm.trans hg')
  obtain rfl := Option.some.inj ((show (Tryz.prog.globals[1]?).map (·.type) = some 101 by kernel_rfl).symm.trans ht')
  obtain ⟨u, v, hcs⟩ := iface_of Tryz.underlying101 hd
  obtain rfl : cs = #[.iface u v] := by rw [← Array.toList_inj, hcs]
  exact ⟨u, v, by have := World.var?_cell hg' hvar 0; simpa using this⟩
theorem pow_eq : (Rows.laid_internal_strconv_uint64pow10 : DataW Unit) = Lib.tabData .u64 Lib.pow10Tab := by kernel_rfl
theorem tabs {w : World} (h : laidMet Tryz.prog Rows.numShiftRow.laid w) : Tabs w.cell? := by
  have h1 := laidMet_tail (laidMet_tail h)
  rw [pow_eq] at h1
  obtain ⟨ps, ⟨g', t', cs, fuel, p, q, hg', ht', hvar, hd, _, _⟩, _⟩ := h1
  obtain rfl := Option.some.inj ((show Tryz.prog.globalNamed "internal/strconv.uint64pow10" = some 2 by kernel_rfl).symm.trans hg')
  obtain rfl := Option.some.inj ((show (Tryz.prog.globals[2]?).map (·.type) = some 227 by kernel_rfl).symm.trans ht')
  have hc := Lib.cells_of_tab (e := 165) (n := 20) Tryz.underlying227 Tryz.underlying165 (by kernel_rfl) (by kernel_rfl) hd
  refine ⟨fun i hi => ?_, syntax_cell h, range_cell h, trivial⟩
  have hT : Lib.TabIs Tryz.prog w "internal/strconv.uint64pow10" .u64 Lib.pow10Tab := by
    unfold Lib.TabIs
    rw [hvar, ← hc]
  have := hT.cell (g := 2) (by kernel_rfl) i (by rw [Lib.pow10Tab_length]; exact hi)
  rw [Lib.pow10Tab_at i hi] at this
  exact this
theorem tabSize {w : World} (h : laidMet Tryz.prog Rows.numShiftRow.laid w) : TabSize w := by
  have h1 := laidMet_tail (laidMet_tail h)
  rw [pow_eq] at h1
  obtain ⟨ps, ⟨g', t', cs, fuel, p, q, hg', ht', hvar, hd, _, _⟩, _⟩ := h1
  obtain rfl := Option.some.inj ((show Tryz.prog.globalNamed "internal/strconv.uint64pow10" = some 2 by kernel_rfl).symm.trans hg')
  obtain rfl := Option.some.inj ((show (Tryz.prog.globals[2]?).map (·.type) = some 227 by kernel_rfl).symm.trans ht')
  have hc := Lib.cells_of_tab (e := 165) (n := 20) Tryz.underlying227 Tryz.underlying165 (by kernel_rfl) (by kernel_rfl) hd
  refine ⟨?_, trivial⟩
  simp only [World.var?, hg', Option.bind_some] at hvar
  split at hvar
  · rename_i c t fr hb
    injection hvar with hvar
    subst hvar
    refine ⟨_, _, _, hb, ?_⟩
    rw [← Array.length_toList, hc]
    simp [Lib.pow10Tab]
  · cases hvar
theorem tabIs {w : World} (h : Tabs w.cell?) (hz : TabSize w) : Lib.TabIs Tryz.prog w "internal/strconv.uint64pow10" .u64 Lib.pow10Tab := by
  obtain ⟨c, e, f, h1, h2⟩ := hz.1
  have hg : Tryz.prog.globalNamed "internal/strconv.uint64pow10" = some 2 := by kernel_rfl
  unfold Lib.TabIs
  have hv : w.var? Tryz.prog "internal/strconv.uint64pow10" = some c := by
    simp only [World.var?, hg, Option.bind_some, h1]
  rw [hv]
  congr 1
  apply Array.ext
  · rw [h2]; simp [Lib.pow10Tab]
  intro i h3 h4
  have h5 := World.var?_cell hg hv i
  rw [h.1 i (by omega), Array.getElem?_eq_getElem h3] at h5
  injection h5 with h5
  rw [← h5]
  simp [Lib.pow10Tab]
theorem rel_two {k : KW} {z0 z1 : AV} {u0 u1 : Value} (h0 : Rel k z0 u0) (h1 : Rel k z1 u1) : ∀ (j : Nat) (z : AV) (u : Value), [z0, z1][j]? = some z → [u0, u1][j]? = some u → Rel k z u := by
  intro j z u hz hu
  match j with
  | 0 => cases hz; cases hu; exact h0
  | 1 => cases hz; cases hu; exact h1
  | j + 2 => simp at hz
theorem relL_mk2 {k : KW} {z0 z1 : AV} {u0 u1 : Value} (h0 : Rel k z0 u0) (h1 : Rel k z1 u1) : RelL k [z0, z1] [u0, u1] := ⟨rfl, rel_two h0 h1⟩
end Go.Proofs.YtfjelkjlfcafgaaGreatDoor.NumLaid
end
