/- A part of the proof. -/
import Derived.Test.YtfjelkjlfcafgaaGreatDoorPCardModelBackB
import Derived.Shelf.Strings.Trim
import Derived.Shelf.Small.Utf8
import Derived.Shelf.Small.Strs
import Derived.Shelf.Small.Wraps
import Derived.Shelf.Strconv.Atoi
import Derived.Shelf.Strconv.Itoa0
import Derived.Shelf.Strconv.Itoa1
import Derived.Shelf.LaysM
import Derived.Shelf.Strconv.Itoa2
import Derived.Shelf.Strconv.Itoa3
import Derived.Shelf.Strconv.Itoa4
import Derived.Shelf.Strconv.AtoiErrFast
import Derived.Shelf.Strconv.ParseIntEmpty
import Derived.Shelf.Strconv.AtoiFail
import Derived.Shelf.Strconv.Clone
import Derived.Shelf.Strconv.SyntaxError
import Derived.Shelf.LaysC
import Derived.Shelf.Strconv.ToError
import Derived.Shelf.Strconv.Lower
import Derived.Shelf.Strconv.ParseUint10
import Derived.Shelf.Strconv.ParseUint10Empty
import Derived.Shelf.Strconv.ParseUint10Any
import Derived.Shelf.Strconv.ParseInt10
import Derived.Shelf.Strconv.AtoiLong
import Derived.Shelf.Strconv.AtoiInnerAll
import Derived.Shelf.Strconv.RangeError
import Derived.Shelf.Strconv.ToErrorRange
import Derived.Shelf.Strconv.AtoiAll
import Derived.Shelf.Strconv.ParseUintEmpty
import Derived.Shelf.Strconv.ParseUint10b64
import Derived.Shelf.Strconv.ParseUint10b32
import Derived.Shelf.Strconv.ParseUint10b16
import Derived.Shelf.Strconv.ParseUint10b8
import Derived.Shelf.Strconv.ParseUint10At
import Derived.Shelf.Strconv.ParseInt10At64
import Derived.Shelf.Strconv.ParseInt10At32
import Derived.Shelf.Strconv.ParseInt10At16
import Derived.Shelf.Strconv.ParseInt10At8
import Derived.Shelf.Strconv.ParseInt10All
import Derived.Shelf.Strconv.ParseIntPublic10
import Derived.Shelf.Strconv.ErrVarParseInt
import Derived.Shelf.Strings.Search1
import Derived.Shelf.Strings.Prefix
import Derived.Shelf.Strings.Runes
import Derived.Shelf.Strings.AsciiSet
import Derived.Shelf.Unicode.DecodeSlow
import Derived.Shelf.Slices.Equal
import Derived.Shelf.Slices.Empties2
import Derived.Test.YtfjelkjlfcafgaaGreatDoorProg
section
/- The document's whole numbers (layer 1): the inner functions, walked. -/
namespace Go.Proofs.YtfjelkjlfcafgaaGreatDoor.RefA
open Go Go.RowKit Go.Proofs.YtfjelkjlfcafgaaGreatDoor.Ax Go.Proofs.YtfjelkjlfcafgaaGreatDoor.Ti Go.Proofs.YtfjelkjlfcafgaaGreatDoor.BigM
set_option maxHeartbeats 2000000
set_option linter.unusedSimpArgs false
set_option linter.unusedVariables false

def DN (xs : List Nat) : AV := .sl xs.length (xs.map fun x : Nat => .v (.int .i64 (x : Int)))
def B : Nat := 65536
theorem trimZ_snoc0 : ∀ (l : List Nat), trimZ (l ++ [0]) = trimZ l
  | [] => rfl
  | d :: l => by
    rw [List.cons_append, trimZ, trimZ, trimZ_snoc0 l]
theorem trimZ_snoc (x : Nat) (hx : x ≠ 0) : ∀ (l : List Nat), trimZ (l ++ [x]) = l ++ [x]
  | [] => by simp [trimZ, hx]
  | d :: l => by
    rw [List.cons_append, trimZ, trimZ_snoc x hx l]
    simp
theorem take_pred (xs : List Nat) (n : Nat) (hn : 0 < n) (h : n ≤ xs.length) : xs.take n = xs.take (n - 1) ++ [xs.getD (n - 1) 0] := by
  have h1 : n - 1 < xs.length := by omega
  have := List.take_succ_eq_append_getElem h1
  rw [show n - 1 + 1 = n by omega] at this
  rw [this, List.getD_eq_getElem?_getD, List.getElem?_eq_getElem h1]
  rfl
theorem trimZ_last (xs : List Nat) (n : Nat) (hn : 0 < n) (h : n ≤ xs.length) (h0 : xs.getD (n - 1) 0 = 0) : trimZ (xs.take (n - 1)) = trimZ (xs.take n) := by
  rw [take_pred xs n hn h, h0, trimZ_snoc0]
theorem trimZ_stop (xs : List Nat) (n : Nat) (h : n ≤ xs.length) (h0 : n = 0 ∨ xs.getD (n - 1) 0 ≠ 0) : trimZ (xs.take n) = xs.take n := by
  by_cases hn : n = 0
  · subst hn; rfl
  · rw [take_pred xs n (by omega) h, trimZ_snoc _ (h0.resolve_left hn)]

theorem trim_ax (xs : List Nat) (hl : xs.length ≤ 140737488355328) : PCall Tryz.prog 115 [DN xs] (DN (trimZ xs)) := by
  refine pcall_of fun s => ?_
  refine acall_of Tryz.func115 rfl rfl (by simp [Tryz.ntmps115]) ?_; rw [Tryz.ntmps115, Tryz.results115]
  unfold DN
  refine go @ti63 ?_
  refine aw_loop (fun n e s' => n ≤ xs.length ∧ e.n = 21 ∧ e.m 0 = DN xs ∧ e.m 3 = .v (.int .i64 n) ∧ s' = s ∧ trimZ (xs.take n) = trimZ xs) xs.length ?_ ?_
  · exact rn0 (cj @DN.eq_1 (cj @Nat.le_refl rlt))
  · rintro n e s' ⟨hn, h1, h2, h3, rfl, h4⟩
    unfold DN at h2
    by_cases hk : 0 < n
    · by_cases hz : xs.getD (n - 1) 0 = 0
      · refine go (cj @ti63 (cj @h1 (cj @h2 (cj @h3 @ti3)))) ?_
        refine ifs ?_ ?_ <;> first | exact nope | intro hb
        refine go (cj @ti63 (cj @h1 (cj @h2 (cj @h3 @ti3)))) ?_
        have h5 := trimZ_last xs n hk hn hz
        simp only [block_normal, loop_normal]; refine ⟨n - 1, by omega, ?_⟩; (first | refine rn (cj @DN.eq_1 (cj @h1 @h2)) ?_ | exact rn0 (cj @DN.eq_1 (cj @h1 @h2)))
        exact ⟨by omega, by congr 2; omega, by rw [h5, h4]⟩
      · refine go (cj @ti63 (cj @h1 (cj @h2 (cj @h3 @ti3)))) ?_
        refine ifs ?_ ?_ <;> first | exact nope | intro hb
        have h5 := trimZ_stop xs n hn (.inr hz)
        rw [h4] at h5
        refine go (cj @ti63 (cj @h1 (cj @h2 (cj @h3 @ti3)))) ?_
        rw [h5]
        simp [List.map_take, Nat.min_eq_left hn]
    · have h5 := trimZ_stop xs n hn (.inl (by omega))
      rw [h4] at h5
      refine go (cj @ti63 (cj @h1 (cj @h2 (cj @h3 @ti3)))) ?_
      refine ifs ?_ ?_ <;> first | exact nope | intro hb
      refine go (cj @ti63 (cj @h1 (cj @h2 (cj @h3 @ti3)))) ?_
      rw [h5]
      simp [List.map_take, Nat.min_eq_left hn]

def cmpN (x y : Nat) : Int := if x < y then -1 else if x = y then 0 else 1
theorem cmpN_lt {x y : Nat} (h : x < y) : cmpN x y = -1 := if_pos h
theorem cmpN_gt {x y : Nat} (h : y < x) : cmpN x y = 1 := by unfold cmpN; rw [if_neg (by omega), if_neg (by omega)]
theorem cmpN_eq {x y : Nat} (h : x = y) : cmpN x y = 0 := by unfold cmpN; rw [if_neg (by omega), if_pos h]
theorem hB : 1 < B := by decide
theorem len_lt {x y : Nat} (h : (digs B x).length < (digs B y).length) : x < y := by
  have h1 := (digs_length_le B hB (digs B x).length x).1 (Nat.le_refl _)
  have h2 : ¬ y < B ^ (digs B x).length := fun h3 => by
    have := (digs_length_le B hB (digs B x).length y).2 h3
    omega
  omega
theorem val_split (l : List Nat) (n : Nat) (h : n ≤ l.length) : val B l = val B (l.take n) + B ^ n * val B (l.drop n) := by
  have := val_append B (l.take n) (l.drop n)
  rw [List.take_append_drop, List.length_take, Nat.min_eq_left h] at this
  exact this
theorem digit_lt (xs ys : List Nat) (n : Nat) (hn : 0 < n) (hx : n ≤ xs.length) (hy : n ≤ ys.length) (hd : ∀ d ∈ xs, d < B) (he : ∀ d ∈ ys, d < B) (h : xs.drop n = ys.drop n) (hlt : xs.getD (n - 1) 0 < ys.getD (n - 1) 0) : val B xs < val B ys := by
  rw [val_split xs n hx, val_split ys n hy, h]
  have t1 := val_lt B (by decide) (xs.take (n - 1)) (fun d hm => hd d (List.mem_of_mem_take hm))
  have e1 := val_take_snoc B xs (n - 1) (by omega)
  have e2 := val_take_snoc B ys (n - 1) (by omega)
  rw [show n - 1 + 1 = n by omega] at e1 e2
  rw [List.length_take, Nat.min_eq_left (by omega)] at t1
  rw [e1, e2]
  have : B ^ (n - 1) * (xs.getD (n - 1) 0 + 1) ≤ B ^ (n - 1) * ys.getD (n - 1) 0 := Nat.mul_le_mul_left _ hlt
  rw [Nat.mul_add, Nat.mul_one] at this
  omega
theorem drop_pred (xs : List Nat) (n : Nat) (hn : 0 < n) (h : n ≤ xs.length) : xs.drop (n - 1) = xs.getD (n - 1) 0 :: xs.drop n := by
  have h1 : n - 1 < xs.length := by omega
  rw [List.drop_eq_getElem_cons h1, List.getD_eq_getElem?_getD, List.getElem?_eq_getElem h1, show n - 1 + 1 = n by omega]
  rfl
theorem mags_ax (x y : Nat) (hx : (digs B x).length ≤ 140737488355328) (hy : (digs B y).length ≤ 140737488355328) : PCall Tryz.prog 113 [DN (digs B x), DN (digs B y)] (.v (.int .i64 (cmpN x y))) := by
  refine pcall_of fun s => ?_
  have vx := val_digs B hB x
  have vy := val_digs B hB y
  have dx := digs_lt B hB x
  have dy := digs_lt B hB y
  have l1 := @len_lt x y
  have l2 := @len_lt y x
  generalize digs B x = xs at *
  generalize digs B y = ys at *
  refine acall_of Tryz.func113 rfl rfl (by simp [Tryz.ntmps113]) ?_; rw [Tryz.ntmps113, Tryz.results113]
  unfold DN
  refine go @ti63 ?_
  by_cases hl : xs.length = ys.length
  · refine rn @hl ?_
    refine ifs ?_ ?_ <;> first | exact nope | intro hb
    refine go @ti63 ?_
    refine aw_loop (fun n e s' => n ≤ xs.length ∧ e.n = 41 ∧ e.m 0 = DN xs ∧ e.m 1 = DN ys ∧ e.m 5 = .v (.int .i64 ((n : Int) - 1)) ∧ s' = s ∧ xs.drop n = ys.drop n) xs.length ?_ ?_
    · refine rn (cj @DN.eq_1 @Nat.le_refl) ?_
      simp [hl]
    · rintro n e s' ⟨hn, h1, h2, h3, h4, rfl, h5⟩
      unfold DN at h2 h3
      by_cases hk : 0 < n
      · refine go (cj @h1 @h4) ?_
        refine ifs ?_ ?_ <;> first | exact nope | intro hb
        refine go (cj @h1 @h4) ?_
        have r1 : xs.getD (n - 1) 0 < B := getD_lt B (by decide) xs dx _
        by_cases q1 : xs.getD (n - 1) 0 < ys.getD (n - 1) 0
        · have hv := digit_lt xs ys n hk hn (by omega) dx dy h5 q1
          rw [vx, vy] at hv
          refine aw_drw (.take 0 (.take 1 (.take 2 (.take 3 (.take 4 (.take 5 (.take 6 (.take 7 (.take 8 (.done)))))))))) [] (by kernel_rfl) (by kernel_rfl) fun K hK => ?_; refine dr (cj @ti63 (cj @h1 (cj @h2 (cj @h3 (cj @h4 @ti3))))) ?_; refine hK _ _ ?_; clear hK K
          refine ifs ?_ ?_ <;> first | exact nope | intro hb
          refine go @h1 ?_
          rw [cmpN_lt hv]
        · refine aw_drw (.take 0 (.take 1 (.take 2 (.take 3 (.take 4 (.take 5 (.take 6 (.take 7 (.take 8 (.done)))))))))) [] (by kernel_rfl) (by kernel_rfl) fun K hK => ?_; refine dr (cj @ti63 (cj @h1 (cj @h2 (cj @h3 (cj @h4 @ti3))))) ?_; refine hK _ _ ?_; clear hK K
          refine ifs ?_ ?_ <;> first | exact nope | intro hb
          refine go @h1 ?_
          by_cases q2 : ys.getD (n - 1) 0 < xs.getD (n - 1) 0
          · have hv := digit_lt ys xs n hk (by omega) hn dy dx h5.symm q2
            rw [vx, vy] at hv
            refine aw_drw (.take 0 (.take 1 (.take 2 (.take 3 (.take 4 (.take 5 (.take 6 (.take 7 (.take 8 (.done)))))))))) [] (by kernel_rfl) (by kernel_rfl) fun K hK => ?_; refine dr (cj @ti63 (cj @h1 (cj @h2 (cj @h3 (cj @h4 @ti3))))) ?_; refine hK _ _ ?_; clear hK K
            refine ifs ?_ ?_ <;> first | exact nope | intro hb
            refine go @h1 ?_
            rw [cmpN_gt hv]
          · refine aw_drw (.take 0 (.take 1 (.take 2 (.take 3 (.take 4 (.take 5 (.take 6 (.take 7 (.take 8 (.done)))))))))) [] (by kernel_rfl) (by kernel_rfl) fun K hK => ?_; refine dr (cj @ti63 (cj @h1 (cj @h2 (cj @h3 (cj @h4 @ti3))))) ?_; refine hK _ _ ?_; clear hK K
            refine ifs ?_ ?_ <;> first | exact nope | intro hb
            refine go (cj @h1 @h4) ?_
            simp only [block_normal, loop_normal]; refine ⟨n - 1, by omega, ?_⟩; (first | refine rn (cj @DN.eq_1 (cj @h1 (cj @h2 @h3))) ?_ | exact rn0 (cj @DN.eq_1 (cj @h1 (cj @h2 @h3))))
            refine ⟨by omega, by congr 2; omega, ?_⟩
            rw [drop_pred xs n hk hn, drop_pred ys n hk (by omega), h5, show xs.getD (n - 1) 0 = ys.getD (n - 1) 0 by omega]
      · obtain rfl : n = 0 := by omega
        rw [List.drop_zero, List.drop_zero] at h5
        have : x = y := by rw [← vx, ← vy, h5]
        refine go (cj @h1 @h4) ?_
        refine ifs ?_ ?_ <;> first | exact nope | intro hb
        refine go (cj @h1 @h4) ?_
        rw [cmpN_eq this]
  · refine rn @hl ?_
    refine ifs ?_ ?_ <;> first | exact nope | intro hb
    refine go @ti63 ?_
    by_cases q : xs.length < ys.length
    · refine rn trivial ?_
      refine ifs ?_ ?_ <;> first | exact nope | intro hb
      refine go trivial ?_
      rw [cmpN_lt (l1 q)]
    · refine rn trivial ?_
      refine ifs ?_ ?_ <;> first | exact nope | intro hb
      refine go trivial ?_
      rw [cmpN_gt (l2 (by omega))]

theorem plus_step (xs ys ds : List Nat) (k cr : Nat) (hds : ds.length = k) (h : val B ds + B ^ k * cr = val B (xs.take k) + val B (ys.take k)) (z : Nat) (hz : z = cr + xs.getD k 0 + ys.getD k 0) :
    val B (ds ++ [z % B]) + B ^ (k + 1) * (z / B) = val B (xs.take (k + 1)) + val B (ys.take (k + 1)) := by
  have tk : ∀ l : List Nat, val B (l.take (k + 1)) = val B (l.take k) + B ^ k * l.getD k 0 := by
    intro l
    by_cases hk : k < l.length
    · exact val_take_snoc B l k hk
    · rw [List.take_of_length_le (by omega), List.take_of_length_le (by omega), List.getD_eq_getElem?_getD, List.getElem?_eq_none (by omega)]
      simp
  rw [tk, tk, val_snoc, hds, Nat.pow_succ]
  have e1 : z = z % B + B * (z / B) := (Nat.mod_add_div z B).symm
  have e2 : B ^ k * z = B ^ k * (z % B) + B ^ k * B * (z / B) := by
    conv => lhs; rw [e1]
    rw [Nat.mul_add, ← Nat.mul_assoc]
  have e3 : B ^ k * z = B ^ k * cr + B ^ k * xs.getD k 0 + B ^ k * ys.getD k 0 := by
    rw [hz, Nat.mul_add, Nat.mul_add]
  omega
def DL (xs : List Nat) : List AV := xs.map fun x : Nat => .v (.int .i64 (x : Int))
structure PlusI (xs ys : List Nat) (s : St) (n k cr id : Nat) (ds : List Nat) (e : Env) (s' : St) : Prop where
  imu : n = 2 * (max xs.length ys.length - k) + cr
  icr : cr ≤ 1
  ik : k ≤ max xs.length ys.length + 1
  ilast : k = max xs.length ys.length + 1 → cr = 0
  en : e.n = 55
  e0 : e.m 0 = DN xs
  e1 : e.m 1 = DN ys
  e5 : e.m 5 = .own id 0 k 1
  e6 : e.m 6 = .v (.int .i64 cr)
  e7 : e.m 7 = .v (.int .i64 k)
  iget : s'.get id = some (DL ds)
  ilo : s.nx ≤ id
  ihi : id < s'.nx
  ifr : ∀ i, i < s.nx → s'.get i = s.get i
  ilen : ds.length = k
  ilt : ∀ d ∈ ds, d < B
  ival : val B ds + B ^ k * cr = val B (xs.take k) + val B (ys.take k)
theorem getD_out (l : List Nat) (k : Nat) (h : ¬ k < l.length) : l.getD k 0 = 0 := by rw [List.getD_eq_getElem?_getD, List.getElem?_eq_none (by omega)]; rfl
theorem PlusI.step {xs ys : List Nat} {s : St} {n k cr id : Nat} {ds : List Nat} {e : Env} {s' : St} (h : PlusI xs ys s n k cr id ds e s') (hgo : k < xs.length ∨ k < ys.length ∨ 0 < cr) (dx : ∀ d ∈ xs, d < B) (dy : ∀ d ∈ ys, d < B)
    {z q r : Nat} (hz : z = cr + xs.getD k 0 + ys.getD k 0) (hq : q = z / 65536) (hr : r = z % 65536) {e' : Env} {s2 : St} {id' : Nat} (q1 : e'.n = 55) (q2 : e'.m 0 = DN xs) (q3 : e'.m 1 = DN ys) (q4 : e'.m 5 = .own id' 0 (k + 1) 1)
    (q5 : e'.m 6 = .v (.int .i64 (q : Int))) (q6 : e'.m 7 = .v (.int .i64 ((k : Int) + 1))) (q7 : s2.get id' = some (DL (ds ++ [r]))) (q8 : s.nx ≤ id') (q9 : id' < s2.nx) (q10 : ∀ i, i < s.nx → s2.get i = s.get i) :
    ∃ n', n' < n ∧ ∃ (k cr id : Nat) (ds : List Nat), PlusI xs ys s n' k cr id ds e' s2 := by
  have bx : xs.getD k 0 < 65536 := getD_lt B (by decide) xs dx k
  have by' : ys.getD k 0 < 65536 := getD_lt B (by decide) ys dy k
  have ox := getD_out xs k
  have oy := getD_out ys k
  have hs := plus_step xs ys ds k cr h.ilen h.ival z hz
  rw [show z / B = q from hq.symm, show z % B = r from hr.symm] at hs
  have hn := h.imu
  have hcr := h.icr
  have hk := h.ik
  have hlast := h.ilast
  have hm : q ≤ 1 ∧ 2 * (max xs.length ys.length - (k + 1)) + q < n ∧ k + 1 ≤ max xs.length ys.length + 1 ∧ (k + 1 = max xs.length ys.length + 1 → q = 0) := by
    by_cases hM : k < max xs.length ys.length
    · omega
    · have o1 := ox (by omega)
      have o2 := oy (by omega)
      omega
  refine ⟨_, hm.2.1, k + 1, q, id', ds ++ [r], rfl, hm.1, hm.2.2.1, hm.2.2.2, q1, q2, q3, q4, q5, by rw [q6]; rfl, q7, q8, q9, q10, by simp [h.ilen], ?_, hs⟩
  intro d hd
  rcases List.mem_append.1 hd with hd | hd
  · exact h.ilt d hd
  · rw [List.mem_singleton.1 hd, hr]; exact Nat.mod_lt _ (by decide)
theorem DL_snoc (ds : List Nat) (r : Nat) : DL (ds ++ [r]) = DL ds ++ [.v (.int .i64 (r : Int))] := by unfold DL; rw [List.map_append]; rfl
theorem DL_len (ds : List Nat) : (DL ds).length = ds.length := List.length_map _
theorem DL_take (ds : List Nat) (k : Nat) (h : ds.length = k) : (DL ds).take k = DL ds := List.take_of_length_le (by rw [DL_len]; omega)
theorem plus_ax (xs ys : List Nat) (hx : xs.length ≤ 1099511627776) (hy : ys.length ≤ 1099511627776) (dx : ∀ d ∈ xs, d < B) (dy : ∀ d ∈ ys, d < B) : PCall Tryz.prog 112 [DN xs, DN ys] (DN (digs B (val B xs + val B ys))) := by
  refine pcall_of fun s => ?_
  refine acall_of Tryz.func112 rfl rfl (by simp [Tryz.ntmps112]) ?_; rw [Tryz.ntmps112, Tryz.results112]
  unfold DN
  refine go @ti63 ?_
  refine aw_nil 5 1 rfl rfl ?_
  refine aw_loop (fun n e s' => ∃ (k cr id : Nat) (ds : List Nat), PlusI xs ys s n k cr id ds e s') (2 * max xs.length ys.length) ?_ ?_
  · exact ⟨0, 0, s.nx, [], by omega, by omega, by omega, by omega, rfl, rfl, rfl, rfl, rfl, rfl, St.push_same _ _, Nat.le_refl _, Nat.lt_succ_self _, fun i hi => St.push_ne _ _ _ (by omega), rfl, fun d hd => by simp at hd, by simp [val]⟩
  · rintro n e s' ⟨k, cr, id, ds, hI⟩
    obtain rfl := hI.ilen
    have h1 := hI.en
    have h2 := hI.e0
    have h3 := hI.e1
    have h4 := hI.e5
    have h5 := hI.e6
    have h6 := hI.e7
    have h7 := hI.iget
    have b1 := hI.icr
    have b2 := hI.ik
    have b3 := hI.ilo
    have b4 := hI.ihi
    have l1 := DL_len ds
    unfold DN at h2 h3
    by_cases hgo : ds.length < xs.length ∨ ds.length < ys.length ∨ 0 < cr
    · have bx : xs.getD ds.length 0 < 65536 := getD_lt B (by decide) xs dx _
      have by' : ys.getD ds.length 0 < 65536 := getD_lt B (by decide) ys dy _
      have ox := getD_out xs ds.length
      have oy := getD_out ys ds.length
      by_cases c1 : ds.length < xs.length <;> by_cases c2 : ds.length < ys.length
      · refine go (cj @ti63 (cj @h1 (cj @h2 (cj @h3 (cj @h4 (cj @h5 @h6)))))) ?_
        refine ifs ?_ ?_ <;> first | exact nope | intro hb
        refine go (cj @ti63 (cj @h1 (cj @h2 (cj @h3 (cj @h4 (cj @h5 @h6)))))) ?_
        refine ifs ?_ ?_ <;> first | exact nope | intro hb
        refine go (cj @ti63 (cj @ti3 (cj @h1 (cj @h2 (cj @h3 (cj @h4 (cj @h5 @h6))))))) ?_
        refine ifs ?_ ?_ <;> first | exact nope | intro hb
        refine go (cj @ti63 (cj @ti3 (cj @h1 (cj @h2 (cj @h3 (cj @h4 (cj @h5 (cj @h6 (cj @h7 @l1))))))))) ?_
        simp only [block_normal, loop_normal]
        refine hI.step hgo dx dy (z := cr + xs.getD ds.length 0 + ys.getD ds.length 0) rfl rfl rfl (id' := s'.nx + 1) ?_ ?_ ?_ ?_ ?_ ?_ ?_ (by omega) ?_ ?_ <;> (first | refine rn (cj @h1 (cj @h2 (cj @h3 @DN.eq_1))) ?_ | exact rn0 (cj @h1 (cj @h2 (cj @h3 @DN.eq_1))))
        all_goals (first | exact shz | (intro i hi; (first | refine rn (hI.ifr i hi) ?_ | exact rn0 (hI.ifr i hi))) | skip)
        all_goals (rw [DL_snoc]; refine congrArg (fun z : Int => some (DL ds ++ [.v (.int .i64 z)])) ?_; omega)
      · refine go (cj @ti63 (cj @h1 (cj @h2 (cj @h3 (cj @h4 (cj @h5 @h6)))))) ?_
        refine ifs ?_ ?_ <;> first | exact nope | intro hb
        refine go (cj @ti63 (cj @h1 (cj @h2 (cj @h3 (cj @h4 (cj @h5 @h6)))))) ?_
        refine ifs ?_ ?_ <;> first | exact nope | intro hb
        refine go (cj @ti63 (cj @ti3 (cj @h1 (cj @h2 (cj @h3 (cj @h4 (cj @h5 @h6))))))) ?_
        refine ifs ?_ ?_ <;> first | exact nope | intro hb
        refine go (cj @ti63 (cj @ti3 (cj @h1 (cj @h2 (cj @h3 (cj @h4 (cj @h5 (cj @h6 (cj @h7 @l1))))))))) ?_
        simp only [block_normal, loop_normal]
        refine hI.step hgo dx dy (z := cr + xs.getD ds.length 0 + ys.getD ds.length 0) rfl rfl rfl (id' := s'.nx + 1) ?_ ?_ ?_ ?_ ?_ ?_ ?_ (by omega) ?_ ?_ <;> (first | refine rn (cj @h1 (cj @h2 (cj @h3 @DN.eq_1))) ?_ | exact rn0 (cj @h1 (cj @h2 (cj @h3 @DN.eq_1))))
        all_goals (first | exact shz | (intro i hi; (first | refine rn (hI.ifr i hi) ?_ | exact rn0 (hI.ifr i hi))) | skip)
        all_goals (rw [DL_snoc]; refine congrArg (fun z : Int => some (DL ds ++ [.v (.int .i64 z)])) ?_; omega)
      · refine go (cj @ti63 (cj @h1 (cj @h2 (cj @h3 (cj @h4 (cj @h5 @h6)))))) ?_
        refine ifs ?_ ?_ <;> first | exact nope | intro hb
        refine go (cj @ti63 (cj @h1 (cj @h2 (cj @h3 (cj @h4 (cj @h5 @h6)))))) ?_
        refine ifs ?_ ?_ <;> first | exact nope | intro hb
        refine go (cj @ti63 (cj @ti3 (cj @h1 (cj @h2 (cj @h3 (cj @h4 (cj @h5 @h6))))))) ?_
        refine ifs ?_ ?_ <;> first | exact nope | intro hb
        refine go (cj @ti63 (cj @ti3 (cj @h1 (cj @h2 (cj @h3 (cj @h4 (cj @h5 (cj @h6 (cj @h7 @l1))))))))) ?_
        simp only [block_normal, loop_normal]
        refine hI.step hgo dx dy (z := cr + xs.getD ds.length 0 + ys.getD ds.length 0) rfl rfl rfl (id' := s'.nx + 1) ?_ ?_ ?_ ?_ ?_ ?_ ?_ (by omega) ?_ ?_ <;> (first | refine rn (cj @h1 (cj @h2 (cj @h3 @DN.eq_1))) ?_ | exact rn0 (cj @h1 (cj @h2 (cj @h3 @DN.eq_1))))
        all_goals (first | exact shz | (intro i hi; (first | refine rn (hI.ifr i hi) ?_ | exact rn0 (hI.ifr i hi))) | skip)
        all_goals (rw [DL_snoc]; refine congrArg (fun z : Int => some (DL ds ++ [.v (.int .i64 z)])) ?_; omega)
      · have c3 : 0 < cr := by omega
        refine go (cj @ti63 (cj @h1 (cj @h2 (cj @h3 (cj @h4 (cj @h5 @h6)))))) ?_
        refine ifs ?_ ?_ <;> first | exact nope | intro hb
        refine go (cj @ti63 (cj @h1 (cj @h2 (cj @h3 (cj @h4 (cj @h5 @h6)))))) ?_
        refine ifs ?_ ?_ <;> first | exact nope | intro hb
        refine go (cj @ti63 (cj @ti3 (cj @h1 (cj @h2 (cj @h3 (cj @h4 (cj @h5 @h6))))))) ?_
        refine ifs ?_ ?_ <;> first | exact nope | intro hb
        refine go (cj @ti63 (cj @ti3 (cj @h1 (cj @h2 (cj @h3 (cj @h4 (cj @h5 (cj @h6 (cj @h7 @l1))))))))) ?_
        simp only [block_normal, loop_normal]
        refine hI.step hgo dx dy (z := cr + xs.getD ds.length 0 + ys.getD ds.length 0) rfl rfl rfl (id' := s'.nx + 1) ?_ ?_ ?_ ?_ ?_ ?_ ?_ (by omega) ?_ ?_ <;> (first | refine rn (cj @h1 (cj @h2 (cj @h3 @DN.eq_1))) ?_ | exact rn0 (cj @h1 (cj @h2 (cj @h3 @DN.eq_1))))
        all_goals (first | exact shz | (intro i hi; (first | refine rn (hI.ifr i hi) ?_ | exact rn0 (hI.ifr i hi))) | skip)
        all_goals (rw [DL_snoc]; refine congrArg (fun z : Int => some (DL ds ++ [.v (.int .i64 z)])) ?_; omega)
    · have cr0 : cr = 0 := by omega
      have hv := hI.ival
      rw [List.take_of_length_le (by omega), List.take_of_length_le (by omega), cr0, Nat.mul_zero, Nat.add_zero] at hv
      have ht := digs_val B hB ds hI.ilt
      rw [hv] at ht
      have b5 : ds.length ≤ 140737488355328 := by omega
      clear b2 hv
      refine go (cj @ti63 (cj @h1 (cj @h2 (cj @h3 (cj @h4 (cj @h5 @h6)))))) ?_
      refine ifs ?_ ?_ <;> first | exact nope | intro hb
      refine go (cj @ti63 (cj @h1 (cj @h2 (cj @h3 (cj @h4 (cj @h5 @h6)))))) ?_
      refine aw_reg fun K hK => ?_; refine rn (cj @h1 @h4) ?_; refine acall_frz id (DL ds) h7 (fun _ => false) ?_; refine rn @DL.eq_1 ?_; refine cont_pure (trim_ax ds b5) ?_; refine rn (cj @h1 @h4) ?_; refine hK _ _ ?_; clear hK K
      refine go (cj @h1 @h4) ?_
      rw [ht]
      exact ⟨rfl, fun i hi => by rw [if_neg (by omega)]; exact hI.ifr i hi⟩
end Go.Proofs.YtfjelkjlfcafgaaGreatDoor.RefA
end
section
/- The document's whole numbers (layer 1): minus, and the numbers with a sign. -/
namespace Go.Proofs.YtfjelkjlfcafgaaGreatDoor.RefB
open Go Go.RowKit Go.Proofs.YtfjelkjlfcafgaaGreatDoor.Ax Go.Proofs.YtfjelkjlfcafgaaGreatDoor.Ti Go.Proofs.YtfjelkjlfcafgaaGreatDoor.BigM Go.Proofs.YtfjelkjlfcafgaaGreatDoor.RefA
set_option maxHeartbeats 2000000
set_option linter.unusedSimpArgs false
set_option linter.unusedVariables false

structure MinusI (xs ys : List Nat) (s : St) (n k cr id : Nat) (ds : List Nat) (e : Env) (s' : St) : Prop where
  imu : n = xs.length - k
  icr : cr ≤ 1
  ik : k ≤ xs.length
  en : e.n = 41
  e0 : e.m 0 = DN xs
  e1 : e.m 1 = DN ys
  e5 : e.m 5 = .own id 0 k 1
  e6 : e.m 6 = .v (.int .i64 cr)
  e7 : e.m 7 = .v (.int .i64 k)
  iget : s'.get id = some (DL ds)
  ilo : s.nx ≤ id
  ihi : id < s'.nx
  ifr : ∀ i, i < s.nx → s'.get i = s.get i
  ilen : ds.length = k
  ilt : ∀ d ∈ ds, d < B
  ival : val B ds + val B (ys.take k) = val B (xs.take k) + B ^ k * cr
theorem tk_snoc (l : List Nat) (k : Nat) : val B (l.take (k + 1)) = val B (l.take k) + B ^ k * l.getD k 0 := by
  by_cases hk : k < l.length
  · exact val_take_snoc B l k hk
  · rw [List.take_of_length_le (by omega), List.take_of_length_le (by omega), List.getD_eq_getElem?_getD, List.getElem?_eq_none (by omega)]
    simp
theorem MinusI.step {xs ys : List Nat} {s : St} {n k cr id : Nat} {ds : List Nat} {e : Env} {s' : St} (h : MinusI xs ys s n k cr id ds e s') (hgo : k < xs.length) (dx : ∀ d ∈ xs, d < B) (dy : ∀ d ∈ ys, d < B)
    {q r : Nat} (hq : q ≤ 1) (hr : r < 65536) (hz : (r : Int) = xs.getD k 0 - cr - ys.getD k 0 + 65536 * q) {e' : Env} {s2 : St} {id' : Nat} (q1 : e'.n = 41) (q2 : e'.m 0 = DN xs) (q3 : e'.m 1 = DN ys) (q4 : e'.m 5 = .own id' 0 (k + 1) 1)
    (q5 : e'.m 6 = .v (.int .i64 (q : Int))) (q6 : e'.m 7 = .v (.int .i64 ((k : Int) + 1))) (q7 : s2.get id' = some (DL (ds ++ [r]))) (q8 : s.nx ≤ id') (q9 : id' < s2.nx) (q10 : ∀ i, i < s.nx → s2.get i = s.get i) :
    ∃ n', n' < n ∧ ∃ (k cr id : Nat) (ds : List Nat), MinusI xs ys s n' k cr id ds e' s2 := by
  have hn := h.imu
  have hv := h.ival
  refine ⟨xs.length - (k + 1), by omega, k + 1, q, id', ds ++ [r], rfl, hq, by omega, q1, q2, q3, q4, q5, by rw [q6]; rfl, q7, q8, q9, q10, by simp [h.ilen], ?_, ?_⟩
  · intro d hd
    rcases List.mem_append.1 hd with hd | hd
    · exact h.ilt d hd
    · rw [List.mem_singleton.1 hd]; exact hr
  · rw [tk_snoc, tk_snoc, val_snoc, h.ilen, Nat.pow_succ]
    have e0 : r + cr + ys.getD k 0 = xs.getD k 0 + 65536 * q := by omega
    have e1 : B ^ k * (r + cr + ys.getD k 0) = B ^ k * (xs.getD k 0 + B * q) := by rw [e0]; rfl
    rw [Nat.mul_add, Nat.mul_add, Nat.mul_add, ← Nat.mul_assoc] at e1
    omega
theorem minus_ax (xs ys : List Nat) (hx : xs.length ≤ 1099511627776) (dx : ∀ d ∈ xs, d < B) (dy : ∀ d ∈ ys, d < B) (hyx : val B ys ≤ val B xs) (hyl : ys.length ≤ xs.length) : PCall Tryz.prog 114 [DN xs, DN ys] (DN (digs B (val B xs - val B ys))) := by
  refine pcall_of fun s => ?_
  refine acall_of Tryz.func114 rfl rfl (by simp [Tryz.ntmps114]) ?_; rw [Tryz.ntmps114, Tryz.results114]
  unfold DN
  refine go @ti63 ?_
  refine aw_nil 5 1 rfl rfl ?_
  refine aw_loop (fun n e s' => ∃ (k cr id : Nat) (ds : List Nat), MinusI xs ys s n k cr id ds e s') xs.length ?_ ?_
  · exact ⟨0, 0, s.nx, [], rfl, by omega, by omega, rfl, rfl, rfl, rfl, rfl, rfl, St.push_same _ _, Nat.le_refl _, Nat.lt_succ_self _, fun i hi => St.push_ne _ _ _ (by omega), rfl, fun d hd => by simp at hd, by simp [val]⟩
  · rintro n e s' ⟨k, cr, id, ds, hI⟩
    obtain rfl := hI.ilen
    have h1 := hI.en
    have h2 := hI.e0
    have h3 := hI.e1
    have h4 := hI.e5
    have h5 := hI.e6
    have h6 := hI.e7
    have h7 := hI.iget
    have b1 := hI.icr
    have b2 := hI.ik
    have b3 := hI.ilo
    have b4 := hI.ihi
    have l1 := DL_len ds
    unfold DN at h2 h3
    by_cases hgo : ds.length < xs.length
    · have bx : xs.getD ds.length 0 < 65536 := getD_lt B (by decide) xs dx _
      have by' : ys.getD ds.length 0 < 65536 := getD_lt B (by decide) ys dy _
      have oy := getD_out ys ds.length
      have fin : ∀ (y : Nat), ys.getD ds.length 0 = y → y < 65536 → (∃ q r : Nat, q ≤ 1 ∧ r < 65536 ∧ (r : Int) = xs.getD ds.length 0 - cr - y + 65536 * q) := by
        intro y hy hyb
        by_cases hneg : xs.getD ds.length 0 < cr + y
        · exact ⟨1, xs.getD ds.length 0 + 65536 - cr - y, by omega, by omega, by omega⟩
        · exact ⟨0, xs.getD ds.length 0 - cr - y, by omega, by omega, by omega⟩
      by_cases c2 : ds.length < ys.length
      · refine go (cj @ti63 (cj @h1 (cj @h2 (cj @h3 (cj @h4 (cj @h5 @h6)))))) ?_
        refine ifs ?_ ?_ <;> first | exact nope | intro hb
        refine go (cj @ti63 (cj @ti3 (cj @h1 (cj @h2 (cj @h3 (cj @h4 (cj @h5 @h6))))))) ?_
        refine ifs ?_ ?_ <;> first | exact nope | intro hb
        by_cases hneg : xs.getD ds.length 0 < cr + ys.getD ds.length 0
        · refine go (cj @ti63 (cj @ti3 (cj @h1 (cj @h2 (cj @h3 (cj @h4 (cj @h5 @h6))))))) ?_
          refine ifs ?_ ?_ <;> first | exact nope | intro hb
          refine go (cj @ti63 (cj @ti3 (cj @h1 (cj @h2 (cj @h3 (cj @h4 (cj @h5 (cj @h6 (cj @h7 @l1))))))))) ?_
          simp only [block_normal, loop_normal]
          refine hI.step hgo dx dy (q := 1) (r := xs.getD ds.length 0 + 65536 - cr - ys.getD ds.length 0) (by omega) (by omega) (by omega) (id' := s'.nx + 1) ?_ ?_ ?_ ?_ ?_ ?_ ?_ (by omega) ?_ ?_ <;> (first | refine rn (cj @h1 (cj @h2 (cj @h3 @DN.eq_1))) ?_ | exact rn0 (cj @h1 (cj @h2 (cj @h3 @DN.eq_1))))
          all_goals (first | exact shz | (intro i hi; (first | refine rn (hI.ifr i hi) ?_ | exact rn0 (hI.ifr i hi))) | skip)
          all_goals (rw [DL_snoc]; refine congrArg (fun z : Int => some (DL ds ++ [.v (.int .i64 z)])) ?_; omega)
        · refine go (cj @ti63 (cj @ti3 (cj @h1 (cj @h2 (cj @h3 (cj @h4 (cj @h5 @h6))))))) ?_
          refine ifs ?_ ?_ <;> first | exact nope | intro hb
          refine go (cj @ti63 (cj @ti3 (cj @h1 (cj @h2 (cj @h3 (cj @h4 (cj @h5 (cj @h6 (cj @h7 @l1))))))))) ?_
          simp only [block_normal, loop_normal]
          refine hI.step hgo dx dy (q := 0) (r := xs.getD ds.length 0 - cr - ys.getD ds.length 0) (by omega) (by omega) (by omega) (id' := s'.nx + 1) ?_ ?_ ?_ ?_ ?_ ?_ ?_ (by omega) ?_ ?_ <;> (first | refine rn (cj @h1 (cj @h2 (cj @h3 @DN.eq_1))) ?_ | exact rn0 (cj @h1 (cj @h2 (cj @h3 @DN.eq_1))))
          all_goals (first | exact shz | (intro i hi; (first | refine rn (hI.ifr i hi) ?_ | exact rn0 (hI.ifr i hi))) | skip)
          all_goals (rw [DL_snoc]; refine congrArg (fun z : Int => some (DL ds ++ [.v (.int .i64 z)])) ?_; omega)
      · refine go (cj @ti63 (cj @h1 (cj @h2 (cj @h3 (cj @h4 (cj @h5 @h6)))))) ?_
        refine ifs ?_ ?_ <;> first | exact nope | intro hb
        refine go (cj @ti63 (cj @ti3 (cj @h1 (cj @h2 (cj @h3 (cj @h4 (cj @h5 @h6))))))) ?_
        refine ifs ?_ ?_ <;> first | exact nope | intro hb
        by_cases hneg : xs.getD ds.length 0 < cr + ys.getD ds.length 0
        · refine go (cj @ti63 (cj @ti3 (cj @h1 (cj @h2 (cj @h3 (cj @h4 (cj @h5 @h6))))))) ?_
          refine ifs ?_ ?_ <;> first | exact nope | intro hb
          refine go (cj @ti63 (cj @ti3 (cj @h1 (cj @h2 (cj @h3 (cj @h4 (cj @h5 (cj @h6 (cj @h7 @l1))))))))) ?_
          simp only [block_normal, loop_normal]
          refine hI.step hgo dx dy (q := 1) (r := xs.getD ds.length 0 + 65536 - cr - ys.getD ds.length 0) (by omega) (by omega) (by omega) (id' := s'.nx + 1) ?_ ?_ ?_ ?_ ?_ ?_ ?_ (by omega) ?_ ?_ <;> (first | refine rn (cj @h1 (cj @h2 (cj @h3 @DN.eq_1))) ?_ | exact rn0 (cj @h1 (cj @h2 (cj @h3 @DN.eq_1))))
          all_goals (first | exact shz | (intro i hi; (first | refine rn (hI.ifr i hi) ?_ | exact rn0 (hI.ifr i hi))) | skip)
          all_goals (rw [DL_snoc]; refine congrArg (fun z : Int => some (DL ds ++ [.v (.int .i64 z)])) ?_; omega)
        · refine go (cj @ti63 (cj @ti3 (cj @h1 (cj @h2 (cj @h3 (cj @h4 (cj @h5 @h6))))))) ?_
          refine ifs ?_ ?_ <;> first | exact nope | intro hb
          refine go (cj @ti63 (cj @ti3 (cj @h1 (cj @h2 (cj @h3 (cj @h4 (cj @h5 (cj @h6 (cj @h7 @l1))))))))) ?_
          simp only [block_normal, loop_normal]
          refine hI.step hgo dx dy (q := 0) (r := xs.getD ds.length 0 - cr - ys.getD ds.length 0) (by omega) (by omega) (by omega) (id' := s'.nx + 1) ?_ ?_ ?_ ?_ ?_ ?_ ?_ (by omega) ?_ ?_ <;> (first | refine rn (cj @h1 (cj @h2 (cj @h3 @DN.eq_1))) ?_ | exact rn0 (cj @h1 (cj @h2 (cj @h3 @DN.eq_1))))
          all_goals (first | exact shz | (intro i hi; (first | refine rn (hI.ifr i hi) ?_ | exact rn0 (hI.ifr i hi))) | skip)
          all_goals (rw [DL_snoc]; refine congrArg (fun z : Int => some (DL ds ++ [.v (.int .i64 z)])) ?_; omega)
    · have hv := hI.ival
      rw [List.take_of_length_le (by omega), List.take_of_length_le (by omega)] at hv
      have hlt := val_lt B (by decide) ds hI.ilt
      have cr0 : cr = 0 := by
        rcases Nat.eq_zero_or_pos cr with h | h
        · exact h
        · obtain rfl : cr = 1 := by omega
          omega
      rw [cr0, Nat.mul_zero, Nat.add_zero] at hv
      have ht := digs_val B hB ds hI.ilt
      rw [show val B ds = val B xs - val B ys by omega] at ht
      have b5 : ds.length ≤ 140737488355328 := by omega
      clear hv hlt
      refine go (cj @ti63 (cj @h1 (cj @h2 (cj @h3 (cj @h4 (cj @h5 @h6)))))) ?_
      refine ifs ?_ ?_ <;> first | exact nope | intro hb
      refine go (cj @ti63 (cj @h1 (cj @h2 (cj @h3 (cj @h4 (cj @h5 @h6)))))) ?_
      refine aw_reg fun K hK => ?_; refine rn (cj @h1 @h4) ?_; refine acall_frz id (DL ds) h7 (fun _ => false) ?_; refine rn @DL.eq_1 ?_; refine cont_pure (trim_ax ds b5) ?_; refine rn (cj @h1 @h4) ?_; refine hK _ _ ?_; clear hK K
      refine go (cj @h1 @h4) ?_
      rw [ht]
      exact ⟨rfl, fun i hi => by rw [if_neg (by omega)]; exact hI.ifr i hi⟩
end Go.Proofs.YtfjelkjlfcafgaaGreatDoor.RefB
end
section
/- The document's whole numbers (layer 1): with a sign. -/
namespace Go.Proofs.YtfjelkjlfcafgaaGreatDoor.RefC
open Go Go.RowKit Go.Proofs.YtfjelkjlfcafgaaGreatDoor.Ax Go.Proofs.YtfjelkjlfcafgaaGreatDoor.Ti Go.Proofs.YtfjelkjlfcafgaaGreatDoor.BigM Go.Proofs.YtfjelkjlfcafgaaGreatDoor.RefA Go.Proofs.YtfjelkjlfcafgaaGreatDoor.RefB
set_option maxHeartbeats 2000000
set_option linter.unusedSimpArgs false
set_option linter.unusedVariables false
set_option maxRecDepth 4000
theorem rTI : type_of% (cj @ti105 (cj @ti63 (cj @ti3 @ti4))) := cj @ti105 (cj @ti63 (cj @ti3 @ti4))

def NS (b : Bool) (n : Nat) : AV := .ag [.v (.bool b), DN (digs B n)]
def NI (z : Int) : AV := NS (decide (z < 0)) z.natAbs
def ln (n : Nat) : Nat := (digs B n).length
def lz (z : Int) : Nat := ln z.natAbs
theorem dl_idf (l : List Nat) : idf.idfL (DL l) = true := by
  rw [idfL_iff]
  intro z hz
  obtain ⟨x, _, rfl⟩ := List.mem_map.1 hz
  rfl
theorem ln_zero (n : Nat) : ln n = 0 ↔ n = 0 := by unfold ln; rw [List.length_eq_zero_iff, digs_nil B hB]
theorem DN_ln (n : Nat) : DN (digs B n) = .sl (ln n) (DL (digs B n)) := rfl
theorem NS_eq (b : Bool) (n : Nat) : NS b n = .ag [.v (.bool b), .sl (ln n) (DL (digs B n))] := rfl
theorem ln_lt (n k : Nat) : n < B ^ k ↔ ln n ≤ k := (digs_length_le B hB k n).symm
theorem ln_mul (a b : Nat) : ln (a * b) ≤ ln a + ln b := by
  rw [← ln_lt, Nat.pow_add]
  have h1 := (ln_lt a _).2 (Nat.le_refl _)
  have h2 := (ln_lt b _).2 (Nat.le_refl _)
  exact Nat.mul_lt_mul'' h1 h2
theorem ln_mono {a b : Nat} (h : a ≤ b) : ln a ≤ ln b := (ln_lt _ _).1 (Nat.lt_of_le_of_lt h ((ln_lt b _).2 (Nat.le_refl _)))
theorem lz_mul (a b : Int) : lz (a * b) ≤ lz a + lz b := by unfold lz; rw [Int.natAbs_mul]; exact ln_mul _ _
theorem lz_neg (a : Int) : lz (-a) = lz a := by unfold lz; rw [Int.natAbs_neg]
def sgn (z : Int) : Int := if z < 0 then -1 else if z = 0 then 0 else 1

theorem sign_ax (z : Int) : PCall Tryz.prog 60 [NI z] (.v (.int .i64 (sgn z))) := by
  refine pcall_of fun s => ?_
  refine acall_of Tryz.func60 rfl rfl (by simp [Tryz.ntmps60]) ?_; rw [Tryz.ntmps60, Tryz.results60]
  have l0 := ln_zero z.natAbs
  unfold NI
  rw [NS_eq]
  refine go (cj rTI @dl_idf) ?_
  refine ifs ?_ ?_ <;> first | exact nope | intro hb
  · have h0 : z = 0 := by omega
    refine go (cj rTI @dl_idf) ?_
    (repeat' refine And.intro ?_ ?_) <;> (first | done | exact rfl | (intro i hi; simp (disch := omega) only [↓core, ↓List.getElem?_toArray, ↓List.getElem?_cons_succ, ↓List.getElem?_cons_zero, ↓onO_some, more, xbuild, if_pos, if_neg, onO_some, onO_none, onV_eq, xbuiltin, xlen, xload, loadA, xstore, spl, xfield, xindexAddr, xindex, xslice, bnd, xbin, xint, xshift, xstr, xeq, xun, xconv, xmake, xappend, xsrc, xbuildSlice, fillA, xminmax, gval, isK, mapM_nil_o, mapM_cons_o, AV.cells, AV.boxable, AV.one, TI.agg, resA, retA, zrow_one, eq_self, List.map, List.map_cons, List.map_nil, Option.map_some, Option.map_none, Option.bind_some, Option.bind_none, ↓reduceIte, Nat.reduceLT, Nat.reduceEqDiff, Nat.reduceAdd, Nat.reduceMul, Nat.mul_one, Nat.reduceLeDiff, decide_true, decide_false, true_and, and_true, if_true, if_false, List.toList_toArray, List.size_toArray, beq_self_eq_true, Bool.true_eq_false, Bool.false_eq_true, forall_const, false_implies, implies_true, undef, IntKind.bits, List.drop_zero, List.drop_succ_cons, List.take_succ_cons, List.take_zero, List.length_cons, List.length_nil, List.set_cons_zero, List.set_cons_succ, List.head?_cons, List.all_cons, List.all_nil, List.replicate_succ, List.replicate_zero, Bool.and_true, Bool.and_self, Value.oneCell', Bool.true_and, Bool.or_true, Bool.or_false, Bool.not_true, Bool.not_false, h0, sgn]; done) | (simp (disch := omega) only [↓core, ↓List.getElem?_toArray, ↓List.getElem?_cons_succ, ↓List.getElem?_cons_zero, ↓onO_some, more, xbuild, if_pos, if_neg, onO_some, onO_none, onV_eq, xbuiltin, xlen, xload, loadA, xstore, spl, xfield, xindexAddr, xindex, xslice, bnd, xbin, xint, xshift, xstr, xeq, xun, xconv, xmake, xappend, xsrc, xbuildSlice, fillA, xminmax, gval, isK, mapM_nil_o, mapM_cons_o, AV.cells, AV.boxable, AV.one, TI.agg, resA, retA, zrow_one, eq_self, List.map, List.map_cons, List.map_nil, Option.map_some, Option.map_none, Option.bind_some, Option.bind_none, ↓reduceIte, Nat.reduceLT, Nat.reduceEqDiff, Nat.reduceAdd, Nat.reduceMul, Nat.mul_one, Nat.reduceLeDiff, decide_true, decide_false, true_and, and_true, if_true, if_false, List.toList_toArray, List.size_toArray, beq_self_eq_true, Bool.true_eq_false, Bool.false_eq_true, forall_const, false_implies, implies_true, undef, IntKind.bits, List.drop_zero, List.drop_succ_cons, List.take_succ_cons, List.take_zero, List.length_cons, List.length_nil, List.set_cons_zero, List.set_cons_succ, List.head?_cons, List.all_cons, List.all_nil, List.replicate_succ, List.replicate_zero, Bool.and_true, Bool.and_self, Value.oneCell', Bool.true_and, Bool.or_true, Bool.or_false, Bool.not_true, Bool.not_false, h0, sgn]; done) | skip)
  · have h0 : z ≠ 0 := by omega
    refine go (cj rTI @dl_idf) ?_
    refine ifs ?_ ?_ <;> first | exact nope | intro hb
    · refine go (cj rTI @dl_idf) ?_
      (repeat' refine And.intro ?_ ?_) <;> first | exact rfl | exact fnz trivial | skip
      rw [sgn, if_pos hb]
    · refine go (cj rTI @dl_idf) ?_
      (repeat' refine And.intro ?_ ?_) <;> first | exact rfl | exact fnz trivial | skip
      rw [sgn, if_neg hb, if_neg h0]

theorem NS_zero (b : Bool) : NS b 0 = .ag [.v (.bool b), .sl 0 []] := by rw [NS_eq]; unfold ln; rw [digs_zero]; rfl
theorem NI_nn (z : Int) (h : 0 ≤ z) : NI z = NS false z.natAbs := by unfold NI; rw [decide_eq_false (by omega)]
theorem NI_neg (z : Int) (h : z < 0) : NI z = NS true z.natAbs := by unfold NI; rw [decide_eq_true h]
theorem minusN_ax (z : Int) : PCall Tryz.prog 165 [NI z] (NI (-z)) := by
  refine pcall_le fun s => ?_
  refine acall_of Tryz.func165 rfl rfl (by simp [Tryz.ntmps165]) ?_; rw [Tryz.ntmps165, Tryz.results165]
  have l0 := ln_zero z.natAbs
  rcases Int.lt_trichotomy z 0 with h | h | h
  · rw [NI_neg z h, NI_nn (-z) (by omega), Int.natAbs_neg, NS_eq, NS_eq]
    refine go (cj rTI @dl_idf) ?_
    refine ifs ?_ ?_ <;> first | exact nope | intro hb
    refine go (cj rTI @dl_idf) ?_
    (repeat' refine And.intro ?_ ?_) <;> first | exact rfl | exact fnz trivial | skip
    exact Le.refl _
  · subst h
    rw [NI_nn _ (by omega), NI_nn _ (by omega), Int.neg_zero, Int.natAbs_zero, NS_zero]
    refine go (cj rTI @dl_idf) ?_
    refine ifs ?_ ?_ <;> first | exact nope | intro hb
    refine go (cj rTI @dl_idf) ?_
    (repeat' refine And.intro ?_ ?_) <;> first | exact rfl | exact fnz trivial | skip
    exact Le.two (Le.refl _) (Le.nil _ _ rfl)
  · rw [NI_nn z (by omega), NI_neg (-z) (by omega), Int.natAbs_neg, NS_eq, NS_eq]
    refine go (cj rTI @dl_idf) ?_
    refine ifs ?_ ?_ <;> first | exact nope | intro hb
    refine go (cj rTI @dl_idf) ?_
    (repeat' refine And.intro ?_ ?_) <;> first | exact rfl | exact fnz trivial | skip
    exact Le.refl _
theorem abs_ax (z : Int) : PCall Tryz.prog 176 [NI z] (NI z.natAbs) := by
  refine pcall_of fun s => ?_
  refine acall_of Tryz.func176 rfl rfl (by simp [Tryz.ntmps176]) ?_; rw [Tryz.ntmps176, Tryz.results176]
  rw [NI_nn (z.natAbs : Int) (by omega), Int.natAbs_natCast]
  unfold NI
  rw [NS_eq, NS_eq]
  refine go (cj rTI @dl_idf) ?_
  (repeat' refine And.intro ?_ ?_) <;> first | exact rfl | exact fnz trivial | skip

theorem plusd_ax (m n : Nat) (hm : ln m ≤ 1099511627776) (hn : ln n ≤ 1099511627776) : PCall Tryz.prog 112 [DN (digs B m), DN (digs B n)] (DN (digs B (m + n))) := by
  have := plus_ax (digs B m) (digs B n) hm hn (digs_lt B hB m) (digs_lt B hB n)
  rwa [val_digs B hB, val_digs B hB] at this
theorem minusd_ax (m n : Nat) (hm : ln m ≤ 1099511627776) (h : n ≤ m) : PCall Tryz.prog 114 [DN (digs B m), DN (digs B n)] (DN (digs B (m - n))) := by
  have := minus_ax (digs B m) (digs B n) hm (digs_lt B hB m) (digs_lt B hB n) (by rw [val_digs B hB, val_digs B hB]; exact h) (ln_mono h)
  rwa [val_digs B hB, val_digs B hB] at this
def plusS (a b : Bool) (m n : Nat) : AV := if a = b then NS (a && decide (0 < m + n)) (m + n) else if n ≤ m then NS (a && decide (n < m)) (m - n) else NS b (n - m)
theorem plusS_ax (a b : Bool) (m n : Nat) (hm : ln m ≤ 1099511627776) (hn : ln n ≤ 1099511627776) : PCall Tryz.prog 57 [NS a m, NS b n] (plusS a b m n) := by
  refine pcall_of fun s => ?_
  refine acall_of Tryz.func57 rfl rfl (by simp [Tryz.ntmps57]) ?_; rw [Tryz.ntmps57, Tryz.results57]
  have p0 := plusd_ax m n hm hn
  have p1 := minusd_ax m n hm
  have p2 := minusd_ax n m hn
  have p3 := mags_ax m n (show ln m ≤ _ by omega) (show ln n ≤ _ by omega)
  unfold plusS
  have l0 := ln_zero (m + n)
  have l1 := ln_zero (m - n)
  simp only [NS_eq, DN_ln] at p0 p1 p2 p3 ⊢
  cases a <;> cases b
  · refine go (cj rTI @dl_idf) ?_
    refine ifs ?_ ?_ <;> first | exact nope | intro hb
    refine go (cj rTI @dl_idf) ?_
    refine aw_reg fun K hK => ?_; refine rn (cj rTI @dl_idf) ?_; refine cont_pure p0 ?_; refine rn (cj rTI @dl_idf) ?_; refine hK _ _ ?_; clear hK K
    refine go (cj rTI @dl_idf) ?_
    (repeat' refine And.intro ?_ ?_) <;> first | exact rfl | exact fnz trivial | skip
  · refine go (cj rTI @dl_idf) ?_
    refine ifs ?_ ?_ <;> first | exact nope | intro hb
    refine go (cj rTI @dl_idf) ?_
    refine aw_reg fun K hK => ?_; refine rn (cj rTI @dl_idf) ?_; refine cont_pure p3 ?_; refine rn (cj rTI @dl_idf) ?_; refine hK _ _ ?_; clear hK K
    by_cases h : n ≤ m
    · have h' : ¬ m < n := by omega
      by_cases h2 : n < m
      · have h3 : m ≠ n := by omega
        have h4 : 0 < ln (m - n) := by omega
        rw [cmpN_gt h2] at *
        refine ifs ?_ ?_ <;> first | exact nope | intro hb
        refine go (cj rTI @dl_idf) ?_
        refine aw_reg fun K hK => ?_; refine rn (cj rTI @dl_idf) ?_; refine cont_pure (p1 h) ?_; refine rn (cj rTI @dl_idf) ?_; refine hK _ _ ?_; clear hK K
        refine go (cj rTI @dl_idf) ?_
        (repeat' refine And.intro ?_ ?_) <;> first | exact rfl | exact fnz (cj rTI @dl_idf) | skip
      · obtain rfl : m = n := by omega
        have h4 : ln (m - m) = 0 := by omega
        rw [cmpN_eq rfl] at *
        refine ifs ?_ ?_ <;> first | exact nope | intro hb
        refine go (cj rTI @dl_idf) ?_
        refine aw_reg fun K hK => ?_; refine rn (cj rTI @dl_idf) ?_; refine cont_pure (p1 h) ?_; refine rn (cj rTI @dl_idf) ?_; refine hK _ _ ?_; clear hK K
        refine go (cj rTI @dl_idf) ?_
        (repeat' refine And.intro ?_ ?_) <;> first | exact rfl | exact fnz (cj rTI @dl_idf) | skip
    · have h' : m < n := by omega
      rw [cmpN_lt h'] at *
      refine ifs ?_ ?_ <;> first | exact nope | intro hb
      refine go (cj rTI @dl_idf) ?_
      refine aw_drw (.take 0 (.take 1 (.take 2 (.take 3 (.take 4 (.take 5 (.one 6 (.take 7 (.one 8 (.done)))))))))) [s.nx, s.nx + 1] (by kernel_rfl) (by kernel_rfl) fun K hK => ?_; refine dr (cj rTI @dl_idf) ?_; refine cont_pure (p2 (by omega)) ?_; refine dr (cj rTI @dl_idf) ?_; refine hK _ _ ?_; clear hK K
      refine go (cj rTI @dl_idf) ?_
      (repeat' refine And.intro ?_ ?_) <;> first | exact rfl | exact fnz (cj rTI @dl_idf) | skip
  · refine go (cj rTI @dl_idf) ?_
    refine ifs ?_ ?_ <;> first | exact nope | intro hb
    refine go (cj rTI @dl_idf) ?_
    refine aw_reg fun K hK => ?_; refine rn (cj rTI @dl_idf) ?_; refine cont_pure p3 ?_; refine rn (cj rTI @dl_idf) ?_; refine hK _ _ ?_; clear hK K
    by_cases h : n ≤ m
    · have h' : ¬ m < n := by omega
      by_cases h2 : n < m
      · have h3 : m ≠ n := by omega
        have h4 : 0 < ln (m - n) := by omega
        rw [cmpN_gt h2] at *
        refine ifs ?_ ?_ <;> first | exact nope | intro hb
        refine go (cj rTI @dl_idf) ?_
        refine aw_reg fun K hK => ?_; refine rn (cj rTI @dl_idf) ?_; refine cont_pure (p1 h) ?_; refine rn (cj rTI @dl_idf) ?_; refine hK _ _ ?_; clear hK K
        refine go (cj rTI @dl_idf) ?_
        (repeat' refine And.intro ?_ ?_) <;> first | exact rfl | exact fnz (cj rTI @dl_idf) | skip
      · obtain rfl : m = n := by omega
        have h4 : ln (m - m) = 0 := by omega
        rw [cmpN_eq rfl] at *
        refine ifs ?_ ?_ <;> first | exact nope | intro hb
        refine go (cj rTI @dl_idf) ?_
        refine aw_reg fun K hK => ?_; refine rn (cj rTI @dl_idf) ?_; refine cont_pure (p1 h) ?_; refine rn (cj rTI @dl_idf) ?_; refine hK _ _ ?_; clear hK K
        refine go (cj rTI @dl_idf) ?_
        (repeat' refine And.intro ?_ ?_) <;> first | exact rfl | exact fnz (cj rTI @dl_idf) | skip
    · have h' : m < n := by omega
      rw [cmpN_lt h'] at *
      refine ifs ?_ ?_ <;> first | exact nope | intro hb
      refine go (cj rTI @dl_idf) ?_
      refine aw_drw (.take 0 (.take 1 (.take 2 (.take 3 (.take 4 (.take 5 (.one 6 (.take 7 (.one 8 (.done)))))))))) [s.nx, s.nx + 1] (by kernel_rfl) (by kernel_rfl) fun K hK => ?_; refine dr (cj rTI @dl_idf) ?_; refine cont_pure (p2 (by omega)) ?_; refine dr (cj rTI @dl_idf) ?_; refine hK _ _ ?_; clear hK K
      refine go (cj rTI @dl_idf) ?_
      (repeat' refine And.intro ?_ ?_) <;> first | exact rfl | exact fnz (cj rTI @dl_idf) | skip
  · by_cases h : 0 < m + n
    · have h4 : 0 < ln (m + n) := by omega
      refine go (cj rTI @dl_idf) ?_
      refine ifs ?_ ?_ <;> first | exact nope | intro hb
      refine go (cj rTI @dl_idf) ?_
      refine aw_reg fun K hK => ?_; refine rn (cj rTI @dl_idf) ?_; refine cont_pure p0 ?_; refine rn (cj rTI @dl_idf) ?_; refine hK _ _ ?_; clear hK K
      refine go (cj rTI @dl_idf) ?_
      (repeat' refine And.intro ?_ ?_) <;> first | exact rfl | exact fnz (cj rTI @dl_idf) | skip
    · have h4 : ln (m + n) = 0 := by omega
      refine go (cj rTI @dl_idf) ?_
      refine ifs ?_ ?_ <;> first | exact nope | intro hb
      refine go (cj rTI @dl_idf) ?_
      refine aw_reg fun K hK => ?_; refine rn (cj rTI @dl_idf) ?_; refine cont_pure p0 ?_; refine rn (cj rTI @dl_idf) ?_; refine hK _ _ ?_; clear hK K
      refine go (cj rTI @dl_idf) ?_
      (repeat' refine And.intro ?_ ?_) <;> first | exact rfl | exact fnz (cj rTI @dl_idf) | skip

theorem plusN_ax (x y : Int) (hx : lz x ≤ 1099511627776) (hy : lz y ≤ 1099511627776) : PCall Tryz.prog 57 [NI x, NI y] (NI (x + y)) := by
  have h := plusS_ax (decide (x < 0)) (decide (y < 0)) x.natAbs y.natAbs hx hy
  have e : plusS (decide (x < 0)) (decide (y < 0)) x.natAbs y.natAbs = NI (x + y) := by
    unfold plusS NI
    by_cases h1 : x < 0 <;> by_cases h2 : y < 0
    · rw [if_pos (by simp [h1, h2]), show x.natAbs + y.natAbs = (x + y).natAbs by omega]
      congr 1
      rw [Bool.eq_iff_iff]; simp only [Bool.and_eq_true, decide_eq_true_eq]; omega
    · rw [if_neg (by simp [h1, h2])]
      split
      · rw [show x.natAbs - y.natAbs = (x + y).natAbs by omega]
        congr 1
        rw [Bool.eq_iff_iff]; simp only [Bool.and_eq_true, decide_eq_true_eq]; omega
      · rw [show y.natAbs - x.natAbs = (x + y).natAbs by omega]
        congr 1
        rw [Bool.eq_iff_iff]; simp only [decide_eq_true_eq]; omega
    · rw [if_neg (by simp [h1, h2])]
      split
      · rw [show x.natAbs - y.natAbs = (x + y).natAbs by omega]
        congr 1
        rw [Bool.eq_iff_iff]; simp only [Bool.and_eq_true, decide_eq_true_eq]; omega
      · rw [show y.natAbs - x.natAbs = (x + y).natAbs by omega]
        congr 1
        rw [Bool.eq_iff_iff]; simp only [decide_eq_true_eq]; omega
    · rw [if_pos (by simp [h1, h2]), show x.natAbs + y.natAbs = (x + y).natAbs by omega]
      congr 1
      rw [Bool.eq_iff_iff]; simp only [Bool.and_eq_true, decide_eq_true_eq]; omega
  rw [e] at h
  exact h
theorem lessN_ax (x y : Int) (hx : lz x ≤ 1099511627776) (hy : lz y ≤ 1099511627776) : PCall Tryz.prog 155 [NI x, NI y] (NI (x - y)) := by
  refine pcall_of fun s => ?_
  refine acall_of Tryz.func155 rfl rfl (by simp [Tryz.ntmps155]) ?_; rw [Tryz.ntmps155, Tryz.results155]
  have p0 := minusN_ax y
  have p1 := plusN_ax x (-y) hx (by rw [lz_neg]; exact hy)
  rw [show x + -y = x - y by omega] at p1
  unfold NI at p0 p1 ⊢
  simp only [NS_eq, DN_ln] at p0 p1 ⊢
  refine go (cj rTI @dl_idf) ?_
  refine aw_drw (.take 0 (.take 1 (.one 2 (.one 3 (.one 4 (.done)))))) [s.nx, s.nx + 1] (by kernel_rfl) (by kernel_rfl) fun K hK => ?_; refine dr (cj rTI @dl_idf) ?_; refine cont_pure p0 ?_; refine dr (cj rTI @dl_idf) ?_; refine cont_pure p1 ?_; refine dr (cj rTI @dl_idf) ?_; refine hK _ _ ?_; clear hK K
  refine go (cj rTI @dl_idf) ?_
  (repeat' refine And.intro ?_ ?_) <;> first | exact rfl | exact fnz (cj rTI @dl_idf) | skip
theorem heldN_ax (x y : Int) (hx : lz x ≤ 1099511627776) (hy : lz y ≤ 1099511627776) : PCall Tryz.prog 117 [NI x, NI y] (.v (.int .i64 (sgn (x - y)))) := by
  refine pcall_of fun s => ?_
  refine acall_of Tryz.func117 rfl rfl (by simp [Tryz.ntmps117]) ?_; rw [Tryz.ntmps117, Tryz.results117]
  have p0 := lessN_ax x y hx hy
  have p1 := sign_ax (x - y)
  unfold NI at p0 p1 ⊢
  simp only [NS_eq, DN_ln] at p0 p1 ⊢
  refine go (cj rTI @dl_idf) ?_
  refine aw_reg fun K hK => ?_; refine rn (cj rTI @dl_idf) ?_; refine cont_pure p0 ?_; refine rn (cj rTI @dl_idf) ?_; refine cont_pure p1 ?_; refine rn (cj rTI @dl_idf) ?_; refine hK _ _ ?_; clear hK K
  refine go (cj rTI @dl_idf) ?_
  (repeat' refine And.intro ?_ ?_) <;> first | exact rfl | exact fnz (cj rTI @dl_idf) | skip
end Go.Proofs.YtfjelkjlfcafgaaGreatDoor.RefC
end
section
/- The document's whole numbers (layer 1): made from a machine's number. -/
namespace Go.Proofs.YtfjelkjlfcafgaaGreatDoor.RefD
open Go Go.RowKit Go.Proofs.YtfjelkjlfcafgaaGreatDoor.Ax Go.Proofs.YtfjelkjlfcafgaaGreatDoor.Ti Go.Proofs.YtfjelkjlfcafgaaGreatDoor.BigM Go.Proofs.YtfjelkjlfcafgaaGreatDoor.RefA Go.Proofs.YtfjelkjlfcafgaaGreatDoor.RefB Go.Proofs.YtfjelkjlfcafgaaGreatDoor.RefC
set_option maxHeartbeats 2000000
set_option linter.unusedSimpArgs false
set_option linter.unusedVariables false
set_option maxRecDepth 4000
theorem rTU : type_of% (cj @ti105 (cj @ti63 (cj @ti3 (cj @ti4 (cj @ti2 @ti165))))) := cj @ti105 (cj @ti63 (cj @ti3 (cj @ti4 (cj @ti2 @ti165))))
theorem rTI : type_of% (cj @ti105 (cj @ti63 (cj @ti3 @ti4))) := cj @ti105 (cj @ti63 (cj @ti3 @ti4))

structure SmallI (m sl : Nat) (kd : IntKind) (s : St) (N : Nat) (b : Bool) (n id : Nat) (ds : List Nat) (e : Env) (s' : St) : Prop where
  en : e.n = m
  e0 : e.m sl = .v (.int kd n)
  e2 : e.m 2 = .ptr s.nx 0
  e3 : e.m 3 = .ptr (s.nx + 1) 0
  g0 : s'.get s.nx = some [.v (.bool false), .v (.slice none 0 0)]
  g1 : s'.get (s.nx + 1) = some [.v (.bool b), .own id 0 ds.length 1]
  gi : s'.get id = some (DL ds)
  lo : s.nx + 1 < id
  hi : id < s'.nx
  fr : ∀ i, i < s.nx → s'.get i = s.get i
  all : digs B N = ds ++ digs B n
  sz : n ≤ N
theorem small_ax (z : Int) (h1 : -9223372036854775808 < z) (h2 : z < 9223372036854775808) : PCall Tryz.prog 55 [.v (.int .i64 z)] (NI z) := by
  have l0 : ln z.natAbs ≤ 4 := (ln_lt _ 4).1 (by unfold B; omega)
  refine pcall_of fun s => ?_
  refine acall_of Tryz.func55 rfl rfl (by simp [Tryz.ntmps55]) ?_; rw [Tryz.ntmps55, Tryz.results55]
  by_cases hz : z < 0
  · rw [NI_neg z hz, NS_eq]
    refine go (cj rTI @dl_idf) ?_
    refine ifs ?_ ?_ <;> first | exact nope | intro hb
    refine go (cj rTI @dl_idf) ?_
    refine aw_nil_box (s.nx + 1) 1 1 _ (by refine rn (cj rTI @dl_idf) ?_; rfl) rfl ?_
    refine aw_loop (fun n e s' => ∃ (id : Nat) (ds : List Nat), SmallI 21 0 .i64 s z.natAbs true n id ds e s') z.natAbs ?_ ?_
    · refine ⟨s.nx + 2, [], ?_⟩
      constructor <;> (try (first | refine rn trivial ?_ | exact rn0 trivial))
      all_goals (first | exact shz | (intro i hi; (first | refine rn trivial ?_ | exact rn0 trivial)) | skip)
    · rintro n e s' ⟨id, ds, hI⟩
      have k0 := hI.en
      have k9 := hI.sz
      have k1 := hI.e0
      have k2 := hI.e2
      have k3 := hI.e3
      have k4 := hI.g0
      have k5 := hI.g1
      have k6 := hI.gi
      have k7 := hI.lo
      have k8 := hI.hi
      have l1 := DL_len ds
      have l2 := congrArg List.length hI.all
      rw [List.length_append] at l2
      change ln _ = _ + ln _ at l2
      by_cases hn : 0 < n
      · refine go (cj rTI (cj @dl_idf (cj @k0 (cj @k1 (cj @k2 (cj @k3 (cj @k4 (cj @k5 (cj @k6 @l1))))))))) ?_
        refine ifs ?_ ?_ <;> first | exact nope | intro hb
        refine go (cj rTI (cj @dl_idf (cj @k0 (cj @k1 (cj @k2 (cj @k3 (cj @k4 (cj @k5 (cj @k6 @l1))))))))) ?_
        have hst := digs_pos B n hB hn
        simp only [block_normal, loop_normal]; refine ⟨n / 65536, by omega, ?_⟩
        refine ⟨s'.nx + 1, ds ++ [n % B], ?_⟩
        constructor <;> (try (first | refine rn (cj rTI (cj @dl_idf (cj @k0 (cj @k1 (cj @k2 (cj @k3 (cj @k4 (cj @k5 (cj @k6 (cj @l1 (cj @DL_snoc rla))))))))))) ?_ | exact rn0 (cj rTI (cj @dl_idf (cj @k0 (cj @k1 (cj @k2 (cj @k3 (cj @k4 (cj @k5 (cj @k6 (cj @l1 (cj @DL_snoc rla)))))))))))))
        all_goals (first | exact shz | (intro i hi; (first | refine rn (hI.fr i hi) ?_ | exact rn0 (hI.fr i hi))) | skip)
        rw [hI.all, hst]; simp; rfl
      · refine go (cj rTI (cj @dl_idf (cj @k0 (cj @k1 (cj @k2 (cj @k3 (cj @k4 (cj @k5 (cj @k6 @l1))))))))) ?_
        refine ifs ?_ ?_ <;> first | exact nope | intro hb
        have ha := hI.all
        rw [show n = 0 by omega, digs_zero, List.append_nil] at ha
        have hb2 : ln z.natAbs = ds.length := congrArg List.length ha
        refine aw_freeze2 id (DL ds) k6 (fun i => i == s.nx + 1) fun e' s'' f1 f2 f3 f4 => ?_
        refine go (cj rTI (cj @dl_idf (cj @k0 (cj @k1 (cj @k2 (cj @k3 (cj @k4 (cj @k5 (cj @k6 (cj @l1 (cj @f1 (cj @f2 (cj @f3 (cj @f4 (cj frw (cj @DL_take rbe)))))))))))))))) ?_
        (repeat' refine And.intro ?_ ?_) <;> first | exact rfl | exact fnz trivial | skip
        · rw [ha, hb2]
        · intro i hi
          exact rn0 (hI.fr i hi)
  · rw [NI_nn z (by omega), NS_eq]
    refine go (cj rTI @dl_idf) ?_
    refine ifs ?_ ?_ <;> first | exact nope | intro hb
    refine go (cj rTI @dl_idf) ?_
    refine aw_nil_box (s.nx + 1) 1 1 _ (by refine rn (cj rTI @dl_idf) ?_; rfl) rfl ?_
    refine aw_loop (fun n e s' => ∃ (id : Nat) (ds : List Nat), SmallI 21 0 .i64 s z.natAbs false n id ds e s') z.natAbs ?_ ?_
    · refine ⟨s.nx + 2, [], ?_⟩
      constructor <;> (try (first | refine rn trivial ?_ | exact rn0 trivial))
      all_goals (first | exact shz | (intro i hi; (first | refine rn trivial ?_ | exact rn0 trivial)) | skip)
    · rintro n e s' ⟨id, ds, hI⟩
      have k0 := hI.en
      have k9 := hI.sz
      have k1 := hI.e0
      have k2 := hI.e2
      have k3 := hI.e3
      have k4 := hI.g0
      have k5 := hI.g1
      have k6 := hI.gi
      have k7 := hI.lo
      have k8 := hI.hi
      have l1 := DL_len ds
      have l2 := congrArg List.length hI.all
      rw [List.length_append] at l2
      change ln _ = _ + ln _ at l2
      by_cases hn : 0 < n
      · refine go (cj rTI (cj @dl_idf (cj @k0 (cj @k1 (cj @k2 (cj @k3 (cj @k4 (cj @k5 (cj @k6 @l1))))))))) ?_
        refine ifs ?_ ?_ <;> first | exact nope | intro hb
        refine go (cj rTI (cj @dl_idf (cj @k0 (cj @k1 (cj @k2 (cj @k3 (cj @k4 (cj @k5 (cj @k6 @l1))))))))) ?_
        have hst := digs_pos B n hB hn
        simp only [block_normal, loop_normal]; refine ⟨n / 65536, by omega, ?_⟩
        refine ⟨s'.nx + 1, ds ++ [n % B], ?_⟩
        constructor <;> (try (first | refine rn (cj rTI (cj @dl_idf (cj @k0 (cj @k1 (cj @k2 (cj @k3 (cj @k4 (cj @k5 (cj @k6 (cj @l1 (cj @DL_snoc rla))))))))))) ?_ | exact rn0 (cj rTI (cj @dl_idf (cj @k0 (cj @k1 (cj @k2 (cj @k3 (cj @k4 (cj @k5 (cj @k6 (cj @l1 (cj @DL_snoc rla)))))))))))))
        all_goals (first | exact shz | (intro i hi; (first | refine rn (hI.fr i hi) ?_ | exact rn0 (hI.fr i hi))) | skip)
        rw [hI.all, hst]; simp; rfl
      · refine go (cj rTI (cj @dl_idf (cj @k0 (cj @k1 (cj @k2 (cj @k3 (cj @k4 (cj @k5 (cj @k6 @l1))))))))) ?_
        refine ifs ?_ ?_ <;> first | exact nope | intro hb
        have ha := hI.all
        rw [show n = 0 by omega, digs_zero, List.append_nil] at ha
        have hb2 : ln z.natAbs = ds.length := congrArg List.length ha
        refine aw_freeze2 id (DL ds) k6 (fun i => i == s.nx + 1) fun e' s'' f1 f2 f3 f4 => ?_
        refine go (cj rTI (cj @dl_idf (cj @k0 (cj @k1 (cj @k2 (cj @k3 (cj @k4 (cj @k5 (cj @k6 (cj @l1 (cj @f1 (cj @f2 (cj @f3 (cj @f4 (cj frw (cj @DL_take rbe)))))))))))))))) ?_
        (repeat' refine And.intro ?_ ?_) <;> first | exact rfl | exact fnz trivial | skip
        · rw [ha, hb2]
        · intro i hi
          exact rn0 (hI.fr i hi)
theorem wide_ax (z : Int) (h1 : -9223372036854775808 ≤ z) (h2 : z < 9223372036854775808) : PCall Tryz.prog 66 [.v (.int .i64 z)] (NI z) := by
  have l0 : ln z.natAbs ≤ 4 := (ln_lt _ 4).1 (by unfold B; omega)
  refine pcall_of fun s => ?_
  refine acall_of Tryz.func66 rfl rfl (by simp [Tryz.ntmps66]) ?_; rw [Tryz.ntmps66, Tryz.results66]
  by_cases hz : z < 0
  · rw [NI_neg z hz, NS_eq]
    refine go (cj rTU @dl_idf) ?_
    refine ifs ?_ ?_ <;> first | exact nope | intro hb
    refine go (cj rTU @dl_idf) ?_
    refine aw_nil_box (s.nx + 1) 1 1 _ (by refine rn (cj rTU @dl_idf) ?_; rfl) rfl ?_
    refine aw_loop (fun n e s' => ∃ (id : Nat) (ds : List Nat), SmallI 25 4 .u64 s z.natAbs true n id ds e s') z.natAbs ?_ ?_
    · refine ⟨s.nx + 2, [], ?_⟩
      constructor <;> (try (first | refine rn trivial ?_ | exact rn0 trivial))
      all_goals (first | exact shz | (intro i hi; (first | refine rn trivial ?_ | exact rn0 trivial)) | skip)
      all_goals (refine congrArg (fun z : Int => AV.v (.int .u64 z)) ?_; (try simp only [wrap_u64]); omega)
    · rintro n e s' ⟨id, ds, hI⟩
      have k0 := hI.en
      have k9 := hI.sz
      have k1 := hI.e0
      have k2 := hI.e2
      have k3 := hI.e3
      have k4 := hI.g0
      have k5 := hI.g1
      have k6 := hI.gi
      have k7 := hI.lo
      have k8 := hI.hi
      have l1 := DL_len ds
      have l2 := congrArg List.length hI.all
      rw [List.length_append] at l2
      change ln _ = _ + ln _ at l2
      by_cases hn : 0 < n
      · refine go (cj rTU (cj @dl_idf (cj @k0 (cj @k1 (cj @k2 (cj @k3 (cj @k4 (cj @k5 (cj @k6 @l1))))))))) ?_
        refine ifs ?_ ?_ <;> first | exact nope | intro hb
        refine go (cj rTU (cj @dl_idf (cj @k0 (cj @k1 (cj @k2 (cj @k3 (cj @k4 (cj @k5 (cj @k6 @l1))))))))) ?_
        have hst := digs_pos B n hB hn
        simp only [block_normal, loop_normal]; refine ⟨n / 65536, by omega, ?_⟩
        refine ⟨s'.nx + 1, ds ++ [n % B], ?_⟩
        constructor <;> (try (first | refine rn (cj rTU (cj @dl_idf (cj @k0 (cj @k1 (cj @k2 (cj @k3 (cj @k4 (cj @k5 (cj @k6 (cj @l1 (cj @DL_snoc rla))))))))))) ?_ | exact rn0 (cj rTU (cj @dl_idf (cj @k0 (cj @k1 (cj @k2 (cj @k3 (cj @k4 (cj @k5 (cj @k6 (cj @l1 (cj @DL_snoc rla)))))))))))))
        all_goals (first | exact shz | (intro i hi; (first | refine rn (hI.fr i hi) ?_ | exact rn0 (hI.fr i hi))) | skip)
        rw [hI.all, hst]; simp; rfl
      · refine go (cj rTU (cj @dl_idf (cj @k0 (cj @k1 (cj @k2 (cj @k3 (cj @k4 (cj @k5 (cj @k6 @l1))))))))) ?_
        refine ifs ?_ ?_ <;> first | exact nope | intro hb
        have ha := hI.all
        rw [show n = 0 by omega, digs_zero, List.append_nil] at ha
        have hb2 : ln z.natAbs = ds.length := congrArg List.length ha
        refine aw_freeze2 id (DL ds) k6 (fun i => i == s.nx + 1) fun e' s'' f1 f2 f3 f4 => ?_
        refine go (cj rTU (cj @dl_idf (cj @k0 (cj @k1 (cj @k2 (cj @k3 (cj @k4 (cj @k5 (cj @k6 (cj @l1 (cj @f1 (cj @f2 (cj @f3 (cj @f4 (cj frw (cj @DL_take rbe)))))))))))))))) ?_
        (repeat' refine And.intro ?_ ?_) <;> first | exact rfl | exact fnz trivial | skip
        · rw [ha, hb2]
        · intro i hi
          exact rn0 (hI.fr i hi)
  · rw [NI_nn z (by omega), NS_eq]
    refine go (cj rTU @dl_idf) ?_
    refine ifs ?_ ?_ <;> first | exact nope | intro hb
    refine go (cj rTU @dl_idf) ?_
    refine aw_nil_box (s.nx + 1) 1 1 _ (by refine rn (cj rTU @dl_idf) ?_; rfl) rfl ?_
    refine aw_loop (fun n e s' => ∃ (id : Nat) (ds : List Nat), SmallI 25 4 .u64 s z.natAbs false n id ds e s') z.natAbs ?_ ?_
    · refine ⟨s.nx + 2, [], ?_⟩
      constructor <;> (try (first | refine rn trivial ?_ | exact rn0 trivial))
      all_goals (first | exact shz | (intro i hi; (first | refine rn trivial ?_ | exact rn0 trivial)) | skip)
      all_goals (refine congrArg (fun z : Int => AV.v (.int .u64 z)) ?_; (try simp only [wrap_u64]); omega)
    · rintro n e s' ⟨id, ds, hI⟩
      have k0 := hI.en
      have k9 := hI.sz
      have k1 := hI.e0
      have k2 := hI.e2
      have k3 := hI.e3
      have k4 := hI.g0
      have k5 := hI.g1
      have k6 := hI.gi
      have k7 := hI.lo
      have k8 := hI.hi
      have l1 := DL_len ds
      have l2 := congrArg List.length hI.all
      rw [List.length_append] at l2
      change ln _ = _ + ln _ at l2
      by_cases hn : 0 < n
      · refine go (cj rTU (cj @dl_idf (cj @k0 (cj @k1 (cj @k2 (cj @k3 (cj @k4 (cj @k5 (cj @k6 @l1))))))))) ?_
        refine ifs ?_ ?_ <;> first | exact nope | intro hb
        refine go (cj rTU (cj @dl_idf (cj @k0 (cj @k1 (cj @k2 (cj @k3 (cj @k4 (cj @k5 (cj @k6 @l1))))))))) ?_
        have hst := digs_pos B n hB hn
        simp only [block_normal, loop_normal]; refine ⟨n / 65536, by omega, ?_⟩
        refine ⟨s'.nx + 1, ds ++ [n % B], ?_⟩
        constructor <;> (try (first | refine rn (cj rTU (cj @dl_idf (cj @k0 (cj @k1 (cj @k2 (cj @k3 (cj @k4 (cj @k5 (cj @k6 (cj @l1 (cj @DL_snoc rla))))))))))) ?_ | exact rn0 (cj rTU (cj @dl_idf (cj @k0 (cj @k1 (cj @k2 (cj @k3 (cj @k4 (cj @k5 (cj @k6 (cj @l1 (cj @DL_snoc rla)))))))))))))
        all_goals (first | exact shz | (intro i hi; (first | refine rn (hI.fr i hi) ?_ | exact rn0 (hI.fr i hi))) | skip)
        rw [hI.all, hst]; simp; rfl
      · refine go (cj rTU (cj @dl_idf (cj @k0 (cj @k1 (cj @k2 (cj @k3 (cj @k4 (cj @k5 (cj @k6 @l1))))))))) ?_
        refine ifs ?_ ?_ <;> first | exact nope | intro hb
        have ha := hI.all
        rw [show n = 0 by omega, digs_zero, List.append_nil] at ha
        have hb2 : ln z.natAbs = ds.length := congrArg List.length ha
        refine aw_freeze2 id (DL ds) k6 (fun i => i == s.nx + 1) fun e' s'' f1 f2 f3 f4 => ?_
        refine go (cj rTU (cj @dl_idf (cj @k0 (cj @k1 (cj @k2 (cj @k3 (cj @k4 (cj @k5 (cj @k6 (cj @l1 (cj @f1 (cj @f2 (cj @f3 (cj @f4 (cj frw (cj @DL_take rbe)))))))))))))))) ?_
        (repeat' refine And.intro ?_ ?_) <;> first | exact rfl | exact fnz trivial | skip
        · rw [ha, hb2]
        · intro i hi
          exact rn0 (hI.fr i hi)
end Go.Proofs.YtfjelkjlfcafgaaGreatDoor.RefD
end
section
/- The document's whole numbers (layer 1): the product. -/
namespace Go.Proofs.YtfjelkjlfcafgaaGreatDoor.RefE
open Go Go.RowKit Go.Proofs.YtfjelkjlfcafgaaGreatDoor.Ax Go.Proofs.YtfjelkjlfcafgaaGreatDoor.Ti Go.Proofs.YtfjelkjlfcafgaaGreatDoor.BigM Go.Proofs.YtfjelkjlfcafgaaGreatDoor.RefA Go.Proofs.YtfjelkjlfcafgaaGreatDoor.RefB Go.Proofs.YtfjelkjlfcafgaaGreatDoor.RefC Go.Proofs.YtfjelkjlfcafgaaGreatDoor.RefD
set_option maxHeartbeats 2000000
set_option linter.unusedSimpArgs false
set_option linter.unusedVariables false
set_option maxRecDepth 4000
theorem rTI : type_of% (cj @ti105 (cj @ti63 (cj @ti3 @ti4))) := cj @ti105 (cj @ti63 (cj @ti3 @ti4))

theorem val_set : ∀ (ds : List Nat) (k v : Nat), k < ds.length → val B (ds.set k v) + B ^ k * ds.getD k 0 = val B ds + B ^ k * v
  | [], _, _, h => by simp at h
  | d :: l, 0, v, _ => by
    rw [List.set_cons_zero, val, val, Nat.pow_zero, List.getD_cons_zero]
    omega
  | d :: l, k + 1, v, h => by
    have ih := val_set l k v (by simpa using h)
    rw [List.set_cons_succ, val, val, List.getD_cons_succ, Nat.pow_succ]
    have e1 : B * (val B (l.set k v) + B ^ k * l.getD k 0) = B * (val B l + B ^ k * v) := by rw [ih]
    rw [Nat.mul_add, Nat.mul_add, ← Nat.mul_assoc, ← Nat.mul_assoc, Nat.mul_comm B (B ^ k)] at e1
    omega
theorem hd_DL (ds : List Nat) (k : Nat) (h : k < ds.length) : ((DL ds).drop k).head? = some (.v (.int .i64 (ds.getD k 0 : Nat))) := hd_nat (fun x : Nat => AV.v (.int .i64 (x : Int))) ds k h
theorem DL_set (ds : List Nat) (k v : Nat) : (DL ds).set k (.v (.int .i64 (v : Int))) = DL (ds.set k v) := by unfold DL; rw [List.map_set]
theorem DL_zero (n : Nat) : List.replicate n (AV.v (.int .i64 0)) = DL (List.replicate n 0) := by unfold DL; rw [List.map_replicate]; rfl
theorem getD_set (ds : List Nat) (k v j : Nat) (h : k < ds.length) : (ds.set k v).getD j 0 = if j = k then v else ds.getD j 0 := by
  rw [List.getD_eq_getElem?_getD, List.getD_eq_getElem?_getD, List.getElem?_set]
  by_cases e : j = k
  · subst e; simp [h]
  · rw [if_neg (fun q => e q.symm), if_neg e]
theorem set_lt (ds : List Nat) (k v : Nat) (h : ∀ d ∈ ds, d < B) (hv : v < B) : ∀ d ∈ ds.set k v, d < B := by
  intro d hd
  rcases List.mem_or_eq_of_mem_set hd with q | q
  · exact h d q
  · rw [q]; exact hv

structure TimesM (a b : Bool) (xs ys : List Nat) (s : St) (i : Nat) (ds : List Nat) (e : Env) (s' : St) : Prop where
  en : e.n = 92
  e2 : e.m 2 = .ptr s.nx 0
  e3 : e.m 3 = .ptr (s.nx + 1) 0
  e4 : e.m 4 = .ptr (s.nx + 2) 0
  e5 : e.m 5 = .own (s.nx + 3) 0 (xs.length + ys.length) 1
  e6 : e.m 6 = .v (.int .i64 i)
  g0 : s'.get s.nx = some [.v (.bool a), .sl xs.length (DL xs)]
  g1 : s'.get (s.nx + 1) = some [.v (.bool b), .sl ys.length (DL ys)]
  g2 : s'.get (s.nx + 2) = some [.v (.bool false), .v (.slice none 0 0)]
  gi : s'.get (s.nx + 3) = some (DL ds)
  hi : s'.nx = s.nx + 4
  fr : ∀ i, i < s.nx → s'.get i = s.get i
  len : ds.length = xs.length + ys.length
  lt : ∀ d ∈ ds, d < B
structure TimesO (a b : Bool) (xs ys : List Nat) (s : St) (n i : Nat) (ds : List Nat) (e : Env) (s' : St) : Prop extends TimesM a b xs ys s i ds e s' where
  on : n = xs.length - i
  oi : i ≤ xs.length
  oz : ∀ k, i + ys.length ≤ k → ds.getD k 0 = 0
  ov : val B ds = val B (xs.take i) * val B ys
structure TimesJ (a b : Bool) (xs ys : List Nat) (s : St) (i : Nat) (n j cr : Nat) (ds : List Nat) (e : Env) (s' : St) : Prop extends TimesM a b xs ys s i ds e s' where
  e7 : e.m 7 = .v (.int .i64 cr)
  e8 : e.m 8 = .v (.int .i64 j)
  jc : cr < B
  jn : n = ys.length - j
  ji : i < xs.length
  jj : j ≤ ys.length
  jz : ∀ k, i + ys.length ≤ k → ds.getD k 0 = 0
  jv : val B ds + B ^ (i + j) * cr = val B (xs.take i) * val B ys + B ^ i * xs.getD i 0 * val B (ys.take j)
theorem times_step (xs ys ds : List Nat) (i j cr : Nat) (h : val B ds + B ^ (i + j) * cr = val B (xs.take i) * val B ys + B ^ i * xs.getD i 0 * val B (ys.take j)) (hk : i + j < ds.length) (z : Nat) (hz : z = ds.getD (i + j) 0 + xs.getD i 0 * ys.getD j 0 + cr) :
    val B (ds.set (i + j) (z % B)) + B ^ (i + (j + 1)) * (z / B) = val B (xs.take i) * val B ys + B ^ i * xs.getD i 0 * val B (ys.take (j + 1)) := by
  have h1 := val_set ds (i + j) (z % B) hk
  have h2 : B ^ (i + j) * z = B ^ (i + j) * (z % B) + B ^ (i + (j + 1)) * (z / B) := by
    conv => lhs; rw [← Nat.mod_add_div z B]
    rw [Nat.mul_add, ← Nat.mul_assoc, ← Nat.pow_succ]
    rfl
  have h3 : B ^ (i + j) * z = B ^ (i + j) * ds.getD (i + j) 0 + B ^ i * xs.getD i 0 * (B ^ j * ys.getD j 0) + B ^ (i + j) * cr := by
    rw [hz, Nat.mul_add, Nat.mul_add, Nat.pow_add]
    congr 2
    ac_rfl
  rw [tk_snoc, Nat.mul_add]
  omega
theorem times_row (xs ys ds : List Nat) (i cr : Nat) (h : val B ds + B ^ (i + ys.length) * cr = val B (xs.take i) * val B ys + B ^ i * xs.getD i 0 * val B (ys.take ys.length)) (hk : i + ys.length < ds.length) (h0 : ds.getD (i + ys.length) 0 = 0) :
    val B (ds.set (i + ys.length) cr) = val B (xs.take (i + 1)) * val B ys := by
  have h1 := val_set ds (i + ys.length) cr hk
  rw [h0] at h1
  rw [tk_snoc, Nat.add_mul]
  rw [List.take_length] at h
  omega
theorem timesS_ax (a b : Bool) (xs ys : List Nat) (dx : ∀ d ∈ xs, d < B) (dy : ∀ d ∈ ys, d < B) (hl : xs.length + ys.length ≤ 1099511627776) : PCall Tryz.prog 58 [.ag [.v (.bool a), .sl xs.length (DL xs)], .ag [.v (.bool b), .sl ys.length (DL ys)]] (NS ((a != b) && decide (0 < val B xs * val B ys)) (val B xs * val B ys)) := by
  refine pcall_of fun s => ?_
  refine acall_of Tryz.func58 rfl rfl (by simp [Tryz.ntmps58]) ?_; rw [Tryz.ntmps58, Tryz.results58]
  refine go (cj rTI @dl_idf) ?_
  refine aw_loop (fun n e s' => ∃ (i : Nat) (ds : List Nat), TimesO a b xs ys s n i ds e s') xs.length ?_ ?_
  · refine ⟨0, List.replicate (xs.length + ys.length) 0, ?_⟩
    constructor
    · constructor <;> (try (first | refine rn @DL_zero ?_ | exact rn0 @DL_zero))
      all_goals (first | exact shz | (intro i hi; (first | refine rn @DL_zero ?_ | exact rn0 @DL_zero)) | skip)
      · simp
      · intro d hd
        rw [List.eq_of_mem_replicate hd]; decide
    · omega
    · omega
    · intro k hk
      simp [List.getD_eq_getElem?_getD, List.getElem?_replicate]
      try (split <;> rfl)
    · rw [val_replicate]; simp [val]
  · rintro n e s' ⟨i, ds, hO⟩
    have k0 := hO.en
    have k2 := hO.e2
    have k3 := hO.e3
    have k4 := hO.e4
    have k5 := hO.e5
    have k6 := hO.e6
    have g0 := hO.g0
    have g1 := hO.g1
    have g2 := hO.g2
    have g3 := hO.gi
    have g4 := hO.hi
    have b1 := hO.on
    have b2 := hO.oi
    have l1 := DL_len ds
    have l2 := DL_len xs
    have l3 := DL_len ys
    have l4 := hO.len
    by_cases hn : i < xs.length
    · refine go (cj rTI (cj @dl_idf (cj @k0 (cj @k2 (cj @k3 (cj @k4 (cj @k5 (cj @k6 (cj @g0 (cj @g1 (cj @g2 @g3))))))))))) ?_
      refine ifs ?_ ?_ <;> first | exact nope | intro hb
      refine go (cj rTI (cj @dl_idf (cj @k0 (cj @k2 (cj @k3 (cj @k4 (cj @k5 (cj @k6 (cj @g0 (cj @g1 (cj @g2 @g3))))))))))) ?_
      refine aw_loop (fun n e s' => ∃ (j cr : Nat) (ds : List Nat), TimesJ a b xs ys s i n j cr ds e s') ys.length ?_ ?_
      · refine ⟨0, 0, ds, ?_⟩
        constructor
        · constructor <;> (try exact rn0 (cj @k0 (cj @k2 (cj @k3 (cj @k4 (cj @k5 (cj @k6 (cj @g0 (cj @g1 (cj @g2 (cj @g3 (cj @g4 @hO.len))))))))))))
          all_goals (first | exact shz | (intro i hi; (first | refine rn (hO.fr i hi) ?_ | exact rn0 (hO.fr i hi))) | skip)
          exact hO.lt
        · refine rn trivial ?_
          rfl
        · refine rn trivial ?_
          rfl
        · decide
        · omega
        · exact hn
        · omega
        · exact hO.oz
        · rw [hO.ov]; simp [val]
      · clear k0 k2 k3 k4 k5 k6 g0 g1 g2 g3 g4 b1 b2 l1 l4
        rintro n2 e2 s2 ⟨j, cr, ds, hJ⟩
        have k0 := hJ.en
        have k2 := hJ.e2
        have k3 := hJ.e3
        have k4 := hJ.e4
        have k5 := hJ.e5
        have k6 := hJ.e6
        have k7 := hJ.e7
        have k8 := hJ.e8
        have g0 := hJ.g0
        have g1 := hJ.g1
        have g2 := hJ.g2
        have g3 := hJ.gi
        have g4 := hJ.hi
        have b1 := hJ.jn
        have b2 := hJ.jj
        have l1 := DL_len ds
        have l4 := hJ.len
        by_cases hj : j < ys.length
        · refine go (cj rTI (cj @dl_idf (cj @k0 (cj @k2 (cj @k3 (cj @k4 (cj @k5 (cj @k6 (cj @k7 (cj @k8 (cj @g0 (cj @g1 (cj @g2 @g3))))))))))))) ?_
          refine ifs ?_ ?_ <;> first | exact nope | intro hb
          refine go (cj rTI (cj @dl_idf (cj @k0 (cj @k2 (cj @k3 (cj @k4 (cj @k5 (cj @k6 (cj @k7 (cj @k8 (cj @g0 (cj @g1 (cj @g2 @g3))))))))))))) ?_
          have p1 : ds.getD (i + j) 0 < 65536 := getD_lt B (by decide) ds hJ.lt _
          have p2 : xs.getD i 0 < 65536 := getD_lt B (by decide) xs dx _
          have p3 : ys.getD j 0 < 65536 := getD_lt B (by decide) ys dy _
          have p4 : cr < 65536 := hJ.jc
          have p5 : xs.getD i 0 * ys.getD j 0 ≤ 65535 * 65535 := Nat.mul_le_mul (by omega) (by omega)
          have p6 : ((xs.getD i 0 : Nat) : Int) * ((ys.getD j 0 : Nat) : Int) ≤ 4294836225 := by rw [← Int.natCast_mul]; omega
          have p7 : 0 ≤ ((xs.getD i 0 : Nat) : Int) * ((ys.getD j 0 : Nat) : Int) := by rw [← Int.natCast_mul]; omega
          have p8 : ((i : Int) + (j : Int)).toNat = i + j := by omega
          refine aw_drw (.take 0 (.take 1 (.take 2 (.take 3 (.take 4 (.take 5 (.take 6 (.take 7 (.take 8 (.take 9 (.take 10 (.take 11 (.take 12 (.take 13 (.take 14 (.take 15 (.take 16 (.take 17 (.take 18 (.take 19 (.take 20 (.done)))))))))))))))))))))) [s.nx, s.nx + 1, s.nx + 3] (by kernel_rfl) (by kernel_rfl) fun K hK => ?_; refine dr (cj rTI (cj @dl_idf (cj @k0 (cj @k2 (cj @k3 (cj @k4 (cj @k5 (cj @k6 (cj @k7 (cj @k8 (cj @g0 (cj @g1 (cj @g2 (cj @g3 (cj @hd_DL (cj @p8 @l4)))))))))))))))) ?_; refine hK _ _ ?_; clear hK K
          refine go (cj rTI (cj @dl_idf (cj @k0 (cj @k2 (cj @k3 (cj @k4 (cj @k5 (cj @k6 (cj @k7 (cj @k8 (cj @g0 (cj @g1 (cj @g2 (cj @g3 (cj @p8 (cj @l1 @l4)))))))))))))))) ?_
          have hst := times_step xs ys ds i j cr hJ.jv (by omega) _ rfl
          have q3 : ds.getD (i + j) 0 + xs.getD i 0 * ys.getD j 0 + cr < 65536 * 65536 := by omega
          have q5 : (ds.getD (i + j) 0 + xs.getD i 0 * ys.getD j 0 + cr) / 65536 < 65536 := Nat.div_lt_of_lt_mul q3
          have e1 : (((ds.getD (i + j) 0 : Nat) : Int) + ((xs.getD i 0 : Nat) : Int) * ((ys.getD j 0 : Nat) : Int) + (cr : Int)) = ((ds.getD (i + j) 0 + xs.getD i 0 * ys.getD j 0 + cr : Nat) : Int) := by
            rw [Int.natCast_add, Int.natCast_add, Int.natCast_mul]
          have e2 : ∀ z : Nat, ((z : Int) % 65536) = ((z % 65536 : Nat) : Int) := fun z => by omega
          have e3 : ∀ z : Nat, ((z : Int) / 65536) = ((z / 65536 : Nat) : Int) := fun z => by omega
          simp only [block_normal, loop_normal]; refine ⟨ys.length - (j + 1), by omega, ?_⟩
          refine ⟨j + 1, (ds.getD (i + j) 0 + xs.getD i 0 * ys.getD j 0 + cr) / B, ds.set (i + j) ((ds.getD (i + j) 0 + xs.getD i 0 * ys.getD j 0 + cr) % B), ?_⟩
          constructor
          · constructor <;> (try (first | refine rn (cj @k0 (cj @k2 (cj @k3 (cj @k4 (cj @k5 (cj @k6 (cj @k7 (cj @k8 (cj @g0 (cj @g1 (cj @g2 (cj @g3 (cj @g4 (cj @hJ.len (cj rls (cj @Nat.zero_add (cj @e1 (cj @e2 (cj @e3 @DL_set))))))))))))))))))) ?_ | exact rn0 (cj @k0 (cj @k2 (cj @k3 (cj @k4 (cj @k5 (cj @k6 (cj @k7 (cj @k8 (cj @g0 (cj @g1 (cj @g2 (cj @g3 (cj @g4 (cj @hJ.len (cj rls (cj @Nat.zero_add (cj @e1 (cj @e2 (cj @e3 @DL_set)))))))))))))))))))))
            all_goals (first | exact shz | (intro i hi; (first | refine rn (hJ.fr i hi) ?_ | exact rn0 (hJ.fr i hi))) | skip)
            exact set_lt _ _ _ hJ.lt (Nat.mod_lt _ (by decide))
          · refine rn (cj @Nat.zero_add (cj @e1 (cj @e2 @e3))) ?_
            rfl
          · refine rn trivial ?_
            rfl
          · exact q5
          · omega
          · exact hJ.ji
          · omega
          · intro k hk
            rw [getD_set _ _ _ _ (by omega), if_neg (by omega)]
            exact hJ.jz k hk
          · exact hst
        · refine go (cj rTI (cj @dl_idf (cj @k0 (cj @k2 (cj @k3 (cj @k4 (cj @k5 (cj @k6 (cj @k7 (cj @k8 (cj @g0 (cj @g1 (cj @g2 @g3))))))))))))) ?_
          refine ifs ?_ ?_ <;> first | exact nope | intro hb
          refine go (cj rTI (cj @dl_idf (cj @k0 (cj @k2 (cj @k3 (cj @k4 (cj @k5 (cj @k6 (cj @k7 (cj @k8 (cj @g0 (cj @g1 (cj @g2 @g3))))))))))))) ?_
          have p8 : ((i : Int) + (ys.length : Int)).toNat = i + ys.length := by omega
          have p9 := hJ.jz (i + ys.length) (Nat.le_refl _)
          have p4 : cr < 65536 := hJ.jc
          refine aw_drw (.take 0 (.take 1 (.take 2 (.take 3 (.take 4 (.take 5 (.take 6 (.take 7 (.take 8 (.take 9 (.take 10 (.take 11 (.take 12 (.take 14 (.one 13 (.take 15 (.take 16 (.one 17 (.done))))))))))))))))))) [s.nx, s.nx + 1] (by kernel_rfl) (by kernel_rfl) fun K hK => ?_; refine dr (cj rTI (cj @dl_idf (cj @k0 (cj @k2 (cj @k3 (cj @k4 (cj @k5 (cj @k6 (cj @k7 (cj @k8 (cj @g0 (cj @g1 (cj @g2 (cj @g3 (cj @hd_DL (cj @p8 (cj @l1 (cj @l4 @p9)))))))))))))))))) ?_; refine hK _ _ ?_; clear hK K
          refine go (cj rTI (cj @dl_idf (cj @k0 (cj @k2 (cj @k3 (cj @k4 (cj @k5 (cj @k6 (cj @k7 (cj @k8 (cj @g0 (cj @g1 (cj @g2 (cj @g3 (cj @p8 (cj @l1 @l4)))))))))))))))) ?_
          obtain rfl : j = ys.length := by omega
          have b3 := hO.on
          have e0 : ((0 : Nat) : Int) + (cr : Int) = cr := by omega
          have hst := times_row xs ys ds i cr hJ.jv (by omega) p9
          simp only [block_normal, loop_normal]; refine ⟨xs.length - (i + 1), by omega, ?_⟩
          refine ⟨i + 1, ds.set (i + ys.length) cr, ?_⟩
          constructor
          · constructor <;> (try (first | refine rn (cj @k0 (cj @k2 (cj @k3 (cj @k4 (cj @k5 (cj @k6 (cj @k7 (cj @k8 (cj @g0 (cj @g1 (cj @g2 (cj @g3 (cj @g4 (cj @hJ.len (cj rls (cj @Nat.zero_add (cj @DL_set (cj @p9 @e0)))))))))))))))))) ?_ | exact rn0 (cj @k0 (cj @k2 (cj @k3 (cj @k4 (cj @k5 (cj @k6 (cj @k7 (cj @k8 (cj @g0 (cj @g1 (cj @g2 (cj @g3 (cj @g4 (cj @hJ.len (cj rls (cj @Nat.zero_add (cj @DL_set (cj @p9 @e0))))))))))))))))))))
            all_goals (first | exact shz | (intro i hi; (first | refine rn (hJ.fr i hi) ?_ | exact rn0 (hJ.fr i hi))) | skip)
            exact set_lt _ _ _ hJ.lt p4
          · omega
          · omega
          · intro k hk
            rw [getD_set _ _ _ _ (by omega), if_neg (by omega)]
            exact hJ.jz k (by omega)
          · exact hst
    · refine go (cj rTI (cj @dl_idf (cj @k0 (cj @k2 (cj @k3 (cj @k4 (cj @k5 (cj @k6 (cj @g0 (cj @g1 (cj @g2 @g3))))))))))) ?_
      refine ifs ?_ ?_ <;> first | exact nope | intro hb
      refine go (cj rTI (cj @dl_idf (cj @k0 (cj @k2 (cj @k3 (cj @k4 (cj @k5 (cj @k6 (cj @g0 (cj @g1 (cj @g2 @g3))))))))))) ?_
      refine aw_reg fun K hK => ?_; refine rn (cj rTI (cj @dl_idf (cj @k0 @k5))) ?_; refine acall_frz (s.nx + 3) (DL ds) g3 (fun _ => false) ?_; refine rn @DL_take ?_; rw [show AV.sl (xs.length + ys.length) (DL ds) = DN ds by rw [← l4]; rfl]; refine cont_pure (trim_ax ds (by omega)) ?_; refine rn (cj rTI (cj @dl_idf (cj @k0 @k5))) ?_; refine hK _ _ ?_; clear hK K
      have hv := hO.ov
      rw [List.take_of_length_le (by omega)] at hv
      have ht := digs_val B hB ds hO.lt
      rw [hv] at ht
      rw [← ht, DN_ln]
      have l0 := ln_zero (val B xs * val B ys)
      rw [NS_eq]
      by_cases hp : 0 < val B xs * val B ys
      · have h4 : 0 < ln (val B xs * val B ys) := by omega
        cases a <;> cases b <;> (refine go (cj rTI (cj @dl_idf (cj @k0 (cj @k2 (cj @k3 (cj @k4 (cj @k5 (cj @k6 (cj @g0 (cj @g1 (cj @g2 @g3))))))))))) ?_; (repeat' refine And.intro ?_ ?_) <;> first | exact rfl | (intro i hi; exact rn0 (hO.fr i hi)) | skip)
      · have h4 : ln (val B xs * val B ys) = 0 := by omega
        cases a <;> cases b <;> (refine go (cj rTI (cj @dl_idf (cj @k0 (cj @k2 (cj @k3 (cj @k4 (cj @k5 (cj @k6 (cj @g0 (cj @g1 (cj @g2 @g3))))))))))) ?_; (repeat' refine And.intro ?_ ?_) <;> first | exact rfl | (intro i hi; exact rn0 (hO.fr i hi)) | skip)
end Go.Proofs.YtfjelkjlfcafgaaGreatDoor.RefE
end
section
/- The document's whole numbers (layer 1): the quotient. -/
namespace Go.Proofs.YtfjelkjlfcafgaaGreatDoor.RefF
open Go Go.RowKit Go.Proofs.YtfjelkjlfcafgaaGreatDoor.Ax Go.Proofs.YtfjelkjlfcafgaaGreatDoor.Ti Go.Proofs.YtfjelkjlfcafgaaGreatDoor.BigM Go.Proofs.YtfjelkjlfcafgaaGreatDoor.RefA Go.Proofs.YtfjelkjlfcafgaaGreatDoor.RefB Go.Proofs.YtfjelkjlfcafgaaGreatDoor.RefC Go.Proofs.YtfjelkjlfcafgaaGreatDoor.RefD Go.Proofs.YtfjelkjlfcafgaaGreatDoor.RefE
set_option linter.unusedSimpArgs false
set_option linter.unusedVariables false
set_option maxRecDepth 4000
theorem rTI : type_of% (cj @ti105 (cj @ti63 (cj @ti3 @ti4))) := cj @ti105 (cj @ti63 (cj @ti3 @ti4))

theorem dl_ln (n : Nat) : (DL (digs B n)).length = ln n := DL_len _
theorem dl_one (l : List Nat) : (DL l).all AV.one = true := by
  rw [List.all_eq_true]
  intro z hz
  obtain ⟨x, _, rfl⟩ := List.mem_map.1 hz
  rfl
theorem mul_neg_iff' (x y : Int) : x * y < 0 ↔ (x < 0 ∧ 0 < y) ∨ (0 < x ∧ y < 0) := by
  rcases Int.lt_trichotomy x 0 with h | rfl | h <;> rcases Int.lt_trichotomy y 0 with g | rfl | g
  · have := Int.mul_pos_of_neg_of_neg h g; omega
  · simp
  · have := Int.mul_neg_of_neg_of_pos h g; omega
  · simp
  · simp
  · simp
  · have := Int.mul_neg_of_pos_of_neg h g; omega
  · simp
  · have := Int.mul_pos h g; omega
theorem timesN_ax (x y : Int) (h : lz x + lz y ≤ 1099511627776) : PCall Tryz.prog 58 [NI x, NI y] (NI (x * y)) := by
  have h1 := timesS_ax (decide (x < 0)) (decide (y < 0)) (digs B x.natAbs) (digs B y.natAbs) (digs_lt B hB _) (digs_lt B hB _) h
  rw [val_digs B hB, val_digs B hB] at h1
  have e : NS ((decide (x < 0) != decide (y < 0)) && decide (0 < x.natAbs * y.natAbs)) (x.natAbs * y.natAbs) = NI (x * y) := by
    unfold NI
    rw [Int.natAbs_mul]
    congr 1
    have h2 : 0 < x.natAbs * y.natAbs ↔ x ≠ 0 ∧ y ≠ 0 := by rw [Nat.pos_iff_ne_zero, Nat.mul_ne_zero_iff]; omega
    rw [Bool.eq_iff_iff]
    simp only [Bool.and_eq_true, decide_eq_true_eq, h2, bne_iff_ne, ne_eq, decide_eq_decide]
    rw [mul_neg_iff']
    omega
  rw [e] at h1
  exact h1
theorem timesP_ax (m n : Nat) (h : ln m + ln n ≤ 1099511627776) : PCall Tryz.prog 58 [NS false m, NS false n] (NS false (m * n)) := by
  have := timesN_ax m n h
  rwa [NI_nn _ (by omega), NI_nn _ (by omega), NI_nn _ (by rw [← Int.natCast_mul]; omega), ← Int.natCast_mul] at this

theorem digit_ax (r b : Nat) (hb0 : 0 < b) (hq : r < b * 65536) (lr : ln r ≤ 549755813888) (lb : ln b ≤ 549755813888) : PCall Tryz.prog 116 [DN (digs B r), DN (digs B b)] (.v (.int .i64 (r / b : Nat))) := by
  refine pcall_of fun s => ?_
  refine acall_of Tryz.func116 rfl rfl (by simp [Tryz.ntmps116]) ?_; rw [Tryz.ntmps116, Tryz.results116]
  have p0 := mags_ax r b (show ln r ≤ _ by omega) (show ln b ≤ _ by omega)
  have hq2 : r / b < 65536 := Nat.div_lt_of_lt_mul hq
  have p1 : ∀ m : Nat, m < 65536 → PCall Tryz.prog 55 [.v (.int .i64 (m : Int))] (NS false m) := fun m hm => by
    have := small_ax (m : Int) (by omega) (by omega)
    rwa [NI_nn _ (by omega)] at this
  have lm : ∀ m : Nat, m < 65536 → ln m ≤ 1 := fun m hm => (ln_lt m 1).1 (by unfold B; omega)
  have p2 : ∀ m : Nat, m < 65536 → PCall Tryz.prog 58 [NS false b, NS false m] (NS false (b * m)) := fun m hm => timesP_ax b m (by have := lm m hm; omega)
  have p3 : ∀ m : Nat, m < 65536 → PCall Tryz.prog 113 [DN (digs B (b * m)), DN (digs B r)] (.v (.int .i64 (cmpN (b * m) r))) := fun m hm => mags_ax _ _ (show ln _ ≤ _ by have := lm m hm; have := ln_mul b m; omega) (show ln r ≤ _ by omega)
  simp only [NS_eq, DN_ln] at p0 p1 p2 p3 ⊢
  refine go (cj rTI (cj @dl_idf (cj @dl_ln @dl_one))) ?_
  refine aw_reg fun K hK => ?_; refine rn (cj rTI (cj @dl_idf (cj @dl_ln @dl_one))) ?_; refine cont_pure p0 ?_; refine rn (cj rTI (cj @dl_idf (cj @dl_ln @dl_one))) ?_; refine hK _ _ ?_; clear hK K
  by_cases h0 : r < b
  · rw [cmpN_lt h0]
    refine ifs ?_ ?_ <;> first | exact nope | intro hb
    refine go (cj rTI (cj @dl_idf (cj @dl_ln @dl_one))) ?_
    (repeat' refine And.intro ?_ ?_) <;> first | exact rfl | exact fnz trivial | skip
    rw [Nat.div_eq_of_lt h0]
    rfl
  · have c0 : 0 ≤ cmpN r b := by unfold cmpN; rw [if_neg h0]; split <;> decide
    refine ifs ?_ ?_ <;> first | exact nope | intro hb
    refine go (cj rTI (cj @dl_idf (cj @dl_ln @dl_one))) ?_
    refine aw_loop (fun n e s' => ∃ (lo hi : Nat), n = hi - lo ∧ lo ≤ r / b ∧ r / b ≤ hi ∧ hi < 65536 ∧ e.n = 33 ∧ e.m 0 = DN (digs B r) ∧ e.m 1 = DN (digs B b) ∧ e.m 5 = .v (.int .i64 lo) ∧ e.m 6 = .v (.int .i64 hi) ∧ s' = s) 65535 ?_ ?_
    · refine ⟨0, 65535, by omega, Nat.zero_le _, by omega, by omega, ?_, ?_, ?_, ?_, ?_, rfl⟩ <;> (first | refine rn trivial ?_ | exact rn0 trivial) <;> rfl
    · rintro n e s' ⟨lo, hi, a1, a2, a3, a4, k0, k1, k2, k3, k4, rfl⟩
      rw [DN_ln] at k1 k2
      by_cases h1 : lo < hi
      · have h2 : ((lo : Int) + hi + 1) / 2 = ((lo + hi + 1) / 2 : Nat) := by omega
        have h3 : (lo + hi + 1) / 2 < 65536 := by omega
        have h8 : lo < (lo + hi + 1) / 2 := by omega
        have h9 : (lo + hi + 1) / 2 ≤ hi := by omega
        refine go (cj rTI (cj @dl_idf (cj @dl_ln (cj @dl_one (cj @k0 (cj @k1 (cj @k2 (cj @k3 @k4)))))))) ?_
        refine ifs ?_ ?_ <;> first | exact nope | intro hb
        refine go (cj rTI (cj @dl_idf (cj @dl_ln (cj @dl_one (cj @k0 (cj @k1 (cj @k2 (cj @k3 (cj @k4 @h2))))))))) ?_
        refine aw_reg fun K hK => ?_; refine rn (cj rTI (cj @dl_idf (cj @dl_ln (cj @dl_one (cj @k0 (cj @k1 (cj @k2 (cj @k3 (cj @k4 @h2))))))))) ?_; refine cont_pure (p1 _ h3) ?_; refine rn (cj rTI (cj @dl_idf (cj @dl_ln (cj @dl_one (cj @k0 (cj @k1 (cj @k2 (cj @k3 @k4)))))))) ?_; refine cont_pure (p2 _ h3) ?_; refine rn (cj rTI (cj @dl_idf (cj @dl_ln (cj @dl_one (cj @k0 (cj @k1 (cj @k2 (cj @k3 @k4)))))))) ?_; refine cont_pure (p3 _ h3) ?_; refine rn (cj rTI (cj @dl_idf (cj @dl_ln (cj @dl_one (cj @k0 (cj @k1 (cj @k2 (cj @k3 (cj @k4 @h2))))))))) ?_; refine hK _ _ ?_; clear hK K
        have h6 : (lo + hi + 1) / 2 ≤ r / b ↔ b * ((lo + hi + 1) / 2) ≤ r := by rw [Nat.le_div_iff_mul_le hb0, Nat.mul_comm]
        generalize (lo + hi + 1) / 2 = mid at *
        by_cases h5 : b * mid ≤ r
        · have c1 : cmpN (b * mid) r ≤ 0 := by unfold cmpN; split <;> (try split) <;> omega
          refine ifs ?_ ?_ <;> first | exact nope | intro hb
          refine go (cj rTI (cj @dl_idf (cj @dl_ln (cj @dl_one (cj @k0 (cj @k1 (cj @k2 (cj @k3 @k4)))))))) ?_
          simp only [block_normal, loop_normal]; refine ⟨hi - mid, by omega, mid, hi, rfl, h6.2 h5, a3, a4, ?_⟩
          exact rn0 (cj rTI (cj @dl_idf (cj @dl_ln (cj @dl_one (cj @k0 (cj @k1 (cj @k2 (cj @k3 (cj @k4 @DN_ln)))))))))
        · have c1 : ¬ cmpN (b * mid) r ≤ 0 := by unfold cmpN; rw [if_neg (by omega), if_neg (by omega)]; decide
          have h7 : ¬ mid ≤ r / b := fun q => h5 (h6.1 q)
          refine ifs ?_ ?_ <;> first | exact nope | intro hb
          refine go (cj rTI (cj @dl_idf (cj @dl_ln (cj @dl_one (cj @k0 (cj @k1 (cj @k2 (cj @k3 @k4)))))))) ?_
          simp only [block_normal, loop_normal]; refine ⟨mid - 1 - lo, by omega, lo, mid - 1, rfl, a2, by omega, by omega, ?_⟩
          refine rn (cj rTI (cj @dl_idf (cj @dl_ln (cj @dl_one (cj @k0 (cj @k1 (cj @k2 (cj @k3 (cj @k4 @DN_ln))))))))) ?_
          all_goals (first | exact shz | (intro i hi; (first | refine rn trivial ?_ | exact rn0 trivial)) | skip)
      · refine go (cj rTI (cj @dl_idf (cj @dl_ln (cj @dl_one (cj @k0 (cj @k1 (cj @k2 (cj @k3 @k4)))))))) ?_
        refine ifs ?_ ?_ <;> first | exact nope | intro hb
        refine go (cj rTI (cj @dl_idf (cj @dl_ln (cj @dl_one (cj @k0 (cj @k1 (cj @k2 (cj @k3 @k4)))))))) ?_
        (repeat' refine And.intro ?_ ?_) <;> first | exact rfl | exact fnz trivial | skip
        rw [show r / b = lo by omega]

def divideS (a b : Bool) (m n : Nat) : AV := .tp [NS ((a != b) && decide (0 < m / n)) (m / n), NS (a && decide (0 < m % n)) (m % n)]
structure DivI (a b : Bool) (xs : List Nat) (y : Nat) (s : St) (k : Nat) (ds : List Nat) (e : Env) (s' : St) : Prop where
  en : e.n = 75
  e2 : e.m 2 = .ptr s.nx 0
  e3 : e.m 3 = .ptr (s.nx + 1) 0
  e4 : e.m 4 = .ptr (s.nx + 2) 0
  e5 : e.m 5 = .ptr (s.nx + 3) 0
  e6 : e.m 6 = .own (s.nx + 4) 0 xs.length 1
  e7 : e.m 7 = .sl (ln (val B (xs.drop k) % y)) (DL (digs B (val B (xs.drop k) % y)))
  e8 : e.m 8 = .v (.int .i64 ((k : Int) - 1))
  g0 : s'.get s.nx = some [.v (.bool a), .sl xs.length (DL xs)]
  g1 : s'.get (s.nx + 1) = some [.v (.bool b), .sl (ln y) (DL (digs B y))]
  g2 : s'.get (s.nx + 2) = some [.v (.bool false), .v (.slice none 0 0)]
  g3 : s'.get (s.nx + 3) = some [.v (.bool false), .v (.slice none 0 0)]
  gi : s'.get (s.nx + 4) = some (DL ds)
  hi : s.nx + 5 ≤ s'.nx
  fr : ∀ i, i < s.nx → s'.get i = s.get i
  len : ds.length = xs.length
  lt : ∀ d ∈ ds, d < B
  kl : k ≤ xs.length
  vq : val B (ds.drop k) = val B (xs.drop k) / y
theorem divide_step (x y V : Nat) (hy : 0 < y) : (x + B * V) / y = (x + B * (V % y)) / y + B * (V / y) ∧ (x + B * V) % y = (x + B * (V % y)) % y := by
  have e : x + B * V = x + B * (V % y) + y * (B * (V / y)) := by
    conv => lhs; rw [← Nat.mod_add_div V y]
    rw [Nat.mul_add, ← Nat.mul_assoc, ← Nat.mul_assoc, Nat.mul_comm B y, Nat.add_assoc]
  rw [e, Nat.add_mul_div_left _ _ hy, Nat.add_mul_mod_self_left]
  exact ⟨rfl, rfl⟩
theorem divide_lt (x y r : Nat) (hx : x < B) (hr : r < y) : x + B * r < y * B := by
  have : B * (r + 1) ≤ B * y := Nat.mul_le_mul_left _ hr
  rw [Nat.mul_add] at this
  rw [Nat.mul_comm y]
  omega
set_option maxHeartbeats 2000000 in
theorem divideS_ax (a b : Bool) (xs : List Nat) (y : Nat) (dx : ∀ d ∈ xs, d < B) (hy : 0 < y) (lx : xs.length ≤ 1099511627776) (ly : ln y ≤ 274877906944) : PCall Tryz.prog 61 [.ag [.v (.bool a), .sl xs.length (DL xs)], .ag [.v (.bool b), .sl (ln y) (DL (digs B y))]] (divideS a b (val B xs) y) := by
  refine pcall_of fun s => ?_
  refine acall_of Tryz.func61 rfl rfl (by simp [Tryz.ntmps61]) ?_; rw [Tryz.ntmps61, Tryz.results61]
  refine go (cj rTI (cj @dl_idf (cj @dl_ln @dl_one))) ?_
  refine aw_slot 7 (.v (.slice none 0 0)) (.sl 0 []) (by exact rn0 trivial) (Le.nil _ _ rfl) (by exact rn0 trivial) ?_
  refine aw_loop (fun n e s' => ∃ (ds : List Nat), DivI a b xs y s n ds e s') xs.length ?_ ?_
  · refine ⟨List.replicate xs.length 0, ?_⟩
    constructor <;> (try (first | refine rn @DL_zero ?_ | exact rn0 @DL_zero))
    all_goals (first | exact shz | (intro i hi; (first | refine rn @DL_zero ?_ | exact rn0 @DL_zero)) | skip)
    · rw [List.drop_length, val, Nat.zero_mod, digs_zero, ln, digs_zero]; rfl
    · simp
    · intro d hd
      rw [List.eq_of_mem_replicate hd]; decide
    · rw [List.drop_length, val, Nat.zero_div, List.drop_of_length_le (by simp)]; rfl
  · rintro k e s' ⟨ds, hI⟩
    have k0 := hI.en
    have k2 := hI.e2
    have k3 := hI.e3
    have k4 := hI.e4
    have k5 := hI.e5
    have k6 := hI.e6
    have k7 := hI.e7
    have k8 := hI.e8
    have g0 := hI.g0
    have g1 := hI.g1
    have g2 := hI.g2
    have g3 := hI.g3
    have gi := hI.gi
    have hi := hI.hi
    have l1 := DL_len ds
    have l2 := DL_len xs
    have l4 := hI.len
    have b1 := hI.kl
    by_cases hn : 0 < k
    · refine go (cj rTI (cj @dl_idf (cj @dl_ln (cj @dl_one (cj @k0 (cj @k2 (cj @k3 (cj @k4 (cj @k5 (cj @k6 (cj @k7 (cj @k8 (cj @g0 (cj @g1 (cj @g2 (cj @g3 (cj @gi @hd_DL))))))))))))))))) ?_
      refine ifs ?_ ?_ <;> first | exact nope | intro hb
      refine go (cj rTI (cj @dl_idf (cj @dl_ln (cj @dl_one (cj @k0 (cj @k2 (cj @k3 (cj @k4 (cj @k5 (cj @k6 (cj @k7 (cj @k8 (cj @g0 (cj @g1 (cj @g2 (cj @g3 (cj @gi @hd_DL))))))))))))))))) ?_
      have dp := drop_pred xs k hn hI.kl
      have hv : val B (xs.drop (k - 1)) = xs.getD (k - 1) 0 + B * val B (xs.drop k) := by rw [dp, val]
      have hst := divide_step (xs.getD (k - 1) 0) y (val B (xs.drop k)) hy
      rw [← hv] at hst
      have hx : xs.getD (k - 1) 0 < B := getD_lt B (by decide) xs dx _
      have hr : val B (xs.drop k) % y < y := Nat.mod_lt _ hy
      generalize hrr : val B (xs.drop k) % y = r at *
      have hlt := divide_lt _ _ _ hx hr
      have lr : ln r ≤ ln y := ln_mono (by omega)
      have ht := trim_ax (xs.getD (k - 1) 0 :: digs B r) (by rw [List.length_cons]; change ln r + 1 ≤ _; omega)
      rw [← digs_val B hB _ (by
        intro d hd
        rcases List.mem_cons.1 hd with h | h
        · rw [h]; exact hx
        · exact digs_lt B hB r d h), val, val_digs B hB] at ht
      have lB : ln B ≤ 2 := (ln_lt B 2).1 (by decide)
      have lr2 : ln (xs.getD (k - 1) 0 + B * r) ≤ ln y + 2 := Nat.le_trans (ln_mono (Nat.le_of_lt hlt)) (by
        have := ln_mul y B
        omega)
      generalize hrs : xs.getD (k - 1) 0 + B * r = r' at *
      have p1 := digit_ax r' y hy hlt (by omega) (by omega)
      have hq2 : r' / y < 65536 := Nat.div_lt_of_lt_mul hlt
      have hmod := Nat.mod_add_div r' y
      have hmul := Nat.mul_div_le r' y
      have hm : r' % y < y := Nat.mod_lt _ hy
      generalize hqq : r' / y = q at *
      generalize hmm : r' % y = m at *
      have lq : ln q ≤ 1 := (ln_lt _ 1).1 (by unfold B; omega)
      have p2 := small_ax (q : Int) (by omega) (by omega)
      rw [NI_nn _ (by omega), Int.natAbs_natCast] at p2
      have p3 := timesP_ax y q (by omega)
      have p4 := minusd_ax r' (y * q) (by omega) hmul
      rw [show r' - y * q = m by omega] at p4
      simp only [NS_eq, DN_ln] at p1 p2 p3 p4 ht
      have tke : ∀ x : Nat, (DL (x :: digs B r)).take (1 + ln r) = DL (x :: digs B r) := fun x => List.take_of_length_le (by rw [DL_len, List.length_cons]; change ln r + 1 ≤ _; omega)
      have ht2 : PCall Tryz.prog 115 [AV.sl (1 + ln r) (DL (xs.getD (k - 1) 0 :: digs B r))] (AV.sl (ln r') (DL (digs B r'))) := by
        rw [show AV.sl (1 + ln r) (DL (xs.getD (k - 1) 0 :: digs B r)) = DN (xs.getD (k - 1) 0 :: digs B r) by rw [Nat.add_comm]; rfl]
        exact ht
      refine aw_reg fun K hK => ?_; refine rn (cj rTI (cj @dl_idf (cj @dl_ln (cj @dl_one (cj @k0 @k7))))) ?_; refine acall_frz (s'.nx + 1) (DL (xs.getD (k - 1) 0 :: digs B r)) (by refine rn trivial ?_; rfl) (fun _ => false) ?_; refine rn @tke ?_; refine cont_pure ht2 ?_; refine rn (cj rTI (cj @dl_idf (cj @dl_ln (cj @dl_one (cj @k0 @k7))))) ?_; refine hK _ _ ?_; clear hK K
      refine go (cj rTI (cj @dl_idf (cj @dl_ln @dl_one))) ?_
      refine aw_reg fun K hK => ?_; refine rn (cj rTI (cj @dl_idf (cj @dl_ln (cj @dl_one (cj @k0 (cj @k3 @g1)))))) ?_; refine cont_pure p1 ?_; refine rn (cj rTI (cj @dl_idf (cj @dl_ln (cj @dl_one (cj @k0 (cj @k3 @g1)))))) ?_; refine hK _ _ ?_; clear hK K
      refine go (cj rTI (cj @dl_idf (cj @dl_ln @dl_one))) ?_
      by_cases hq0 : 0 < q
      · refine ifs ?_ ?_ <;> first | exact nope | intro hb
        refine aw_drw (.take 0 (.take 1 (.take 2 (.take 3 (.take 4 (.one 5 (.one 6 (.take 7 (.one 8 (.take 9 (.done))))))))))) [s.nx + 1] (by kernel_rfl) (by kernel_rfl) fun K hK => ?_; refine dr (cj rTI (cj @dl_idf (cj @dl_ln (cj @dl_one (cj @k0 (cj @k3 (cj @k7 @g1))))))) ?_; refine cont_pure p2 ?_; refine dr (cj rTI (cj @dl_idf (cj @dl_ln (cj @dl_one (cj @k0 (cj @k3 (cj @k7 @g1))))))) ?_; refine cont_pure p3 ?_; refine dr (cj rTI (cj @dl_idf (cj @dl_ln (cj @dl_one (cj @k0 (cj @k3 (cj @k7 @g1))))))) ?_; refine cont_pure p4 ?_; refine dr (cj rTI (cj @dl_idf (cj @dl_ln (cj @dl_one (cj @k0 (cj @k3 (cj @k7 @g1))))))) ?_; refine hK _ _ ?_; clear hK K
        refine go (cj rTI (cj @dl_idf (cj @dl_ln (cj @dl_one (cj @k0 (cj @k2 (cj @k3 (cj @k4 (cj @k5 (cj @k6 (cj @k7 (cj @k8 (cj @g0 (cj @g1 (cj @g2 (cj @g3 @gi)))))))))))))))) ?_
        simp only [block_normal, loop_normal]; refine ⟨k - 1, by omega, ds.set (k - 1) q, ?_⟩
        have hdr : (ds.set (k - 1) q).drop (k - 1) = q :: ds.drop k := by
          rw [drop_pred _ k hn (by rw [List.length_set]; omega), getD_set _ _ _ _ (by omega), if_pos rfl, List.drop_set_of_lt (by omega)]
        constructor <;> (try (first | refine rn (cj rTI (cj @dl_idf (cj @dl_ln (cj @dl_one (cj @k0 (cj @k2 (cj @k3 (cj @k4 (cj @k5 (cj @k6 (cj @k7 (cj @k8 (cj @g0 (cj @g1 (cj @g2 (cj @g3 (cj @gi (cj @hst.2 (cj @DL_set (cj rls @Nat.zero_add)))))))))))))))))))) ?_ | exact rn0 (cj rTI (cj @dl_idf (cj @dl_ln (cj @dl_one (cj @k0 (cj @k2 (cj @k3 (cj @k4 (cj @k5 (cj @k6 (cj @k7 (cj @k8 (cj @g0 (cj @g1 (cj @g2 (cj @g3 (cj @gi (cj @hst.2 (cj @DL_set (cj rls @Nat.zero_add))))))))))))))))))))))
        all_goals (first | exact shz | (intro i hi; (first | refine rn (hI.fr i hi) ?_ | exact rn0 (hI.fr i hi))) | skip)
        · exact set_lt _ _ _ hI.lt hq2
        · rw [hdr, val, hI.vq, hst.1]
      · refine ifs ?_ ?_ <;> first | exact nope | intro hb
        have hm2 : r' = m := by
          rw [show q = 0 by omega, Nat.mul_zero] at hmod
          omega
        refine go (cj rTI (cj @dl_idf (cj @dl_ln (cj @dl_one (cj @k0 (cj @k2 (cj @k3 (cj @k4 (cj @k5 (cj @k6 (cj @k7 (cj @k8 (cj @g0 (cj @g1 (cj @g2 (cj @g3 @gi)))))))))))))))) ?_
        simp only [block_normal, loop_normal]; refine ⟨k - 1, by omega, ds.set (k - 1) q, ?_⟩
        have hdr : (ds.set (k - 1) q).drop (k - 1) = q :: ds.drop k := by
          rw [drop_pred _ k hn (by rw [List.length_set]; omega), getD_set _ _ _ _ (by omega), if_pos rfl, List.drop_set_of_lt (by omega)]
        constructor <;> (try (first | refine rn (cj rTI (cj @dl_idf (cj @dl_ln (cj @dl_one (cj @k0 (cj @k2 (cj @k3 (cj @k4 (cj @k5 (cj @k6 (cj @k7 (cj @k8 (cj @g0 (cj @g1 (cj @g2 (cj @g3 (cj @gi (cj @hst.2 (cj @hm2 (cj @DL_set (cj rls @Nat.zero_add))))))))))))))))))))) ?_ | exact rn0 (cj rTI (cj @dl_idf (cj @dl_ln (cj @dl_one (cj @k0 (cj @k2 (cj @k3 (cj @k4 (cj @k5 (cj @k6 (cj @k7 (cj @k8 (cj @g0 (cj @g1 (cj @g2 (cj @g3 (cj @gi (cj @hst.2 (cj @hm2 (cj @DL_set (cj rls @Nat.zero_add)))))))))))))))))))))))
        all_goals (first | exact shz | (intro i hi; (first | refine rn (hI.fr i hi) ?_ | exact rn0 (hI.fr i hi))) | skip)
        · exact set_lt _ _ _ hI.lt hq2
        · rw [hdr, val, hI.vq, hst.1]
    · refine go (cj rTI (cj @dl_idf (cj @dl_ln (cj @dl_one (cj @k0 (cj @k2 (cj @k3 (cj @k4 (cj @k5 (cj @k6 (cj @k7 (cj @k8 (cj @g0 (cj @g1 (cj @g2 (cj @g3 (cj @gi @hd_DL))))))))))))))))) ?_
      refine ifs ?_ ?_ <;> first | exact nope | intro hb
      refine go (cj rTI (cj @dl_idf (cj @dl_ln (cj @dl_one (cj @k0 (cj @k2 (cj @k3 (cj @k4 (cj @k5 (cj @k6 (cj @k7 (cj @k8 (cj @g0 (cj @g1 (cj @g2 (cj @g3 (cj @gi @hd_DL))))))))))))))))) ?_
      refine aw_reg fun K hK => ?_; refine rn (cj rTI (cj @dl_idf (cj @dl_ln (cj @dl_one (cj @k0 @k6))))) ?_; refine acall_frz (s.nx + 4) (DL ds) gi (fun _ => false) ?_; refine rn @DL_take ?_; rw [show AV.sl xs.length (DL ds) = DN ds by rw [← l4]; rfl]; refine cont_pure (trim_ax ds (by omega)) ?_; refine rn (cj rTI (cj @dl_idf (cj @dl_ln (cj @dl_one (cj @k0 @k6))))) ?_; refine hK _ _ ?_; clear hK K
      obtain rfl : k = 0 := by omega
      have hv := hI.vq
      rw [List.drop_zero, List.drop_zero] at hv
      rw [List.drop_zero] at k7
      have ht := digs_val B hB ds hI.lt
      rw [hv] at ht
      rw [← ht, DN_ln]
      unfold divideS
      have l0 := ln_zero (val B xs / y)
      have l5 := ln_zero (val B xs % y)
      rw [NS_eq, NS_eq]
      generalize val B xs / y = q at *
      generalize val B xs % y = r at *
      by_cases hp : 0 < q <;> by_cases hp2 : 0 < r
      · have h4 : 0 < ln q := by omega
        have h5 : 0 < ln r := by omega
        cases a <;> cases b <;> (refine go (cj rTI (cj @dl_idf (cj @dl_ln (cj @dl_one (cj @k0 (cj @k2 (cj @k3 (cj @k4 (cj @k5 (cj @k6 (cj @k7 (cj @g0 (cj @g1 (cj @g2 @g3)))))))))))))) ?_; (repeat' refine And.intro ?_ ?_) <;> first | exact rfl | (intro i hi; exact rn0 (hI.fr i hi)) | skip)
      · have h4 : 0 < ln q := by omega
        have h5 : ln r = 0 := by omega
        cases a <;> cases b <;> (refine go (cj rTI (cj @dl_idf (cj @dl_ln (cj @dl_one (cj @k0 (cj @k2 (cj @k3 (cj @k4 (cj @k5 (cj @k6 (cj @k7 (cj @g0 (cj @g1 (cj @g2 @g3)))))))))))))) ?_; (repeat' refine And.intro ?_ ?_) <;> first | exact rfl | (intro i hi; exact rn0 (hI.fr i hi)) | skip)
      · have h4 : ln q = 0 := by omega
        have h5 : 0 < ln r := by omega
        cases a <;> cases b <;> (refine go (cj rTI (cj @dl_idf (cj @dl_ln (cj @dl_one (cj @k0 (cj @k2 (cj @k3 (cj @k4 (cj @k5 (cj @k6 (cj @k7 (cj @g0 (cj @g1 (cj @g2 @g3)))))))))))))) ?_; (repeat' refine And.intro ?_ ?_) <;> first | exact rfl | (intro i hi; exact rn0 (hI.fr i hi)) | skip)
      · have h4 : ln q = 0 := by omega
        have h5 : ln r = 0 := by omega
        cases a <;> cases b <;> (refine go (cj rTI (cj @dl_idf (cj @dl_ln (cj @dl_one (cj @k0 (cj @k2 (cj @k3 (cj @k4 (cj @k5 (cj @k6 (cj @k7 (cj @g0 (cj @g1 (cj @g2 @g3)))))))))))))) ?_; (repeat' refine And.intro ?_ ?_) <;> first | exact rfl | (intro i hi; exact rn0 (hI.fr i hi)) | skip)
end Go.Proofs.YtfjelkjlfcafgaaGreatDoor.RefF
end
section
/- The document's whole numbers (layer 1): the common divisor. -/
namespace Go.Proofs.YtfjelkjlfcafgaaGreatDoor.RefG
open Go Go.RowKit Go.Proofs.YtfjelkjlfcafgaaGreatDoor.Ax Go.Proofs.YtfjelkjlfcafgaaGreatDoor.Ti Go.Proofs.YtfjelkjlfcafgaaGreatDoor.BigM Go.Proofs.YtfjelkjlfcafgaaGreatDoor.RefA Go.Proofs.YtfjelkjlfcafgaaGreatDoor.RefB Go.Proofs.YtfjelkjlfcafgaaGreatDoor.RefC Go.Proofs.YtfjelkjlfcafgaaGreatDoor.RefD Go.Proofs.YtfjelkjlfcafgaaGreatDoor.RefE Go.Proofs.YtfjelkjlfcafgaaGreatDoor.RefF
set_option maxHeartbeats 2000000
set_option linter.unusedSimpArgs false
set_option linter.unusedVariables false
set_option maxRecDepth 4000
theorem rTI : type_of% (cj @ti105 (cj @ti63 (cj @ti3 @ti4))) := cj @ti105 (cj @ti63 (cj @ti3 @ti4))

def sg (b : Bool) (n : Nat) : Int := if b then -(n : Int) else n
theorem sg_self (x : Int) : sg (decide (x < 0)) x.natAbs = x := by unfold sg; split <;> simp_all <;> omega
theorem NS_sg (b : Bool) (n : Nat) : NS (b && decide (0 < n)) n = NI (sg b n) := by
  unfold NI sg
  cases b
  · rw [show decide ((if false = true then -(n : Int) else (n : Int)) < 0) = false from decide_eq_false (by simp)]
    simp
  · simp only [Bool.true_and, if_true, Int.natAbs_neg, Int.natAbs_natCast]
    congr 1
    rw [decide_eq_decide]
    omega
theorem sg_tdiv (a b : Bool) (m n : Nat) : (sg a m).tdiv (sg b n) = sg (a != b) (m / n) := by
  cases a <;> cases b <;> simp [sg, Int.neg_tdiv, Int.tdiv_neg, Int.ofNat_tdiv]
theorem sg_tmod (a b : Bool) (m n : Nat) : (sg a m).tmod (sg b n) = sg a (m % n) := by
  cases a <;> cases b <;> simp only [sg, if_true, if_false, Bool.false_eq_true, Int.neg_tmod, Int.tmod_neg, Int.ofNat_tmod]
theorem divideN_ax (x y : Int) (hy : y ≠ 0) (lx : lz x ≤ 1099511627776) (ly : lz y ≤ 274877906944) : PCall Tryz.prog 61 [NI x, NI y] (.tp [NI (x.tdiv y), NI (x.tmod y)]) := by
  have h := divideS_ax (decide (x < 0)) (decide (y < 0)) (digs B x.natAbs) y.natAbs (digs_lt B hB _) (by omega) lx ly
  rw [val_digs B hB, divideS, NS_sg, NS_sg, ← sg_tdiv, ← sg_tmod _ (decide (y < 0)), sg_self, sg_self] at h
  exact h
theorem NI_nat (n : Nat) : NI (n : Int) = NS false n := NI_nn _ (Int.natCast_nonneg n)
theorem divideP_ax (m n : Nat) (hn : 0 < n) (lm : ln m ≤ 1099511627776) (l : ln n ≤ 274877906944) : PCall Tryz.prog 61 [NS false m, NS false n] (.tp [NS false (m / n), NS false (m % n)]) := by
  have := divideN_ax m n (by omega) lm l
  rw [← Int.ofNat_tdiv, ← Int.ofNat_tmod] at this
  rwa [NI_nat, NI_nat, NI_nat, NI_nat] at this

structure CommonI (G L : Nat) (s : St) (n m : Nat) (e : Env) (s' : St) : Prop where
  en : e.n = 24
  e2 : e.m 2 = .ptr s.nx 0
  e3 : e.m 3 = .ptr (s.nx + 1) 0
  e4 : e.m 4 = .ptr (s.nx + 2) 0
  g0 : s'.get s.nx = some [.v (.bool false), .sl (ln m) (DL (digs B m))]
  g1 : s'.get (s.nx + 1) = some [.v (.bool false), .sl (ln n) (DL (digs B n))]
  g2 : s'.get (s.nx + 2) = some [.v (.bool false), .v (.slice none 0 0)]
  hi : s.nx + 3 ≤ s'.nx
  fr : ∀ i, i < s.nx → s'.get i = s.get i
  lm : ln m ≤ L
  l : ln n ≤ L
  gc : Nat.gcd m n = G
theorem commonN_ax (x y : Int) (lx : lz x ≤ 274877906944) (ly : lz y ≤ 274877906944) : PCall Tryz.prog 166 [NI x, NI y] (NI (Nat.gcd x.natAbs y.natAbs)) := by
  refine pcall_of fun s => ?_
  refine acall_of Tryz.func166 rfl rfl (by simp [Tryz.ntmps166]) ?_; rw [Tryz.ntmps166, Tryz.results166]
  have p0 := abs_ax x
  have p1 := abs_ax y
  rw [NI_nn (x.natAbs : Int) (by omega), Int.natAbs_natCast] at p0
  rw [NI_nn (y.natAbs : Int) (by omega), Int.natAbs_natCast] at p1
  rw [NI_nn (Nat.gcd x.natAbs y.natAbs : Int) (by omega), Int.natAbs_natCast]
  unfold NI at p0 p1 ⊢
  simp only [NS_eq] at p0 p1 ⊢
  change ln x.natAbs ≤ _ at lx
  change ln y.natAbs ≤ _ at ly
  generalize decide (x < 0) = a at *
  generalize decide (y < 0) = b at *
  generalize x.natAbs = m0 at *
  generalize y.natAbs = n0 at *
  refine go (cj rTI (cj @dl_idf (cj @dl_ln @dl_one))) ?_
  refine aw_drw (.two 0 (.two 1 (.one 2 (.one 3 (.one 4 (.one 5 (.done))))) 2 (.one 1 (.one 3 (.one 4 (.one 5 (.done)))))) 2 (.one 0 (.one 1 (.one 3 (.one 4 (.one 5 (.done))))))) [] (by kernel_rfl) (by kernel_rfl) fun K hK => ?_; refine dr (cj rTI (cj @dl_idf (cj @dl_ln @dl_one))) ?_; skip
  have hK2 : ∀ (e : Env) (s' : St), CommonI (Nat.gcd m0 n0) 274877906944 s n0 m0 e s' → K e s' := by
    intro e s' hI0
    refine hK e s' ?_
    clear hK
    refine rn trivial ?_
    refine go trivial ?_
    refine aw_loop (fun n e s' => ∃ (m : Nat), CommonI (Nat.gcd m0 n0) 274877906944 s n m e s') n0 ⟨m0, hI0⟩ ?_
    clear hI0 e s'
    rintro n e s' ⟨m, hI⟩
    have k0 := hI.en
    have k2 := hI.e2
    have k3 := hI.e3
    have k4 := hI.e4
    have g0 := hI.g0
    have g1 := hI.g1
    have g2 := hI.g2
    have hi := hI.hi
    have l0 := ln_zero n
    by_cases hn : 0 < n
    · refine go (cj rTI (cj @dl_idf (cj @dl_ln (cj @dl_one (cj @k0 (cj @k2 (cj @k3 (cj @k4 (cj @g0 (cj @g1 @g2)))))))))) ?_
      refine ifs ?_ ?_ <;> first | exact nope | intro hb
      refine go (cj rTI (cj @dl_idf (cj @dl_ln (cj @dl_one (cj @k0 (cj @k2 (cj @k3 (cj @k4 (cj @g0 (cj @g1 @g2)))))))))) ?_
      have p2 := divideP_ax m n hn (by have := hI.lm; omega) hI.l
      simp only [NS_eq] at p2
      refine aw_reg fun K hK => ?_; refine rn (cj rTI (cj @dl_idf (cj @dl_ln (cj @dl_one (cj @k0 (cj @k2 (cj @k3 (cj @k4 (cj @g0 (cj @g1 @g2)))))))))) ?_; refine cont_pure p2 ?_; refine rn (cj rTI (cj @dl_idf (cj @dl_ln (cj @dl_one (cj @k0 (cj @k2 (cj @k3 (cj @k4 (cj @g0 (cj @g1 @g2)))))))))) ?_; refine hK _ _ ?_; clear hK K
      refine go (cj rTI (cj @dl_idf (cj @dl_ln @dl_one))) ?_
      refine aw_drw (.take 1 (.one 0 (.one 2 (.one 3 (.done))))) [s'.nx + 1] (by kernel_rfl) (by kernel_rfl) fun K hK => ?_; refine dr (cj rTI (cj @dl_idf (cj @dl_ln (cj @dl_one (cj @k0 (cj @k2 (cj @k3 (cj @k4 (cj @g0 (cj @g1 @g2)))))))))) ?_; refine hK _ _ ?_; clear hK K
      refine go (cj rTI (cj @dl_idf (cj @dl_ln @dl_one))) ?_
      simp only [block_normal, loop_normal]; refine ⟨m % n, Nat.mod_lt _ hn, n, ?_⟩
      constructor <;> (try (first | refine rn (cj rTI (cj @dl_idf (cj @dl_ln (cj @dl_one (cj @k0 (cj @k2 (cj @k3 (cj @k4 (cj @g0 (cj @g1 @g2)))))))))) ?_ | exact rn0 (cj rTI (cj @dl_idf (cj @dl_ln (cj @dl_one (cj @k0 (cj @k2 (cj @k3 (cj @k4 (cj @g0 (cj @g1 @g2))))))))))))
      all_goals (first | exact shz | (intro i hi; (first | refine rn (hI.fr i hi) ?_ | exact rn0 (hI.fr i hi))) | skip)
      · exact hI.l
      · exact Nat.le_trans (ln_mono (Nat.le_of_lt (Nat.mod_lt _ hn))) hI.l
      · rw [← hI.gc, Nat.gcd_comm n, ← Nat.gcd_rec, Nat.gcd_comm]
    · refine go (cj rTI (cj @dl_idf (cj @dl_ln (cj @dl_one (cj @k0 (cj @k2 (cj @k3 (cj @k4 (cj @g0 (cj @g1 @g2)))))))))) ?_
      refine ifs ?_ ?_ <;> first | exact nope | intro hb
      have hg := hI.gc
      rw [show n = 0 by omega, Nat.gcd_zero_right] at hg
      rw [← hg]
      refine go (cj rTI (cj @dl_idf (cj @dl_ln (cj @dl_one (cj @k0 (cj @k2 (cj @k3 (cj @k4 (cj @g0 (cj @g1 @g2)))))))))) ?_
      (repeat' refine And.intro ?_ ?_) <;> first | exact rfl | (intro i hi; exact rn0 (hI.fr i hi)) | skip
  have fin : ∀ (e : Env) (s' : St), e.n = 24 → e.m 2 = .ptr s.nx 0 → e.m 3 = .ptr (s.nx + 1) 0 → e.m 4 = .ptr (s.nx + 2) 0 → s'.get s.nx = some [.v (.bool false), .sl (ln m0) (DL (digs B m0))] →
      s'.get (s.nx + 1) = some [.v (.bool false), .sl (ln n0) (DL (digs B n0))] → s'.get (s.nx + 2) = some [.v (.bool false), .v (.slice none 0 0)] → s.nx + 3 ≤ s'.nx → (∀ i, i < s.nx → s'.get i = s.get i) → K e s' :=
    fun e s' q0 q1 q2 q3 q4 q5 q6 q7 q8 => hK2 e s' ⟨q0, q1, q2, q3, q4, q5, q6, q7, q8, lx, ly, rfl⟩
  refine ⟨⟨?_, ?_⟩, ?_⟩ <;> (refine cont_pure p0 ?_; refine dr (cj rTI (cj @dl_idf (cj @dl_ln @dl_one))) ?_; refine cont_pure p1 ?_; refine dr (cj rTI (cj @dl_idf (cj @dl_ln @dl_one))) ?_; apply fin <;> (try (first | refine rn trivial ?_ | exact rn0 trivial)))
  all_goals (all_goals (first | exact shz | (intro i hi; (first | refine rn trivial ?_ | exact rn0 trivial)) | skip))
end Go.Proofs.YtfjelkjlfcafgaaGreatDoor.RefG
end
section
/- The document's whole numbers (layer 1): words of 32 bits, and the whole of 64. -/
namespace Go.Proofs.YtfjelkjlfcafgaaGreatDoor.RefH
open Go Go.RowKit Go.Proofs.YtfjelkjlfcafgaaGreatDoor.Ax Go.Proofs.YtfjelkjlfcafgaaGreatDoor.Ti Go.Proofs.YtfjelkjlfcafgaaGreatDoor.BigM Go.Proofs.YtfjelkjlfcafgaaGreatDoor.RefA Go.Proofs.YtfjelkjlfcafgaaGreatDoor.RefB Go.Proofs.YtfjelkjlfcafgaaGreatDoor.RefC Go.Proofs.YtfjelkjlfcafgaaGreatDoor.RefD Go.Proofs.YtfjelkjlfcafgaaGreatDoor.RefE Go.Proofs.YtfjelkjlfcafgaaGreatDoor.RefF Go.Proofs.YtfjelkjlfcafgaaGreatDoor.RefG
set_option maxHeartbeats 2000000
set_option linter.unusedSimpArgs false
set_option linter.unusedVariables false
set_option maxRecDepth 4000
theorem rTI : type_of% (cj @ti105 (cj @ti63 (cj @ti3 @ti4))) := cj @ti105 (cj @ti63 (cj @ti3 @ti4))
end Go.Proofs.YtfjelkjlfcafgaaGreatDoor.RefH
end
section
/- The document's whole numbers (layer 1): the whole of 64 bits. -/
namespace Go.Proofs.YtfjelkjlfcafgaaGreatDoor.RefI
open Go Go.RowKit Go.Proofs.YtfjelkjlfcafgaaGreatDoor.Ax Go.Proofs.YtfjelkjlfcafgaaGreatDoor.Ti Go.Proofs.YtfjelkjlfcafgaaGreatDoor.BigM Go.Proofs.YtfjelkjlfcafgaaGreatDoor.RefA Go.Proofs.YtfjelkjlfcafgaaGreatDoor.RefB Go.Proofs.YtfjelkjlfcafgaaGreatDoor.RefC Go.Proofs.YtfjelkjlfcafgaaGreatDoor.RefD Go.Proofs.YtfjelkjlfcafgaaGreatDoor.RefE Go.Proofs.YtfjelkjlfcafgaaGreatDoor.RefF Go.Proofs.YtfjelkjlfcafgaaGreatDoor.RefG Go.Proofs.YtfjelkjlfcafgaaGreatDoor.RefH
set_option maxHeartbeats 2000000
set_option linter.unusedSimpArgs false
set_option linter.unusedVariables false
set_option maxRecDepth 4000
theorem rTI : type_of% (cj @ti105 (cj @ti63 (cj @ti3 @ti4))) := cj @ti105 (cj @ti63 (cj @ti3 @ti4))
end Go.Proofs.YtfjelkjlfcafgaaGreatDoor.RefI
end
section
/- The document's whole numbers (layer 1): in decimal digits. -/
namespace Go.Proofs.YtfjelkjlfcafgaaGreatDoor.RefJ
open Go Go.RowKit Go.Proofs.YtfjelkjlfcafgaaGreatDoor.Ax Go.Proofs.YtfjelkjlfcafgaaGreatDoor.Ti Go.Proofs.YtfjelkjlfcafgaaGreatDoor.BigM Go.Proofs.YtfjelkjlfcafgaaGreatDoor.RefA Go.Proofs.YtfjelkjlfcafgaaGreatDoor.RefB Go.Proofs.YtfjelkjlfcafgaaGreatDoor.RefC Go.Proofs.YtfjelkjlfcafgaaGreatDoor.RefD Go.Proofs.YtfjelkjlfcafgaaGreatDoor.RefE Go.Proofs.YtfjelkjlfcafgaaGreatDoor.RefF Go.Proofs.YtfjelkjlfcafgaaGreatDoor.RefG Go.Proofs.YtfjelkjlfcafgaaGreatDoor.RefH Go.Proofs.YtfjelkjlfcafgaaGreatDoor.RefI
set_option maxHeartbeats 2000000
set_option linter.unusedSimpArgs false
set_option linter.unusedVariables false
set_option maxRecDepth 4000
theorem rTI : type_of% (cj @ti105 (cj @ti63 (cj @ti3 (cj @ti4 (cj @ti9 (cj @ti116 @ti5)))))) := cj @ti105 (cj @ti63 (cj @ti3 (cj @ti4 (cj @ti9 (cj @ti116 @ti5)))))

def bs (l : List Nat) : ByteArray := ⟨(l.map UInt8.ofNat).toArray⟩
theorem bs_append (a b : List Nat) : bs a ++ bs b = bs (a ++ b) := by
  apply ByteArray.ext
  rw [ByteArray.data_append]
  simp [bs]
theorem bs_size (l : List Nat) : (bs l).size = l.length := by simp [bs, ByteArray.size]
end Go.Proofs.YtfjelkjlfcafgaaGreatDoor.RefJ
end
section
/- The document's fractions (layer 2). -/
namespace Go.Proofs.YtfjelkjlfcafgaaGreatDoor.RefK
open Go Go.RowKit Go.Proofs.YtfjelkjlfcafgaaGreatDoor.Ax Go.Proofs.YtfjelkjlfcafgaaGreatDoor.Ti Go.Proofs.YtfjelkjlfcafgaaGreatDoor.BigM Go.Proofs.YtfjelkjlfcafgaaGreatDoor.RefA Go.Proofs.YtfjelkjlfcafgaaGreatDoor.RefB Go.Proofs.YtfjelkjlfcafgaaGreatDoor.RefC Go.Proofs.YtfjelkjlfcafgaaGreatDoor.RefD Go.Proofs.YtfjelkjlfcafgaaGreatDoor.RefE Go.Proofs.YtfjelkjlfcafgaaGreatDoor.RefF Go.Proofs.YtfjelkjlfcafgaaGreatDoor.RefG Go.Proofs.YtfjelkjlfcafgaaGreatDoor.RefH Go.Proofs.YtfjelkjlfcafgaaGreatDoor.RefI Go.Proofs.YtfjelkjlfcafgaaGreatDoor.RefJ
set_option linter.unusedSimpArgs false
set_option linter.unusedVariables false
set_option maxRecDepth 4000
theorem rTI : type_of% (cj @ti124 (cj @ti105 (cj @ti63 (cj @ti3 @ti4)))) := cj @ti124 (cj @ti105 (cj @ti63 (cj @ti3 @ti4)))
def ng (z : Int) : Bool := decide (z < 0)
def FA (n d : Int) : AV := .ag [.v (.bool (ng n)), .sl (lz n) (DL (digs B n.natAbs)), .v (.bool (ng d)), .sl (lz d) (DL (digs B d.natAbs))]
theorem NI_eq (z : Int) : NI z = .ag [.v (.bool (ng z)), .sl (lz z) (DL (digs B z.natAbs))] := rfl
def low (n d : Int) : Int × Int := if d < 0 then ((-n).tdiv (Nat.gcd n.natAbs d.natAbs), (-d).tdiv (Nat.gcd n.natAbs d.natAbs)) else (n.tdiv (Nat.gcd n.natAbs d.natAbs), d.tdiv (Nat.gcd n.natAbs d.natAbs))
theorem sgn_lt (z : Int) : sgn z < 0 ↔ z < 0 := by unfold sgn; split <;> (try split) <;> omega
theorem lz_gcd (n d : Int) (hd : d ≠ 0) : lz (Nat.gcd n.natAbs d.natAbs : Nat) ≤ lz d := ln_mono (Nat.le_of_dvd (by omega) (Nat.gcd_dvd_right _ _))
structure LowI (s : St) (n d : Int) (e : Env) (s' : St) : Prop where
  en : e.n = 35
  e2 : e.m 2 = .ptr s.nx 0
  e3 : e.m 3 = .ptr (s.nx + 1) 0
  e4 : e.m 4 = .ptr (s.nx + 2) 0
  g0 : s'.get s.nx = some [.v (.bool (ng n)), .sl (lz n) (DL (digs B n.natAbs))]
  g1 : s'.get (s.nx + 1) = some [.v (.bool (ng d)), .sl (lz d) (DL (digs B d.natAbs))]
  g2 : s'.get (s.nx + 2) = some [.v (.bool false), .v (.slice none 0 0), .v (.bool false), .v (.slice none 0 0)]
  hi : s.nx + 3 ≤ s'.nx
  fr : ∀ i, i < s.nx → s'.get i = s.get i
set_option maxHeartbeats 2000000 in
theorem lowest_ax (n d : Int) (hd : d ≠ 0) (ln' : lz n ≤ 274877906944) (ld : lz d ≤ 274877906944) : PCall Tryz.prog 128 [NI n, NI d] (FA (low n d).1 (low n d).2) := by
  have p0 := sign_ax d
  have p1 := minusN_ax n
  have p2 := minusN_ax d
  have hsg := sgn_lt d
  refine pcall_of fun s => ?_
  refine acall_of Tryz.func128 rfl rfl (by simp [Tryz.ntmps128]) ?_; rw [Tryz.ntmps128, Tryz.results128]
  by_cases hneg : d < 0
  · rw [show low n d = ((-n).tdiv (Nat.gcd (-n).natAbs (-d).natAbs), (-d).tdiv (Nat.gcd (-n).natAbs (-d).natAbs)) by unfold low; rw [if_pos hneg, Int.natAbs_neg, Int.natAbs_neg]]
    have hg := Nat.gcd_pos_of_pos_right (-n).natAbs (n := (-d).natAbs) (by omega)
    have p3 := commonN_ax (-n) (-d) (by rw [lz_neg]; exact ln') (by rw [lz_neg]; exact ld)
    have p4 := divideN_ax (-n) (Nat.gcd (-n).natAbs (-d).natAbs) (by omega) (by rw [lz_neg]; omega) (Nat.le_trans (lz_gcd (-n) (-d) (by omega)) (by rw [lz_neg]; exact ld))
    have p5 := divideN_ax (-d) (Nat.gcd (-n).natAbs (-d).natAbs) (by omega) (by rw [lz_neg]; omega) (Nat.le_trans (lz_gcd (-n) (-d) (by omega)) (by rw [lz_neg]; exact ld))
    simp only [NI_eq] at p0 p1 p2 p3 p4 p5 ⊢
    unfold FA
    refine go (cj rTI (cj @dl_idf (cj @dl_ln @dl_one))) ?_
    refine aw_reg fun K hK => ?_; refine rn (cj rTI (cj @dl_idf (cj @dl_ln @dl_one))) ?_; refine cont_pure p0 ?_; refine rn (cj rTI (cj @dl_idf (cj @dl_ln @dl_one))) ?_; refine hK _ _ ?_; clear hK K
    refine ifs ?_ ?_ <;> first | exact nope | intro hb
    refine aw_drw (.two 0 (.two 1 (.one 2 (.one 3 (.one 4 (.one 5 (.done))))) 2 (.one 1 (.one 3 (.one 4 (.one 5 (.done)))))) 2 (.one 0 (.one 1 (.one 3 (.one 4 (.one 5 (.done))))))) [] (by kernel_rfl) (by kernel_rfl) fun K hK => ?_; refine dr (cj rTI (cj @dl_idf (cj @dl_ln @dl_one))) ?_; skip
    have hK2 : ∀ (e : Env) (s' : St), LowI s (-n) (-d) e s' → K e s' := by
      intro e s' hI
      refine hK e s' ?_
      clear hK
      have k0 := hI.en
      have k2 := hI.e2
      have k3 := hI.e3
      have k4 := hI.e4
      have g0 := hI.g0
      have g1 := hI.g1
      have g2 := hI.g2
      have hi := hI.hi
      refine rn trivial ?_
      refine go trivial ?_
      refine aw_reg fun K hK => ?_; refine rn (cj rTI (cj @dl_idf (cj @dl_ln (cj @dl_one (cj @k0 (cj @k2 (cj @k3 (cj @k4 (cj @g0 (cj @g1 @g2)))))))))) ?_; refine cont_pure p3 ?_; refine rn (cj rTI (cj @dl_idf (cj @dl_ln (cj @dl_one (cj @k0 (cj @k2 (cj @k3 (cj @k4 (cj @g0 (cj @g1 @g2)))))))))) ?_; refine hK _ _ ?_; clear hK K
      refine go trivial ?_
      refine aw_reg fun K hK => ?_; refine rn (cj rTI (cj @dl_idf (cj @dl_ln (cj @dl_one (cj @k0 (cj @k2 (cj @k3 (cj @k4 (cj @g0 (cj @g1 @g2)))))))))) ?_; refine cont_pure p4 ?_; refine rn (cj rTI (cj @dl_idf (cj @dl_ln (cj @dl_one (cj @k0 (cj @k2 (cj @k3 (cj @k4 (cj @g0 (cj @g1 @g2)))))))))) ?_; refine hK _ _ ?_; clear hK K
      refine go trivial ?_
      refine aw_reg fun K hK => ?_; refine rn (cj rTI (cj @dl_idf (cj @dl_ln (cj @dl_one (cj @k0 (cj @k2 (cj @k3 (cj @k4 (cj @g0 (cj @g1 @g2)))))))))) ?_; refine cont_pure p5 ?_; refine rn (cj rTI (cj @dl_idf (cj @dl_ln (cj @dl_one (cj @k0 (cj @k2 (cj @k3 (cj @k4 (cj @g0 (cj @g1 @g2)))))))))) ?_; refine hK _ _ ?_; clear hK K
      refine go (cj rTI (cj @dl_idf (cj @dl_ln (cj @dl_one (cj @k0 (cj @k2 (cj @k3 (cj @k4 (cj @g0 (cj @g1 @g2)))))))))) ?_
      (repeat' refine And.intro ?_ ?_) <;> first | exact rfl | (intro i hi; exact rn0 (hI.fr i hi)) | skip
    have fin : ∀ (e : Env) (s' : St), e.n = 35 → e.m 2 = .ptr s.nx 0 → e.m 3 = .ptr (s.nx + 1) 0 → e.m 4 = .ptr (s.nx + 2) 0 → s'.get s.nx = some [.v (.bool (ng (-n))), .sl (lz (-n)) (DL (digs B (-n).natAbs))] →
        s'.get (s.nx + 1) = some [.v (.bool (ng (-d))), .sl (lz (-d)) (DL (digs B (-d).natAbs))] → s'.get (s.nx + 2) = some [.v (.bool false), .v (.slice none 0 0), .v (.bool false), .v (.slice none 0 0)] → s.nx + 3 ≤ s'.nx → (∀ i, i < s.nx → s'.get i = s.get i) → K e s' :=
      fun e s' q0 q1 q2 q3 q4 q5 q6 q7 q8 => hK2 e s' ⟨q0, q1, q2, q3, q4, q5, q6, q7, q8⟩
    refine ⟨⟨?_, ?_⟩, ?_⟩ <;> (refine cont_pure p1 ?_; refine dr (cj rTI (cj @dl_idf (cj @dl_ln @dl_one))) ?_; refine cont_pure p2 ?_; refine dr (cj rTI (cj @dl_idf (cj @dl_ln @dl_one))) ?_; apply fin <;> (try (first | refine rn trivial ?_ | exact rn0 trivial)))
    all_goals (all_goals (first | exact shz | (intro i hi; (first | refine rn trivial ?_ | exact rn0 trivial)) | skip))
  · rw [show low n d = (n.tdiv (Nat.gcd n.natAbs d.natAbs), d.tdiv (Nat.gcd n.natAbs d.natAbs)) by unfold low; rw [if_neg hneg]]
    have hg := Nat.gcd_pos_of_pos_right n.natAbs (n := d.natAbs) (by omega)
    have p3 := commonN_ax n d ln' ld
    have p4 := divideN_ax n (Nat.gcd n.natAbs d.natAbs) (by omega) (by omega) (Nat.le_trans (lz_gcd n d hd) ld)
    have p5 := divideN_ax d (Nat.gcd n.natAbs d.natAbs) (by omega) (by omega) (Nat.le_trans (lz_gcd n d hd) ld)
    simp only [NI_eq] at p0 p1 p2 p3 p4 p5 ⊢
    unfold FA
    refine go (cj rTI (cj @dl_idf (cj @dl_ln @dl_one))) ?_
    refine aw_reg fun K hK => ?_; refine rn (cj rTI (cj @dl_idf (cj @dl_ln @dl_one))) ?_; refine cont_pure p0 ?_; refine rn (cj rTI (cj @dl_idf (cj @dl_ln @dl_one))) ?_; refine hK _ _ ?_; clear hK K
    refine ifs ?_ ?_ <;> first | exact nope | intro hb
    refine go (cj rTI (cj @dl_idf (cj @dl_ln @dl_one))) ?_
    refine aw_reg fun K hK => ?_; refine rn (cj rTI (cj @dl_idf (cj @dl_ln @dl_one))) ?_; refine cont_pure p3 ?_; refine rn (cj rTI (cj @dl_idf (cj @dl_ln @dl_one))) ?_; refine hK _ _ ?_; clear hK K
    refine go (cj rTI (cj @dl_idf (cj @dl_ln @dl_one))) ?_
    refine aw_reg fun K hK => ?_; refine rn (cj rTI (cj @dl_idf (cj @dl_ln @dl_one))) ?_; refine cont_pure p4 ?_; refine rn (cj rTI (cj @dl_idf (cj @dl_ln @dl_one))) ?_; refine hK _ _ ?_; clear hK K
    refine go (cj rTI (cj @dl_idf (cj @dl_ln @dl_one))) ?_
    refine aw_reg fun K hK => ?_; refine rn (cj rTI (cj @dl_idf (cj @dl_ln @dl_one))) ?_; refine cont_pure p5 ?_; refine rn (cj rTI (cj @dl_idf (cj @dl_ln @dl_one))) ?_; refine hK _ _ ?_; clear hK K
    refine go (cj rTI (cj @dl_idf (cj @dl_ln @dl_one))) ?_
    (repeat' refine And.intro ?_ ?_) <;> first | exact rfl | exact fnz trivial | skip

theorem lz_small (z : Int) (h1 : -9223372036854775808 ≤ z) (h2 : z ≤ 9223372036854775807) : lz z ≤ 4 := (ln_lt _ 4).1 (by unfold B; omega)
theorem heldF_ax (a b c d : Int) (ha : lz a ≤ 68719476736) (hb' : lz b ≤ 68719476736) (hc : lz c ≤ 68719476736) (hd : lz d ≤ 68719476736) : PCall Tryz.prog 77 [FA a b, FA c d] (.v (.int .i64 (sgn (a * d - c * b)))) := by
  refine pcall_of fun s => ?_
  refine acall_of Tryz.func77 rfl rfl (by simp [Tryz.ntmps77]) ?_; rw [Tryz.ntmps77, Tryz.results77]
  have l1 := lz_mul a d
  have l2 := lz_mul c b
  have p0 := timesN_ax a d (by omega)
  have p1 := timesN_ax c b (by omega)
  have p2 := heldN_ax (a * d) (c * b) (by omega) (by omega)
  unfold FA
  simp only [NI_eq] at p0 p1 p2
  refine go (cj rTI (cj @dl_idf (cj @dl_ln @dl_one))) ?_
  refine aw_drw (.take 0 (.take 1 (.take 2 (.take 3 (.take 5 (.take 6 (.take 7 (.take 8 (.one 4 (.one 9 (.one 10 (.take 11 (.done))))))))))))) [s.nx, s.nx + 1] (by kernel_rfl) (by kernel_rfl) fun K hK => ?_; refine dr (cj rTI (cj @dl_idf (cj @dl_ln @dl_one))) ?_; refine cont_pure p0 ?_; refine dr (cj rTI (cj @dl_idf (cj @dl_ln @dl_one))) ?_; refine cont_pure p1 ?_; refine dr (cj rTI (cj @dl_idf (cj @dl_ln @dl_one))) ?_; refine cont_pure p2 ?_; refine dr (cj rTI (cj @dl_idf (cj @dl_ln @dl_one))) ?_; refine hK _ _ ?_; clear hK K
  refine go (cj rTI (cj @dl_idf (cj @dl_ln @dl_one))) ?_
  (repeat' refine And.intro ?_ ?_) <;> first | exact rfl | exact fnz trivial | skip
end Go.Proofs.YtfjelkjlfcafgaaGreatDoor.RefK
end
section
/- The document's fractions (layer 2): to the nearest whole number. -/
namespace Go.Proofs.YtfjelkjlfcafgaaGreatDoor.RefL
open Go Go.RowKit Go.Proofs.YtfjelkjlfcafgaaGreatDoor.Ax Go.Proofs.YtfjelkjlfcafgaaGreatDoor.Ti Go.Proofs.YtfjelkjlfcafgaaGreatDoor.BigM Go.Proofs.YtfjelkjlfcafgaaGreatDoor.RefA Go.Proofs.YtfjelkjlfcafgaaGreatDoor.RefB Go.Proofs.YtfjelkjlfcafgaaGreatDoor.RefC Go.Proofs.YtfjelkjlfcafgaaGreatDoor.RefD Go.Proofs.YtfjelkjlfcafgaaGreatDoor.RefE Go.Proofs.YtfjelkjlfcafgaaGreatDoor.RefF Go.Proofs.YtfjelkjlfcafgaaGreatDoor.RefG Go.Proofs.YtfjelkjlfcafgaaGreatDoor.RefH Go.Proofs.YtfjelkjlfcafgaaGreatDoor.RefI Go.Proofs.YtfjelkjlfcafgaaGreatDoor.RefJ Go.Proofs.YtfjelkjlfcafgaaGreatDoor.RefK
set_option linter.unusedSimpArgs false
set_option linter.unusedVariables false
set_option maxRecDepth 4000
theorem rTI : type_of% (cj @ti124 (cj @ti105 (cj @ti63 (cj @ti3 @ti4)))) := cj @ti124 (cj @ti105 (cj @ti63 (cj @ti3 @ti4)))
theorem lz_le {a b : Int} (h : a.natAbs ≤ b.natAbs) : lz a ≤ lz b := ln_mono h
end Go.Proofs.YtfjelkjlfcafgaaGreatDoor.RefL
end
section
/- The document's numbers (layer 3): valid, the value. -/
namespace Go.Proofs.YtfjelkjlfcafgaaGreatDoor.RefM
open Go Go.RowKit Go.Proofs.YtfjelkjlfcafgaaGreatDoor.Ax Go.Proofs.YtfjelkjlfcafgaaGreatDoor.Ti Go.Proofs.YtfjelkjlfcafgaaGreatDoor.BigM Go.Proofs.YtfjelkjlfcafgaaGreatDoor.RefA Go.Proofs.YtfjelkjlfcafgaaGreatDoor.RefB Go.Proofs.YtfjelkjlfcafgaaGreatDoor.RefC Go.Proofs.YtfjelkjlfcafgaaGreatDoor.RefD Go.Proofs.YtfjelkjlfcafgaaGreatDoor.RefE Go.Proofs.YtfjelkjlfcafgaaGreatDoor.RefF Go.Proofs.YtfjelkjlfcafgaaGreatDoor.RefG Go.Proofs.YtfjelkjlfcafgaaGreatDoor.RefH Go.Proofs.YtfjelkjlfcafgaaGreatDoor.RefI Go.Proofs.YtfjelkjlfcafgaaGreatDoor.RefJ Go.Proofs.YtfjelkjlfcafgaaGreatDoor.RefK Go.Proofs.YtfjelkjlfcafgaaGreatDoor.RefL
set_option maxHeartbeats 2000000
set_option linter.unusedSimpArgs false
set_option linter.unusedVariables false
set_option maxRecDepth 4000
theorem rTI : type_of% (cj @ti124 (cj @ti105 (cj @ti63 (cj @ti3 @ti4)))) := cj @ti124 (cj @ti105 (cj @ti63 (cj @ti3 @ti4)))
theorem rTN : type_of% (cj @ti24 (cj @ti2 (cj @ti124 (cj @ti105 (cj @ti63 (cj @ti3 @ti4)))))) := cj @ti24 (cj @ti2 (cj @ti124 (cj @ti105 (cj @ti63 (cj @ti3 @ti4)))))
def NM (m k : Int) : AV := .ag [.v (.int .i64 m), .v (.int .i64 k)]
def validN (m k : Int) : Bool := if m.tmod 10 = 0 then decide (m = 0) && decide (k = 0) else decide (m ≤ 999999999) && decide (-999999999 ≤ m) && decide (k ≤ 9) && decide (-18 ≤ k)
theorem valid_ax (m k : Int) : PCall Tryz.prog 16 [NM m k] (.v (.bool (validN m k))) := by
  refine pcall_of fun s => ?_
  refine acall_of Tryz.func16 rfl rfl (by simp [Tryz.ntmps16]) ?_; rw [Tryz.ntmps16, Tryz.results16]
  unfold NM validN
  by_cases h0 : m = 0
  · subst h0
    by_cases hk : k = 0
    · refine go (cj rTN (cj @dl_idf (cj @dl_ln @dl_one))) ?_
      refine ifs ?_ ?_ <;> first | exact nope | intro hb
      refine go (cj rTN (cj @dl_idf (cj @dl_ln @dl_one))) ?_
      (repeat' refine And.intro ?_ ?_) <;> first | exact rfl | exact fnz trivial | skip
    · refine go (cj rTN (cj @dl_idf (cj @dl_ln @dl_one))) ?_
      refine ifs ?_ ?_ <;> first | exact nope | intro hb
      refine go (cj rTN (cj @dl_idf (cj @dl_ln @dl_one))) ?_
      (repeat' refine And.intro ?_ ?_) <;> first | exact rfl | exact fnz trivial | skip
  · by_cases h1 : m.tmod 10 = 0
    · rw [if_pos h1]
      refine go (cj rTN (cj @dl_idf (cj @dl_ln (cj @dl_one @h1)))) ?_
      refine ifs ?_ ?_ <;> first | exact nope | intro hb
      refine go (cj rTN (cj @dl_idf (cj @dl_ln @dl_one))) ?_
      (repeat' refine And.intro ?_ ?_) <;> first | exact rfl | exact fnz trivial | skip
    · rw [if_neg h1]
      have h2 : (m.tmod 10 == 0) = false := beq_eq_false_iff_ne.2 h1
      refine go (cj rTN (cj @dl_idf (cj @dl_ln (cj @dl_one @h2)))) ?_
      refine ifs ?_ ?_ <;> first | exact nope | intro hb
      by_cases c1 : m ≤ 999999999
      · by_cases c2 : -999999999 ≤ m
        · by_cases c3 : k ≤ 9
          · refine go (cj rTN (cj @dl_idf (cj @dl_ln @dl_one))) ?_
            (repeat' refine And.intro ?_ ?_) <;> first | exact rfl | exact fnz trivial | skip
          · refine go (cj rTN (cj @dl_idf (cj @dl_ln @dl_one))) ?_
            (repeat' refine And.intro ?_ ?_) <;> first | exact rfl | exact fnz trivial | skip
        · refine go (cj rTN (cj @dl_idf (cj @dl_ln @dl_one))) ?_
          (repeat' refine And.intro ?_ ?_) <;> first | exact rfl | exact fnz trivial | skip
      · refine go (cj rTN (cj @dl_idf (cj @dl_ln @dl_one))) ?_
        (repeat' refine And.intro ?_ ?_) <;> first | exact rfl | exact fnz trivial | skip

structure PowI (s : St) (k i : Nat) (e : Env) (s' : St) : Prop where
  en : e.n = 15
  e0 : e.m 0 = .v (.int .i64 k)
  e2 : e.m 2 = .ptr s.nx 0
  e3 : e.m 3 = .ptr (s.nx + 1) 0
  e4 : e.m 4 = .v (.int .i64 i)
  g0 : s'.get s.nx = some [.v (.bool false), .v (.slice none 0 0)]
  g1 : s'.get (s.nx + 1) = some [.v (.bool (ng (10 ^ i : Nat))), .sl (lz (10 ^ i : Nat)) (DL (digs B (10 ^ i)))]
  hi : s.nx + 2 ≤ s'.nx
  fr : ∀ i, i < s.nx → s'.get i = s.get i
  il : i ≤ k
theorem power_ax (k : Nat) (hk : k ≤ 1000000) : PCall Tryz.prog 129 [.v (.int .i64 k)] (NI (10 ^ k : Nat)) := by
  refine pcall_of fun s => ?_
  refine acall_of Tryz.func129 rfl rfl (by simp [Tryz.ntmps129]) ?_; rw [Tryz.ntmps129, Tryz.results129]
  have p1 := small_ax 1 (by omega) (by omega)
  have p10 := small_ax 10 (by omega) (by omega)
  have l10 : lz 10 ≤ 4 := lz_small 10 (by omega) (by omega)
  have lp : ∀ i : Nat, lz (10 ^ i : Nat) ≤ i + 1 := fun i => (ln_lt _ _).1 (by
    rw [Int.natAbs_natCast]
    calc 10 ^ i ≤ B ^ i := Nat.pow_le_pow_left (by decide) _
      _ < B ^ (i + 1) := Nat.pow_lt_pow_right (by decide) (by omega))
  simp only [NI_eq] at p1 p10 ⊢
  refine go (cj rTN (cj @dl_idf (cj @dl_ln @dl_one))) ?_
  refine aw_reg fun K hK => ?_; refine rn (cj rTN (cj @dl_idf (cj @dl_ln @dl_one))) ?_; refine cont_pure p1 ?_; refine rn (cj rTN (cj @dl_idf (cj @dl_ln @dl_one))) ?_; refine hK _ _ ?_; clear hK K
  refine go (cj rTN (cj @dl_idf (cj @dl_ln @dl_one))) ?_
  refine aw_loop (fun n e s' => ∃ i, n = k - i ∧ PowI s k i e s') k ?_ ?_
  · refine ⟨0, by omega, ?_⟩
    constructor <;> (try (first | refine rn (cj rTN (cj @dl_idf (cj @dl_ln @dl_one))) ?_ | exact rn0 (cj rTN (cj @dl_idf (cj @dl_ln @dl_one)))))
    all_goals (first | exact shz | (intro i hi; (first | refine rn trivial ?_ | exact rn0 trivial)) | skip)
  · rintro n e s' ⟨i, hn, hI⟩
    have k0 := hI.en
    have k1 := hI.e0
    have k2 := hI.e2
    have k3 := hI.e3
    have k4 := hI.e4
    have g0 := hI.g0
    have g1 := hI.g1
    have hi := hI.hi
    have il := hI.il
    have pt := timesN_ax (10 ^ i : Nat) 10 (by have := lp i; omega)
    rw [show ((10 ^ i : Nat) : Int) * 10 = ((10 ^ (i + 1) : Nat) : Int) by rw [Nat.pow_succ]; omega] at pt
    simp only [NI_eq, Int.natAbs_natCast] at pt
    by_cases h : i < k
    · refine go (cj rTN (cj @dl_idf (cj @dl_ln (cj @dl_one (cj @k0 (cj @k1 (cj @k2 (cj @k3 (cj @k4 (cj @g0 @g1)))))))))) ?_
      refine ifs ?_ ?_ <;> first | exact nope | intro hb
      refine go (cj rTN (cj @dl_idf (cj @dl_ln (cj @dl_one (cj @k0 (cj @k1 (cj @k2 (cj @k3 (cj @k4 (cj @g0 @g1)))))))))) ?_
      refine aw_drw (.two 0 (.one 1 (.one 2 (.one 3 (.done)))) 1 (.one 0 (.one 2 (.one 3 (.done))))) [] (by kernel_rfl) (by kernel_rfl) fun K hK => ?_; refine dr (cj rTN (cj @dl_idf (cj @dl_ln (cj @dl_one (cj @k0 (cj @k1 (cj @k2 (cj @k3 (cj @k4 (cj @g0 @g1)))))))))) ?_; skip
      refine ⟨?_, ?_⟩
      all_goals (refine cont_pure p10 ?_; refine dr (cj rTN (cj @dl_idf (cj @dl_ln (cj @dl_one (cj @k0 (cj @k1 (cj @k2 (cj @k3 (cj @k4 (cj @g0 @g1)))))))))) ?_; refine cont_pure pt ?_; refine dr (cj rTN (cj @dl_idf (cj @dl_ln (cj @dl_one (cj @k0 (cj @k1 (cj @k2 (cj @k3 (cj @k4 (cj @g0 @g1)))))))))) ?_; refine hK _ _ ?_; clear hK K; refine go (cj rTN (cj @dl_idf (cj @dl_ln (cj @dl_one (cj @k0 (cj @k1 (cj @k2 (cj @k3 (cj @k4 (cj @g0 @g1)))))))))) ?_)
      all_goals (simp only [block_normal, loop_normal]; refine ⟨k - (i + 1), by omega, i + 1, rfl, ?_⟩)
      all_goals (constructor <;> (try (first | refine rn (cj rTN (cj @dl_idf (cj @dl_ln (cj @dl_one (cj @k0 (cj @k1 (cj @k2 (cj @k3 (cj @k4 (cj @g0 @g1)))))))))) ?_ | exact rn0 (cj rTN (cj @dl_idf (cj @dl_ln (cj @dl_one (cj @k0 (cj @k1 (cj @k2 (cj @k3 (cj @k4 (cj @g0 @g1)))))))))))))
      all_goals (all_goals (first | exact shz | (intro i hi; (first | refine rn (hI.fr i hi) ?_ | exact rn0 (hI.fr i hi))) | skip))
    · refine go (cj rTN (cj @dl_idf (cj @dl_ln (cj @dl_one (cj @k0 (cj @k1 (cj @k2 (cj @k3 (cj @k4 (cj @g0 @g1)))))))))) ?_
      refine ifs ?_ ?_ <;> first | exact nope | intro hb
      refine go (cj rTN (cj @dl_idf (cj @dl_ln (cj @dl_one (cj @k0 (cj @k1 (cj @k2 (cj @k3 (cj @k4 (cj @g0 @g1)))))))))) ?_
      obtain rfl : i = k := by omega
      (repeat' refine And.intro ?_ ?_) <;> first | exact rfl | (intro i hi; exact rn0 (cj (hI.fr i hi) @Int.natAbs_natCast)) | skip

def ofN (m k : Int) : Int × Int := if k < 0 then low m ((10 ^ (-k).toNat : Nat) : Int) else (m * ((10 ^ k.toNat : Nat) : Int), 1)
theorem lz_pow (i : Nat) : lz (10 ^ i : Nat) ≤ i + 1 := (ln_lt _ _).1 (by
  rw [Int.natAbs_natCast]
  calc 10 ^ i ≤ B ^ i := Nat.pow_le_pow_left (by decide) _
    _ < B ^ (i + 1) := Nat.pow_lt_pow_right (by decide) (by omega))
theorem ofN_ax (m k : Int) (m1 : -9223372036854775808 ≤ m) (m2 : m ≤ 9223372036854775807) (k1 : -1000 ≤ k) (k2 : k ≤ 1000) : PCall Tryz.prog 70 [NM m k] (FA (ofN m k).1 (ofN m k).2) := by
  refine pcall_of fun s => ?_
  refine acall_of Tryz.func70 rfl rfl (by simp [Tryz.ntmps70]) ?_; rw [Tryz.ntmps70, Tryz.results70]
  have p0 := wide_ax m m1 (by omega)
  have p1 := small_ax 1 (by omega) (by omega)
  have lm := lz_small m m1 m2
  unfold NM
  by_cases hk : k < 0
  · have pp := power_ax (-k).toNat (by omega)
    have lp := lz_pow (-k).toNat
    have h10 : ((10 ^ (-k).toNat : Nat) : Int) ≠ 0 := by
      have : 0 < 10 ^ (-k).toNat := Nat.pow_pos (by decide)
      omega
    have pl := lowest_ax m ((10 ^ (-k).toNat : Nat) : Int) h10 (by omega) (by omega)
    rw [show (((-k).toNat : Nat) : Int) = 0 - k by omega] at pp
    rw [show ofN m k = low m ((10 ^ (-k).toNat : Nat) : Int) by unfold ofN; rw [if_pos hk]]
    generalize ((10 ^ (-k).toNat : Nat) : Int) = u at *
    unfold FA at pl ⊢
    simp only [NI_eq] at p0 p1 pp pl ⊢
    refine go (cj rTN (cj @dl_idf (cj @dl_ln @dl_one))) ?_
    refine aw_reg fun K hK => ?_; refine rn (cj rTN (cj @dl_idf (cj @dl_ln @dl_one))) ?_; refine cont_pure p0 ?_; refine rn (cj rTN (cj @dl_idf (cj @dl_ln @dl_one))) ?_; refine hK _ _ ?_; clear hK K
    refine go (cj rTN (cj @dl_idf (cj @dl_ln @dl_one))) ?_
    refine ifs ?_ ?_ <;> first | exact nope | intro hb
    refine go (cj rTN (cj @dl_idf (cj @dl_ln @dl_one))) ?_
    refine aw_drw (.take 0 (.take 1 (.take 2 (.take 3 (.one 4 (.one 5 (.one 6 (.done)))))))) [s.nx, s.nx + 2] (by kernel_rfl) (by kernel_rfl) fun K hK => ?_; refine dr (cj rTN (cj @dl_idf (cj @dl_ln @dl_one))) ?_; refine cont_pure pp ?_; refine dr (cj rTN (cj @dl_idf (cj @dl_ln @dl_one))) ?_; refine cont_pure pl ?_; refine dr (cj rTN (cj @dl_idf (cj @dl_ln @dl_one))) ?_; refine hK _ _ ?_; clear hK K
    refine go (cj rTN (cj @dl_idf (cj @dl_ln @dl_one))) ?_
    (repeat' refine And.intro ?_ ?_) <;> first | exact rfl | exact fnz trivial | skip
  · have pp := power_ax k.toNat (by omega)
    have lp := lz_pow k.toNat
    have pt := timesN_ax m ((10 ^ k.toNat : Nat) : Int) (by omega)
    rw [show ((k.toNat : Nat) : Int) = k by omega] at pp
    rw [show ofN m k = (m * ((10 ^ k.toNat : Nat) : Int), 1) by unfold ofN; rw [if_neg hk]]
    generalize ((10 ^ k.toNat : Nat) : Int) = u at *
    unfold FA
    simp only [NI_eq] at p0 p1 pp pt ⊢
    refine go (cj rTN (cj @dl_idf (cj @dl_ln @dl_one))) ?_
    refine aw_reg fun K hK => ?_; refine rn (cj rTN (cj @dl_idf (cj @dl_ln @dl_one))) ?_; refine cont_pure p0 ?_; refine rn (cj rTN (cj @dl_idf (cj @dl_ln @dl_one))) ?_; refine hK _ _ ?_; clear hK K
    refine go (cj rTN (cj @dl_idf (cj @dl_ln @dl_one))) ?_
    refine ifs ?_ ?_ <;> first | exact nope | intro hb
    refine go (cj rTN (cj @dl_idf (cj @dl_ln @dl_one))) ?_
    refine aw_drw (.take 0 (.take 1 (.take 2 (.one 3 (.one 4 (.one 5 (.take 6 (.one 7 (.done))))))))) [s.nx, s.nx + 2] (by kernel_rfl) (by kernel_rfl) fun K hK => ?_; refine dr (cj rTN (cj @dl_idf (cj @dl_ln @dl_one))) ?_; refine cont_pure pp ?_; refine dr (cj rTN (cj @dl_idf (cj @dl_ln @dl_one))) ?_; refine cont_pure pt ?_; refine dr (cj rTN (cj @dl_idf (cj @dl_ln @dl_one))) ?_; refine cont_pure p1 ?_; refine dr (cj rTN (cj @dl_idf (cj @dl_ln @dl_one))) ?_; refine hK _ _ ?_; clear hK K
    refine go (cj rTN (cj @dl_idf (cj @dl_ln @dl_one))) ?_
    (repeat' refine And.intro ?_ ?_) <;> first | exact rfl | exact fnz trivial | skip

theorem validN_m (m k : Int) (h : validN m k = true) : -999999999 ≤ m ∧ m ≤ 999999999 ∧ -18 ≤ k ∧ k ≤ 9 := by
  unfold validN at h
  split at h
  · simp only [Bool.and_eq_true, decide_eq_true_eq] at h; omega
  · simp only [Bool.and_eq_true, decide_eq_true_eq] at h; omega
theorem lz_tdiv (a b : Int) : lz (a.tdiv b) ≤ lz a := lz_le (by rw [Int.natAbs_tdiv]; exact Nat.div_le_self _ _)
theorem ofN_lz (m k : Int) (m1 : -9223372036854775808 ≤ m) (m2 : m ≤ 9223372036854775807) (k1 : -1000 ≤ k) (k2 : k ≤ 1000) : lz (ofN m k).1 ≤ 1100 ∧ lz (ofN m k).2 ≤ 1100 := by
  have lm := lz_small m m1 m2
  have l1 := lz_small 1 (by omega) (by omega)
  unfold ofN low
  split
  · have lp := lz_pow (-k).toNat
    split
    · simp only
      refine ⟨Nat.le_trans (lz_tdiv _ _) ?_, Nat.le_trans (lz_tdiv _ _) ?_⟩
      · rw [lz_neg]; omega
      · rw [lz_neg]; omega
    · simp only
      refine ⟨Nat.le_trans (lz_tdiv _ _) ?_, Nat.le_trans (lz_tdiv _ _) ?_⟩
      · omega
      · omega
  · have lp := lz_pow k.toNat
    exact ⟨Nat.le_trans (lz_mul m _) (by omega), by simp only; omega⟩
def cmpNN (m k m' k' : Int) : AV := if validN m k = true ∧ validN m' k' = true then .tp [.v (.int .i64 (sgn ((ofN m k).1 * (ofN m' k').2 - (ofN m' k').1 * (ofN m k).2))), .v (.int .i64 0)] else .tp [.v (.int .i64 0), .v (.int .i64 30)]
theorem low_pos (n d : Int) (hd : d ≠ 0) : 0 < (low n d).2 := by
  have hg : 0 < Nat.gcd n.natAbs d.natAbs := Nat.gcd_pos_of_pos_right _ (by omega)
  have hdv : Nat.gcd n.natAbs d.natAbs ∣ d.natAbs := Nat.gcd_dvd_right _ _
  have hq : 0 < d.natAbs / Nat.gcd n.natAbs d.natAbs := Nat.div_pos (Nat.le_of_dvd (by omega) hdv) hg
  have key : ∀ e : Int, 0 < e → e.natAbs = d.natAbs → 0 < e.tdiv (Nat.gcd n.natAbs d.natAbs : Nat) := by
    intro e he hea
    rw [show e = ((d.natAbs : Nat) : Int) by omega, ← Int.ofNat_tdiv]
    omega
  unfold low
  split
  · exact key (-d) (by omega) (by omega)
  · exact key d (by omega) rfl
theorem ofN_pos (m k : Int) : 0 < (ofN m k).2 := by
  unfold ofN
  split
  · refine low_pos _ _ ?_
    have : 0 < 10 ^ (-k).toNat := Nat.pow_pos (by decide)
    omega
  · simp only; omega
end Go.Proofs.YtfjelkjlfcafgaaGreatDoor.RefM
end
section
/- Package num: Valid, frac, Value, Grid, Cmp: what they give is what the document's give. -/
namespace Go.Proofs.YtfjelkjlfcafgaaGreatDoor.NumA
open Go Go.RowKit Go.Proofs.YtfjelkjlfcafgaaGreatDoor.Ax Go.Proofs.YtfjelkjlfcafgaaGreatDoor.Ti Go.Proofs.YtfjelkjlfcafgaaGreatDoor.BigM Go.Proofs.YtfjelkjlfcafgaaGreatDoor.BigN Go.Proofs.YtfjelkjlfcafgaaGreatDoor.BigA Go.Proofs.YtfjelkjlfcafgaaGreatDoor.BigB Go.Proofs.YtfjelkjlfcafgaaGreatDoor.BigL Go.Proofs.YtfjelkjlfcafgaaGreatDoor.BigF Go.Proofs.YtfjelkjlfcafgaaGreatDoor.BigI Go.Proofs.YtfjelkjlfcafgaaGreatDoor.BigJ Go.Proofs.YtfjelkjlfcafgaaGreatDoor.BigP Go.Proofs.YtfjelkjlfcafgaaGreatDoor.BigQ Go.Proofs.YtfjelkjlfcafgaaGreatDoor.BigR Go.Proofs.YtfjelkjlfcafgaaGreatDoor.BigS Go.Proofs.YtfjelkjlfcafgaaGreatDoor.BigT Go.Proofs.YtfjelkjlfcafgaaGreatDoor.BigU
set_option linter.unusedSimpArgs false
set_option linter.unusedVariables false
set_option maxRecDepth 4000
set_option maxHeartbeats 2000000
theorem rTI : type_of% (cj @ti41 (cj @ti35 (cj @ti165 (cj @ti198 (cj @ti3 (cj @ti2 (cj @ti4 (cj @ti176 (cj @ti178 (cj @ti43 (cj @ti45 (cj @ti186 (cj @ti25 @ti24))))))))))))) := cj @ti41 (cj @ti35 (cj @ti165 (cj @ti198 (cj @ti3 (cj @ti2 (cj @ti4 (cj @ti176 (cj @ti178 (cj @ti43 (cj @ti45 (cj @ti186 (cj @ti25 @ti24))))))))))))

def NM (m k : Int) : AV := .ag [.v (.int .i64 m), .v (.int .i64 k)]
def validN (m k : Int) : Bool := RefM.validN m k
theorem validN_def (m k : Int) : validN m k = if m.tmod 10 = 0 then decide (m = 0) && decide (k = 0) else decide (m ≤ 999999999) && decide (-999999999 ≤ m) && decide (k ≤ 9) && decide (-18 ≤ k) := rfl
theorem valid_ax (m k : Int) : PCall Tryz.prog 18 [NM m k] (.v (.bool (validN m k))) := by
  refine pcall_of fun s => ?_
  have hv := validN_def m k
  unfold NM
  refine acall_of Tryz.func18 rfl rfl (by simp [Tryz.ntmps18]) ?_; rw [Tryz.ntmps18, Tryz.results18]
  by_cases q0 : m = 0
  · subst q0
    rw [if_pos (by decide)] at hv
    by_cases q1 : k = 0
    · rw [show validN 0 k = true by rw [hv]; simp [q1]]
      refine go (cj rTI (cj @wl_idf @wl_one)) ?_
      refine ifs ?_ ?_ <;> first | exact nope | intro hb
      refine go (cj rTI (cj @wl_idf @wl_one)) ?_
      exact fun i hi => if_neg (by omega)
    · rw [show validN 0 k = false by rw [hv]; simp [q1]]
      refine go (cj rTI (cj @wl_idf @wl_one)) ?_
      refine ifs ?_ ?_ <;> first | exact nope | intro hb
      refine go (cj rTI (cj @wl_idf @wl_one)) ?_
      exact fun i hi => if_neg (by omega)
  · by_cases c1 : -999999999 ≤ m
    · by_cases c2 : m ≤ 999999999
      · by_cases c3 : m.tmod 10 = 0
        · have h2 : (m.tmod 10 != 0) = false := by rw [c3]; rfl
          rw [show validN m k = false by rw [hv, if_pos c3]; simp [q0]]
          clear hv c3
          refine go (cj rTI (cj @wl_idf @wl_one)) ?_
          refine ifs ?_ ?_ <;> first | exact nope | intro hb
          refine go (cj rTI (cj @wl_idf (cj @wl_one @h2))) ?_
          exact fun i hi => if_neg (by omega)
        · have h2 : (m.tmod 10 != 0) = true := bne_iff_ne.2 c3
          rw [if_neg c3] at hv
          clear c3
          by_cases c4 : -18 ≤ k
          · by_cases c5 : k ≤ 9
            · rw [show validN m k = true by rw [hv]; simp [c1, c2, c4, c5]]
              clear hv
              refine go (cj rTI (cj @wl_idf @wl_one)) ?_
              refine ifs ?_ ?_ <;> first | exact nope | intro hb
              refine go (cj rTI (cj @wl_idf (cj @wl_one @h2))) ?_
              exact fun i hi => if_neg (by omega)
            · rw [show validN m k = false by rw [hv]; simp [c5]]
              clear hv
              refine go (cj rTI (cj @wl_idf @wl_one)) ?_
              refine ifs ?_ ?_ <;> first | exact nope | intro hb
              refine go (cj rTI (cj @wl_idf (cj @wl_one @h2))) ?_
              exact fun i hi => if_neg (by omega)
          · rw [show validN m k = false by rw [hv]; simp [c4]]
            clear hv
            refine go (cj rTI (cj @wl_idf @wl_one)) ?_
            refine ifs ?_ ?_ <;> first | exact nope | intro hb
            refine go (cj rTI (cj @wl_idf (cj @wl_one @h2))) ?_
            exact fun i hi => if_neg (by omega)
      · rw [show validN m k = false by rw [hv]; simp [c2, q0]]
        clear hv
        refine go (cj rTI (cj @wl_idf @wl_one)) ?_
        refine ifs ?_ ?_ <;> first | exact nope | intro hb
        refine go (cj rTI (cj @wl_idf @wl_one)) ?_
        exact fun i hi => if_neg (by omega)
    · rw [show validN m k = false by rw [hv]; simp [c1, q0]]
      clear hv
      refine go (cj rTI (cj @wl_idf @wl_one)) ?_
      refine ifs ?_ ?_ <;> first | exact nope | intro hb
      refine go (cj rTI (cj @wl_idf @wl_one)) ?_
      exact fun i hi => if_neg (by omega)
theorem ofN_def (m k : Int) : RefM.ofN m k = if k < 0 then low m ((10 ^ (-k).toNat : Nat) : Int) else (m * ((10 ^ k.toNat : Nat) : Int), 1) := rfl
theorem low_one (x : Int) : low x 1 = (x, 1) := by
  unfold low
  simp
theorem pow_lw (k : Nat) (hk : k ≤ 100) : lw ((10 ^ k : Nat) : Int).natAbs ≤ 101 := by
  rw [Int.natAbs_natCast]
  exact Nat.le_trans (ten_lw k) (by omega)
theorem frac_ax (s : St) (m k : Int) (m1 : -9223372036854775808 ≤ m) (m2 : m ≤ 9223372036854775807) (k1 : -100 ≤ k) (k2 : k ≤ 100) :
    ACall Tryz.prog 68 [NM m k] s fun r s' => ∃ id, r = .ptr id 0 ∧ NewR s s' id (RefM.ofN m k).1 (RefM.ofN m k).2 := by
  have hdef := ofN_def m k
  unfold NM
  have p0 : (s.push [.v (.int .i64 m), .v (.int .i64 k)]).get s.nx = some [.v (.int .i64 m), .v (.int .i64 k)] := St.push_same _ _
  have pn : (s.push [.v (.int .i64 m), .v (.int .i64 k)]).nx = s.nx + 1 := rfl
  have po : ∀ i, i < s.nx → (s.push [.v (.int .i64 m), .v (.int .i64 k)]).get i = s.get i := fun i hi => St.push_ne _ _ _ (by omega)
  have lm : lw m.natAbs ≤ 2 := (lw_two _).2 (by omega)
  obtain ⟨K0, hK0⟩ : ∃ K0 : Nat, K0 = k.natAbs := ⟨_, rfl⟩
  have hmax : (if -k > k then -k else k) = (K0 : Int) := by split <;> omega
  have lp := pow_lw K0 (by omega)
  refine acall_of Tryz.func68 rfl rfl (by simp [Tryz.ntmps68]) ?_; rw [Tryz.ntmps68, Tryz.results68]
  refine go (cj rTI (cj @wl_idf @wl_one)) ?_
  generalize s.push [.v (.int .i64 m), .v (.int .i64 k)] = t at *
  have c1 := ten_ax t K0 (by omega)
  refine aw_reg fun K hK => ?_; refine rn (cj rTI (cj @wl_idf (cj @wl_one (cj @p0 (cj @hmax @Int.zero_sub))))) ?_; refine cont_go c1 ?_; rintro _ s1 ⟨i1, rfl, w1⟩; refine rn (cj rTI (cj @wl_idf (cj @wl_one (cj @p0 (cj @hmax @Int.zero_sub))))) ?_; refine hK _ _ ?_; clear hK K
  clear hmax
  rw [then_normal]
  have n1 := w1.nx
  have l1 := w1.lo
  have h1 := w1.lt
  have p1 : s1.get s.nx = some [.v (.int .i64 m), .v (.int .i64 k)] := by rw [w1.fr _ (by omega)]; exact p0
  have c2 := newInt_ax s1 m m1 m2
  by_cases q : k < 0
  · rw [if_pos q, show (-k).toNat = K0 by omega] at hdef
    rw [hdef]
    refine go (cj rTI (cj @wl_idf (cj @wl_one @p1))) ?_
    refine ifs ?_ ?_ <;> first | exact nope | intro hb
    refine aw_seq ?_
    have hne : ((10 ^ K0 : Nat) : Int) ≠ 0 := by
      have := Nat.pow_pos (n := K0) (show 0 < 10 by decide)
      omega
    refine aw_reg fun K hK => ?_; refine rn (cj rTI (cj @wl_idf (cj @wl_one @p1))) ?_; refine cont_go c2 ?_; rintro _ s2 ⟨i2, rfl, w2⟩; have n2 := w2.nx; refine rn (cj rTI (cj @wl_idf @wl_one)) ?_; refine cont_go (newRat_frac s2 i2 0 i1 0 m _ w2.rdP (w2.otherR w1.rdP) hne (by omega) (by omega)) ?_; rintro _ s3 ⟨i3, rfl, w3⟩; refine rn (cj rTI (cj @wl_idf (cj @wl_one @p1))) ?_; refine hK _ _ ?_; clear hK K
    refine go trivial ?_
    have l3 := w3.lo
    exact ⟨i3, rfl, by omega, w3.lt, w3.g, fun i hi => by rw [w3.fr i (by omega), w2.fr i (by omega), w1.fr i (by omega), po i hi]⟩
  · rw [if_neg q, show k.toNat = K0 by omega] at hdef
    rw [hdef]
    refine go (cj rTI (cj @wl_idf (cj @wl_one @p1))) ?_
    refine ifs ?_ ?_ <;> first | exact nope | intro hb
    refine go trivial ?_
    refine aw_reg fun K hK => ?_
    refine rn (cj rTI (cj @wl_idf (cj @wl_one @p1))) ?_
    refine cont_go c2 ?_
    rintro _ s2 ⟨i2, rfl, w2⟩
    have n2 := w2.nx
    have l2 := w2.lo
    have lmul : lw (((10 ^ K0 : Nat) : Int) * m).natAbs ≤ 1000000000000 := by
      rw [Int.natAbs_mul]
      exact Nat.le_trans (lw_mul _ _) (by omega)
    have c3 := mul_ax s2 i1 i1 0 i2 0 _ m (w2.otherD w1.dst) (w2.otherR w1.rdP) w2.rdP (by omega)
    refine rn (cj rTI (cj @wl_idf @wl_one)) ?_
    refine cont_go c3 ?_
    rintro _ s3 ⟨rfl, w3⟩
    have n3 := w3.nx
    refine rn (cj rTI (cj @wl_idf @wl_one)) ?_
    refine cont_go (newInt_ax s3 1 (by decide) (by decide)) ?_
    rintro _ s4 ⟨i4, rfl, w4⟩
    have n4 := w4.nx
    have c5 := newRat_frac s4 i1 0 i4 0 _ 1 (w4.otherR w3.rdP) w4.rdP (by decide) lmul (Nat.le_trans (pow_lw 0 (by decide)) (by decide))
    rw [low_one, Int.mul_comm _ m] at c5
    refine rn (cj rTI (cj @wl_idf @wl_one)) ?_
    refine cont_go c5 ?_
    rintro _ s5 ⟨i5, rfl, w5⟩
    refine rn (cj rTI (cj @wl_idf @wl_one)) ?_
    refine hK _ _ ?_
    clear hK K
    refine go trivial ?_
    have l5 := w5.lo
    exact ⟨i5, rfl, by omega, w5.lt, w5.g, fun i hi => by rw [w5.fr i (by omega), w4.fr i (by omega), w3.fr i (by omega) (by omega), w2.fr i (by omega), w1.fr i (by omega), po i hi]⟩
end Go.Proofs.YtfjelkjlfcafgaaGreatDoor.NumA
end
section
/- Package num: Value, Grid, Cmp: what they give is what the document's give. -/
namespace Go.Proofs.YtfjelkjlfcafgaaGreatDoor.NumB
open Go Go.RowKit Go.Proofs.YtfjelkjlfcafgaaGreatDoor.Ax Go.Proofs.YtfjelkjlfcafgaaGreatDoor.Ti Go.Proofs.YtfjelkjlfcafgaaGreatDoor.BigM Go.Proofs.YtfjelkjlfcafgaaGreatDoor.BigN Go.Proofs.YtfjelkjlfcafgaaGreatDoor.BigA Go.Proofs.YtfjelkjlfcafgaaGreatDoor.BigB Go.Proofs.YtfjelkjlfcafgaaGreatDoor.BigL Go.Proofs.YtfjelkjlfcafgaaGreatDoor.BigF Go.Proofs.YtfjelkjlfcafgaaGreatDoor.BigI Go.Proofs.YtfjelkjlfcafgaaGreatDoor.BigJ Go.Proofs.YtfjelkjlfcafgaaGreatDoor.BigP Go.Proofs.YtfjelkjlfcafgaaGreatDoor.BigQ Go.Proofs.YtfjelkjlfcafgaaGreatDoor.BigR Go.Proofs.YtfjelkjlfcafgaaGreatDoor.BigS Go.Proofs.YtfjelkjlfcafgaaGreatDoor.BigT Go.Proofs.YtfjelkjlfcafgaaGreatDoor.BigU Go.Proofs.YtfjelkjlfcafgaaGreatDoor.NumA
set_option linter.unusedSimpArgs false
set_option linter.unusedVariables false
set_option maxRecDepth 4000
set_option maxHeartbeats 2000000
theorem rTI : type_of% (cj @ti41 (cj @ti35 (cj @ti165 (cj @ti198 (cj @ti3 (cj @ti2 (cj @ti4 (cj @ti176 (cj @ti178 (cj @ti43 (cj @ti45 (cj @ti186 (cj @ti25 @ti24))))))))))))) := cj @ti41 (cj @ti35 (cj @ti165 (cj @ti198 (cj @ti3 (cj @ti2 (cj @ti4 (cj @ti176 (cj @ti178 (cj @ti43 (cj @ti45 (cj @ti186 (cj @ti25 @ti24))))))))))))

theorem lw_abs_mul (a b : Int) (i j : Nat) (h1 : lw a.natAbs ≤ i) (h2 : lw b.natAbs ≤ j) : lw (a * b).natAbs ≤ i + j := by
  rw [Int.natAbs_mul]
  exact Nat.le_trans (lw_mul _ _) (by omega)
theorem ofN_lw (m k : Int) (m1 : -9223372036854775808 ≤ m) (m2 : m ≤ 9223372036854775807) (k1 : -100 ≤ k) (k2 : k ≤ 100) : lw (RefM.ofN m k).1.natAbs ≤ 103 ∧ lw (RefM.ofN m k).2.natAbs ≤ 103 := by
  have lm : lw m.natAbs ≤ 2 := (lw_two _).2 (by omega)
  rw [ofN_def]
  by_cases q : k < 0
  · rw [if_pos q]
    have h := low_lw m ((10 ^ (-k).toNat : Nat) : Int)
    have h2 := pow_lw (-k).toNat (by omega)
    omega
  · rw [if_neg q]
    have h2 := pow_lw k.toNat (by omega)
    refine ⟨by have := lw_abs_mul m _ 2 101 lm h2; omega, Nat.le_trans (pow_lw 0 (by decide)) (by decide)⟩
theorem validN_m (m k : Int) (h : validN m k = true) : -999999999 ≤ m ∧ m ≤ 999999999 ∧ -18 ≤ k ∧ k ≤ 9 := RefM.validN_m m k h
theorem cmpNN_eq (m k m' k' : Int) : RefM.cmpNN m k m' k' = if validN m k = true ∧ validN m' k' = true then .tp [.v (.int .i64 (sgn ((RefM.ofN m k).1 * (RefM.ofN m' k').2 - (RefM.ofN m' k').1 * (RefM.ofN m k).2))), .v (.int .i64 0)] else .tp [.v (.int .i64 0), .v (.int .i64 30)] := rfl
theorem cmp_ax (m k m' k' : Int) : PCall Tryz.prog 25 [NM m k, NM m' k'] (RefM.cmpNN m k m' k') := by
  refine pcall_of fun s => ?_
  have hv := valid_ax m k
  have hv2 := valid_ax m' k'
  have he := cmpNN_eq m k m' k'
  have t0 := two_g0 s [.v (.int .i64 m), .v (.int .i64 k)] [.v (.int .i64 m'), .v (.int .i64 k')]
  have t1 := two_g1 s [.v (.int .i64 m), .v (.int .i64 k)] [.v (.int .i64 m'), .v (.int .i64 k')]
  have to := two_old s [.v (.int .i64 m), .v (.int .i64 k)] [.v (.int .i64 m'), .v (.int .i64 k')]
  have tn := two_nx s [.v (.int .i64 m), .v (.int .i64 k)] [.v (.int .i64 m'), .v (.int .i64 k')]
  have hf := fun s (h : validN m k = true) => frac_ax s m k (by have := validN_m m k h; omega) (by have := validN_m m k h; omega) (by have := validN_m m k h; omega) (by have := validN_m m k h; omega)
  have hf2 := fun s (h : validN m' k' = true) => frac_ax s m' k' (by have := validN_m m' k' h; omega) (by have := validN_m m' k' h; omega) (by have := validN_m m' k' h; omega) (by have := validN_m m' k' h; omega)
  have hl := fun (h : validN m k = true) => ofN_lw m k (by have := validN_m m k h; omega) (by have := validN_m m k h; omega) (by have := validN_m m k h; omega) (by have := validN_m m k h; omega)
  have hl2 := fun (h : validN m' k' = true) => ofN_lw m' k' (by have := validN_m m' k' h; omega) (by have := validN_m m' k' h; omega) (by have := validN_m m' k' h; omega) (by have := validN_m m' k' h; omega)
  have hp := RefM.ofN_pos m k
  have hp2 := RefM.ofN_pos m' k'
  unfold NM at *
  by_cases q : validN m k = true
  · by_cases q2 : validN m' k' = true
    · rw [if_pos ⟨q, q2⟩] at he
      rw [q] at hv
      rw [q2] at hv2
      rw [he]
      have hf := fun s => hf s q
      have hf2 := fun s => hf2 s q2
      have hl := hl q
      have hl2 := hl2 q2
      clear he q q2
      generalize (RefM.ofN m k).1 = a at *
      generalize (RefM.ofN m k).2 = b at *
      generalize (RefM.ofN m' k').1 = c at *
      generalize (RefM.ofN m' k').2 = d at *
      refine acall_of Tryz.func25 rfl rfl (by simp [Tryz.ntmps25]) ?_; rw [Tryz.ntmps25, Tryz.results25]
      refine go (cj rTI (cj @wl_idf @wl_one)) ?_
      generalize (s.push [.v (.int .i64 m), .v (.int .i64 k)]).push [.v (.int .i64 m'), .v (.int .i64 k')] = t at *
      refine aw_reg fun K hK => ?_; refine rn (cj rTI (cj @wl_idf (cj @wl_one (cj @t0 @t1)))) ?_; refine cont_pure hv ?_; refine rn (cj rTI (cj @wl_idf (cj @wl_one (cj @t0 @t1)))) ?_; refine cont_pure hv2 ?_; refine rn (cj rTI (cj @wl_idf (cj @wl_one (cj @t0 @t1)))) ?_; refine hK _ _ ?_; clear hK K
      rw [then_normal]
      refine ifs ?_ ?_ <;> first | exact nope | intro hb
      refine go trivial ?_
      refine aw_drw (.take 0 (.take 2 (.one 1 (.one 3 (.one 4 (.take 5 (.take 6 (.done)))))))) [s.nx, s.nx + 1] (by kernel_rfl) (by kernel_rfl) fun K hK => ?_; refine dr (cj rTI (cj @wl_idf (cj @wl_one (cj @t0 @t1)))) ?_; refine cont_go (hf t) ?_; rintro _ s1 ⟨i1, rfl, m1⟩; have n1 := m1.nx; have k1 := m1.lt; have f0 := m1.fr s.nx (by omega); have f1 := m1.fr (s.nx + 1) (by omega); refine dr (cj rTI (cj @wl_idf (cj @wl_one (cj @t0 @t1)))) ?_; refine ⟨⟨by rw [f0, t0], by rw [f1, t1]⟩, ?_⟩; refine cont_go (hf2 s1) ?_; rintro _ s2 ⟨i2, rfl, m2⟩; have n2 := m2.nx; have f2 := m2.fr s.nx (by omega); have f3 := m2.fr (s.nx + 1) (by omega); have r3 := cmpR_ax s2 i1 i2 a b c d (m1.rat.mono n2 (m2.fr _ k1)) m2.rat hp hp2 (by omega) (by omega); refine dr (cj rTI (cj @wl_idf (cj @wl_one (cj @t0 @t1)))) ?_; refine ⟨⟨f2, f3⟩, ?_⟩; refine cont_go r3 ?_; rintro _ s3 ⟨rfl, rfl⟩; refine dr (cj rTI (cj @wl_idf (cj @wl_one (cj @t0 @t1)))) ?_; refine hK _ _ ?_; clear hK K
      refine go (cj rTI (cj @wl_idf @wl_one)) ?_
      intro i hi
      rw [m2.fr i (by omega), m1.fr i (by omega), to i hi]
    · have q2' : validN m' k' = false := by simpa using q2
      rw [if_neg (fun h => q2 h.2)] at he
      rw [q] at hv
      rw [q2'] at hv2
      rw [he]
      refine acall_of Tryz.func25 rfl rfl (by simp [Tryz.ntmps25]) ?_; rw [Tryz.ntmps25, Tryz.results25]
      refine go (cj rTI (cj @wl_idf @wl_one)) ?_
      refine aw_reg fun K hK => ?_; refine rn (cj rTI (cj @wl_idf @wl_one)) ?_; refine cont_pure hv ?_; refine rn (cj rTI (cj @wl_idf @wl_one)) ?_; refine cont_pure hv2 ?_; refine rn (cj rTI (cj @wl_idf @wl_one)) ?_; refine hK _ _ ?_; clear hK K
      rw [then_normal]
      refine ifs ?_ ?_ <;> first | exact nope | intro hb
      refine go trivial ?_
      exact to
  · have q' : validN m k = false := by simpa using q
    rw [if_neg (fun h => q h.1)] at he
    rw [q'] at hv
    rw [he]
    refine acall_of Tryz.func25 rfl rfl (by simp [Tryz.ntmps25]) ?_; rw [Tryz.ntmps25, Tryz.results25]
    refine go (cj rTI (cj @wl_idf @wl_one)) ?_
    refine aw_reg fun K hK => ?_; refine rn (cj rTI (cj @wl_idf @wl_one)) ?_; refine cont_pure hv ?_; refine rn (cj rTI (cj @wl_idf @wl_one)) ?_; refine hK _ _ ?_; clear hK K
    rw [then_normal]
    refine ifs ?_ ?_ <;> first | exact nope | intro hb
    refine go trivial ?_
    exact to
end Go.Proofs.YtfjelkjlfcafgaaGreatDoor.NumB
end
section
/- Plain lists: the texts of decimal numbers: what a text says, and the one form. -/
namespace Go.Proofs.YtfjelkjlfcafgaaGreatDoor.NumS
open Go.Proofs.YtfjelkjlfcafgaaGreatDoor.BigM
set_option linter.unusedVariables false

def isD (c : Nat) : Bool := decide (48 ≤ c) && decide (c ≤ 57)
theorem isD_iff (c : Nat) : isD c = true ↔ 48 ≤ c ∧ c ≤ 57 := by unfold isD; simp
def fr : List Nat → List Nat
  | [] => []
  | c :: l => if isD c then c :: fr l else []
def bk : List Nat → List Nat
  | [] => []
  | c :: l => if isD c then bk l else c :: l
theorem fr_bk : ∀ l, fr l ++ bk l = l
  | [] => rfl
  | c :: l => by
    rw [fr, bk]
    split
    · rw [List.cons_append, fr_bk l]
    · rfl
theorem fr_all : ∀ l, ∀ c ∈ fr l, isD c = true
  | [], c, h => by cases h
  | a :: l, c, h => by
    rw [fr] at h
    split at h
    · rcases List.mem_cons.1 h with rfl | h
      · assumption
      · exact fr_all l c h
    · cases h
theorem fr_app : ∀ (a b : List Nat), (∀ c ∈ a, isD c = true) → (∀ c, b.head? = some c → isD c = false) → fr (a ++ b) = a ∧ bk (a ++ b) = b
  | [], b, _, hb => by
    cases b with
    | nil => exact ⟨rfl, rfl⟩
    | cons c l =>
      have := hb c rfl
      rw [List.nil_append, fr, bk, if_neg (by rw [this]; simp), if_neg (by rw [this]; simp)]
      exact ⟨rfl, rfl⟩
  | c :: a, b, ha, hb => by
    have h1 := ha c (by simp)
    obtain ⟨e1, e2⟩ := fr_app a b (fun d hd => ha d (List.mem_cons_of_mem _ hd)) hb
    rw [List.cons_append, fr, bk, if_pos h1, if_pos h1, e1, e2]
    exact ⟨rfl, rfl⟩
def digV (l : List Nat) : Nat := l.foldl (fun a c => 10 * a + (c - 48)) 0
theorem digV_snoc (l : List Nat) (c : Nat) : digV (l ++ [c]) = 10 * digV l + (c - 48) := by unfold digV; rw [List.foldl_append]; rfl
theorem digV_zeros (l : List Nat) (n : Nat) : digV (l ++ List.replicate n 48) = digV l * 10 ^ n := by
  induction n with
  | zero => simp
  | succ n ih => rw [List.replicate_succ', ← List.append_assoc, digV_snoc, ih, Nat.pow_succ, Nat.mul_comm 10, Nat.mul_assoc]; rfl
theorem digV_dec (n : Nat) : digV (((digs 10 n).reverse).map fun d => 48 + d) = n := by
  have : ∀ l : List Nat, digV ((l.reverse).map fun d => 48 + d) = val 10 l := by
    intro l
    induction l with
    | nil => rfl
    | cons d l ih => rw [List.reverse_cons, List.map_append, List.map_cons, List.map_nil, digV_snoc, ih, val]; omega
  rw [this, val_digs 10 (by decide)]
def strip (m : Nat) (x : Int) : Nat × Int := if h : 0 < m ∧ m % 10 = 0 then strip (m / 10) (x + 1) else (m, x)
termination_by m
decreasing_by exact Nat.div_lt_self h.1 (by decide)
theorem strip_stop (m : Nat) (x : Int) (h : ¬ (0 < m ∧ m % 10 = 0)) : strip m x = (m, x) := by rw [strip, dif_neg h]
theorem strip_go (m : Nat) (x : Int) (h : 0 < m) : strip (m * 10) x = strip m (x + 1) := by
  rw [strip, dif_pos ⟨by omega, by omega⟩, Nat.mul_div_cancel _ (by decide)]
theorem strip_pow (m : Nat) (h : 0 < m) (n : Nat) : ∀ x, strip (m * 10 ^ n) x = strip m (x + n) := by
  induction n with
  | zero => intro x; simp
  | succ n ih =>
    intro x
    rw [Nat.pow_succ, ← Nat.mul_assoc, strip_go _ _ (Nat.mul_pos h (Nat.pow_pos (by decide))), ih]
    congr 1
    omega
def two : List Nat → Option Int
  | [a] => if isD a then some ((a : Int) - 48) else none
  | [a, b] => if isD a && isD b then some (10 * ((a : Int) - 48) + ((b : Int) - 48)) else none
  | _ => none
def expS : List Nat → Option Int
  | 45 :: r => (two r).map fun v => -v
  | 43 :: r => two r
  | r => two r
def lettersS : List Nat → Option Int
  | [] => some 0
  | [102] => some (-15)
  | [112] => some (-12)
  | [110] => some (-9)
  | [117] => some (-6)
  | [109] => some (-3)
  | [107] => some 3
  | [109, 101, 103] => some 6
  | [103] => some 9
  | [116] => some 12
  | 101 :: r => expS r
  | _ => none
def finS (neg : Bool) (m : Nat) (x : Int) : Int × Int × Int :=
  if m = 0 then (0, 0, 0)
  else if (strip m x).1 ≤ 999999999 ∧ -18 ≤ (strip m x).2 ∧ (strip m x).2 ≤ 9 then (if neg then -((strip m x).1 : Int) else (strip m x).1, (strip m x).2, 0)
  else (0, 0, 30)
def bodyS (neg : Bool) (r : List Nat) : Int × Int × Int :=
  if fr r = [] then (0, 0, 3)
  else match bk r with
  | 46 :: q => if fr q = [] then (0, 0, 3) else match lettersS (bk q) with
    | none => (0, 0, 3)
    | some e => finS neg (digV (fr r ++ fr q)) (e - (fr q).length)
  | q => match lettersS q with
    | none => (0, 0, 3)
    | some e => finS neg (digV (fr r)) e
def parseS (l : List Nat) : Int × Int × Int :=
  if 32 < l.length then (0, 0, 3)
  else match l with
  | 45 :: r => bodyS true r
  | r => bodyS false r
def decN (n : Nat) : List Nat := ((digs 10 n).reverse).map fun d => 48 + d
def decS (z : Int) : List Nat := if z = 0 then [48] else (if z < 0 then [45] else []) ++ decN z.natAbs
theorem decN_isD (n : Nat) : ∀ c ∈ decN n, isD c = true := by
  intro c hc
  obtain ⟨d, hd, rfl⟩ := List.mem_map.1 hc
  have := digs_lt 10 (by decide) n d (List.mem_reverse.1 hd)
  rw [isD_iff]
  omega
theorem decN_nil (n : Nat) (h : 0 < n) : decN n ≠ [] := by
  unfold decN
  intro e
  have := congrArg List.length e
  rw [List.length_map, List.length_reverse, List.length_nil, List.length_eq_zero_iff, digs_nil 10 (by decide)] at this
  omega
theorem decN_len (n k : Nat) (h : n < 10 ^ k) : (decN n).length ≤ k := by
  unfold decN
  rw [List.length_map, List.length_reverse]
  exact (digs_length_le 10 (by decide) k n).2 h
def letterS (k : Nat) : List Nat := [[102], [112], [110], [117], [109], [], [107], [109, 101, 103], [103], [116]].getD k []
theorem letter_reads (k : Nat) (h : k < 10) : lettersS (letterS k) = some (3 * (k : Int) - 15) ∧ (∀ c, (letterS k).head? = some c → isD c = false ∧ c ≠ 46) ∧ (letterS k).length ≤ 3 := by
  have : k = 0 ∨ k = 1 ∨ k = 2 ∨ k = 3 ∨ k = 4 ∨ k = 5 ∨ k = 6 ∨ k = 7 ∨ k = 8 ∨ k = 9 := by omega
  rcases this with rfl | rfl | rfl | rfl | rfl | rfl | rfl | rfl | rfl | rfl <;> refine ⟨by simp [letterS, lettersS], ?_, by simp [letterS]⟩ <;> intro c hc <;> simp [letterS] at hc <;> subst hc <;> decide
theorem body_plain (neg : Bool) (a q : List Nat) (e : Int) (ha : ∀ c ∈ a, isD c = true) (h0 : a ≠ []) (hq : ∀ c, q.head? = some c → isD c = false ∧ c ≠ 46) (he : lettersS q = some e) : bodyS neg (a ++ q) = finS neg (digV a) e := by
  obtain ⟨e1, e2⟩ := fr_app a q ha (fun c hc => (hq c hc).1)
  unfold bodyS
  rw [e1, e2, if_neg h0]
  split
  · exact absurd rfl (hq 46 rfl).2
  · rw [he]
def textS (m x : Int) : List Nat :=
  if x < -15 then decS m ++ [101, 45] ++ decN x.natAbs
  else decS m ++ List.replicate ((x + 15) % 3).toNat 48 ++ letterS ((x + 15) / 3).toNat
def okN (m x : Int) : Prop := if m.tmod 10 = 0 then m = 0 ∧ x = 0 else m ≤ 999999999 ∧ -999999999 ≤ m ∧ x ≤ 9 ∧ -18 ≤ x
theorem fin_ok (neg : Bool) (m : Nat) (n : Nat) (x y : Int) (h0 : 0 < m) (hm : m ≤ 999999999) (hz : m % 10 ≠ 0) (hx : y = x + n) (h1 : -18 ≤ y) (h2 : y ≤ 9) : finS neg (m * 10 ^ n) x = (if neg then -(m : Int) else m, y, 0) := by
  have hp : 0 < m * 10 ^ n := Nat.mul_pos h0 (Nat.pow_pos (by decide))
  have e : strip (m * 10 ^ n) x = (m, y) := by rw [strip_pow m h0, strip_stop _ _ (fun q => hz q.2), hx]
  unfold finS
  rw [if_neg (by omega), e]
  simp only
  rw [if_pos ⟨hm, h1, h2⟩]
theorem dec_two (n : Nat) (h : n = 16 ∨ n = 17 ∨ n = 18) : lettersS (101 :: 45 :: decN n) = some (-(n : Int)) := by
  rcases h with rfl | rfl | rfl <;> simp [decN, digs_pos, digs_zero, lettersS, expS, two, isD]
theorem neg_split (m : Int) (h : m ≠ 0) (r : List Nat) : (decS m ++ r) = (if m < 0 then 45 :: (decN m.natAbs ++ r) else decN m.natAbs ++ r) := by
  unfold decS
  rw [if_neg h]
  split <;> simp
theorem parse_sign (neg : Bool) (a r : List Nat) (ha : ∀ c ∈ a, isD c = true) (h0 : a ≠ []) (hl : (a ++ r).length ≤ 31) : parseS (if neg then 45 :: (a ++ r) else a ++ r) = bodyS neg (a ++ r) := by
  unfold parseS
  cases neg with
  | true =>
    rw [if_neg (by simp only [if_true, List.length_cons]; omega)]
    rfl
  | false =>
    rw [if_neg (by simp only [Bool.false_eq_true, if_false]; omega)]
    cases a with
    | nil => exact absurd rfl h0
    | cons c a =>
      have := (isD_iff c).1 (ha c (by simp))
      simp only [Bool.false_eq_true, if_false, List.cons_append]
      split
      · rename_i h
        injection h with h
        omega
      · rfl
theorem text_len (m x : Int) (h : okN m x) : (textS m x).length ≤ 15 := by
  unfold okN at h
  have hd : (decS m).length ≤ 10 := by
    unfold decS
    split
    · simp
    · rw [List.length_append]
      have h1 : m.natAbs < 10 ^ 9 := by split at h <;> omega
      have := decN_len m.natAbs 9 h1
      split <;> simp <;> omega
  have hx : -18 ≤ x ∧ x ≤ 9 := by split at h <;> omega
  unfold textS
  split
  · have : (decN x.natAbs).length ≤ 2 := decN_len _ 2 (by omega)
    simp only [List.length_append, List.length_cons, List.length_nil]
    omega
  · have := (letter_reads ((x + 15) / 3).toNat (by omega)).2.2
    simp only [List.length_append, List.length_replicate]
    omega
theorem tmod10 (m : Int) : m.tmod 10 = 0 ↔ m.natAbs % 10 = 0 := by
  rw [← Int.dvd_iff_tmod_eq_zero, ← Nat.dvd_iff_mod_eq_zero, ← Int.natAbs_dvd_natAbs]
  rfl
theorem parse_text (m x : Int) (h : okN m x) : parseS (textS m x) = (m, x, 0) := by
  have hl := text_len m x h
  unfold okN at h
  by_cases hm : m = 0
  · subst hm
    have h3 : x = 0 := by simpa using h
    subst h3
    decide
  · have h2 : m.tmod 10 ≠ 0 := fun e => by rw [if_pos e] at h; exact hm h.1
    rw [if_neg h2] at h
    have hn : m.natAbs % 10 ≠ 0 := fun e => h2 ((tmod10 m).2 e)
    have hp : 0 < m.natAbs := by omega
    have hs : (if decide (m < 0) = true then -(m.natAbs : Int) else m.natAbs) = m := by
      by_cases hneg : m < 0
      · simp [hneg]; omega
      · simp [hneg]; omega
    unfold textS at hl ⊢
    by_cases hx : x < -15
    · rw [if_pos hx] at hl ⊢
      rw [List.append_assoc, neg_split m hm] at hl ⊢
      have e1 := parse_sign (decide (m < 0)) (decN m.natAbs) ([101, 45] ++ decN x.natAbs) (decN_isD _) (decN_nil _ hp) (by
        split at hl <;> simp only [List.length_append, List.length_cons] at hl ⊢ <;> omega)
      simp only [decide_eq_true_eq] at e1
      rw [e1, body_plain _ _ ([101, 45] ++ decN x.natAbs) (-(x.natAbs : Int)) (decN_isD _) (decN_nil _ hp) (fun c hc => by rw [List.cons_append, List.head?_cons] at hc; cases hc; exact ⟨rfl, by decide⟩) (dec_two _ (by omega))]
      have e2 := fin_ok (decide (m < 0)) m.natAbs 0 (-(x.natAbs : Int)) x hp (by omega) hn (by omega) (by omega) (by omega)
      rw [Nat.pow_zero, Nat.mul_one] at e2
      rw [show digV (decN m.natAbs) = m.natAbs from digV_dec _, e2, hs]
    · rw [if_neg hx] at hl ⊢
      rw [List.append_assoc, neg_split m hm] at hl ⊢
      have e0 : ∀ r, decN m.natAbs ++ (List.replicate ((x + 15) % 3).toNat 48 ++ r) = (decN m.natAbs ++ List.replicate ((x + 15) % 3).toNat 48) ++ r := fun r => (List.append_assoc _ _ _).symm
      rw [e0] at hl ⊢
      have ad : ∀ c ∈ decN m.natAbs ++ List.replicate ((x + 15) % 3).toNat 48, isD c = true := by
        intro c hc
        rcases List.mem_append.1 hc with hc | hc
        · exact decN_isD _ c hc
        · rw [List.eq_of_mem_replicate hc]; decide
      have an : decN m.natAbs ++ List.replicate ((x + 15) % 3).toNat 48 ≠ [] := fun e => decN_nil _ hp (List.append_eq_nil_iff.1 e).1
      obtain ⟨l1, l2, l3⟩ := letter_reads ((x + 15) / 3).toNat (by omega)
      have e1 := parse_sign (decide (m < 0)) (decN m.natAbs ++ List.replicate ((x + 15) % 3).toNat 48) (letterS ((x + 15) / 3).toNat) ad an (by
        split at hl <;> simp only [List.length_append, List.length_cons] at hl ⊢ <;> omega)
      simp only [decide_eq_true_eq] at e1
      rw [e1, body_plain _ _ _ _ ad an l2 l1, digV_zeros, show digV (decN m.natAbs) = m.natAbs from digV_dec _]
      rw [fin_ok (decide (m < 0)) m.natAbs _ _ x hp (by omega) hn (by omega) (by omega) (by omega), hs]
def decP (n : Nat) : List Nat := if n = 0 then [48] else decN n
theorem decP_spec (n : Nat) (h : n < 4294967296) : (∀ c ∈ decP n, isD c = true) ∧ decP n ≠ [] ∧ digV (decP n) = n ∧ (decP n).length ≤ 10 := by
  unfold decP
  split
  · rename_i e
    subst e
    decide
  · exact ⟨decN_isD n, decN_nil n (by omega), digV_dec n, decN_len n 10 (by omega)⟩
end Go.Proofs.YtfjelkjlfcafgaaGreatDoor.NumS
end
section
/- Texts of numbers: digits at the front; one digit. -/
namespace Go.Proofs.YtfjelkjlfcafgaaGreatDoor.NumT
open Go Go.RowKit Go.Proofs.YtfjelkjlfcafgaaGreatDoor.Ax Go.Proofs.YtfjelkjlfcafgaaGreatDoor.Ti Go.Proofs.YtfjelkjlfcafgaaGreatDoor.BigM Go.Proofs.YtfjelkjlfcafgaaGreatDoor.NumS Go.Proofs.YtfjelkjlfcafgaaGreatDoor.NumA
set_option linter.unusedSimpArgs false
set_option linter.unusedVariables false
set_option maxRecDepth 4000
set_option maxHeartbeats 2000000
theorem rTI : type_of% (cj @ti3 (cj @ti2 (cj @ti4 (cj @ti9 (cj @ti5 (cj @ti36 (cj @ti24 @ti25))))))) := cj @ti3 (cj @ti2 (cj @ti4 (cj @ti9 (cj @ti5 (cj @ti36 (cj @ti24 @ti25))))))

def bs (l : List Nat) : ByteArray := RefJ.bs l
theorem bs_size (l : List Nat) : (bs l).size = l.length := RefJ.bs_size l
theorem bs_append (a b : List Nat) : bs a ++ bs b = bs (a ++ b) := RefJ.bs_append a b
def By (l : List Nat) : Prop := ∀ c ∈ l, c < 256
theorem bs_get (l : List Nat) (h : By l) (k : Nat) : ((bs l).data.toList.getD k 0).toNat = l.getD k 0 := by
  show (((l.map UInt8.ofNat).toArray).toList.getD k 0).toNat = _
  rw [List.toList_toArray, List.getD_eq_getElem?_getD, List.getElem?_map, List.getD_eq_getElem?_getD]
  cases hk : l[k]? with
  | none => rfl
  | some c =>
    have := h c (List.mem_of_getElem? hk)
    simp [Nat.mod_eq_of_lt this]
theorem bs_all (b : ByteArray) : b = bs (b.data.toList.map UInt8.toNat) := by
  cases b with
  | mk d =>
    show _ = ByteArray.mk _
    congr 1
    rw [List.map_map]
    apply Array.ext'
    rw [List.toList_toArray]
    symm
    rw [show (UInt8.ofNat ∘ UInt8.toNat) = id by funext x; simp, List.map_id]
theorem by_all (b : ByteArray) : By (b.data.toList.map UInt8.toNat) := by
  intro c hc
  obtain ⟨x, _, rfl⟩ := List.mem_map.1 hc
  exact UInt8.toNat_lt x
theorem bs_slice (l : List Nat) (i j : Nat) : (bs l).extract i j = bs ((l.drop i).take (j - i)) := by
  have h : ((bs l).extract i j).data = (bs ((l.drop i).take (j - i))).data := by
    rw [ByteArray.data_extract]
    apply Array.ext'
    rw [Array.toList_extract]
    show List.extract ((l.map UInt8.ofNat).toArray).toList i j = (((l.drop i).take (j - i)).map UInt8.ofNat).toArray.toList
    rw [List.toList_toArray, List.toList_toArray, List.extract_eq_take_drop, List.map_take, List.map_drop]
  cases hx : (bs l).extract i j with
  | mk d =>
    rw [hx] at h
    cases hy : bs ((l.drop i).take (j - i)) with
    | mk e => rw [hy] at h; rw [show d = e from h]
theorem run_step (l : List Nat) (k : Nat) (hk : k < (fr l).length) : k < l.length ∧ isD (l.getD k 0) = true := by
  induction l generalizing k with
  | nil => simp [fr] at hk
  | cons c l ih =>
    rw [fr] at hk
    split at hk
    · rename_i hc
      cases k with
      | zero => exact ⟨by simp, by simpa using hc⟩
      | succ k =>
        have := ih k (by simpa using hk)
        exact ⟨by simpa using this.1, by simpa using this.2⟩
    · simp at hk
theorem run_stop (l : List Nat) (h : (fr l).length < l.length) : isD (l.getD (fr l).length 0) = false := by
  induction l with
  | nil => simp at h
  | cons c l ih =>
    rw [fr] at h ⊢
    split
    · rename_i hc
      rw [if_pos hc] at h
      simpa using ih (by simpa using h)
    · rename_i hc
      simpa using hc
theorem fr_le (l : List Nat) : (fr l).length ≤ l.length := by
  have := congrArg List.length (fr_bk l)
  rw [List.length_append] at this
  omega
theorem run_ax (l : List Nat) (h : By l) (hl : l.length ≤ 1000000000) : PCall Tryz.prog 49 [.v (.string (bs l))] (.v (.int .i64 (fr l).length)) := by
  refine pcall_of fun s => ?_
  have hle := fr_le l
  have l1 := bs_size l
  refine acall_of Tryz.func49 rfl rfl (by simp [Tryz.ntmps49]) ?_; rw [Tryz.ntmps49, Tryz.results49]
  refine go trivial ?_
  refine aw_loop (fun n e s' => ∃ k : Nat, n = (fr l).length - k ∧ k ≤ (fr l).length ∧ e.n = 23 ∧ e.m 0 = .v (.string (bs l)) ∧ e.m 3 = .v (.int .i64 k) ∧ s' = s) (fr l).length ?_ ?_
  · refine ⟨0, ?_⟩
    refine rn trivial ?_
    exact ⟨by omega, by omega, rfl⟩
  · rintro n e s' ⟨k, rfl, hk, h1, k0, k3, rfl⟩
    have hg := bs_get l h k
    have z3 : (k : Int) + 1 = ((k + 1 : Nat) : Int) := rfl
    by_cases hk2 : k < (fr l).length
    · obtain ⟨r1, r2⟩ := run_step l k hk2
      obtain ⟨d1, d2⟩ := (isD_iff _).1 r2
      clear r2
      generalize l.getD k 0 = c at *
      refine go (cj rTI (cj @h1 (cj @k0 (cj @k3 (cj @l1 @hg))))) ?_
      rw [then_normal]
      refine ifs ?_ ?_ <;> first | exact nope | intro hb
      refine go (cj @h1 @k3) ?_
      simp only [block_normal, loop_normal]
      refine ⟨(fr l).length - (k + 1), by omega, k + 1, rfl, by omega, ?_⟩
      exact rn0 (cj @h1 (cj @k0 @z3))
    · obtain rfl : k = (fr l).length := by omega
      by_cases hk3 : (fr l).length < l.length
      · have r2 := run_stop l hk3
        have r3 : ¬ (48 ≤ l.getD (fr l).length 0 ∧ l.getD (fr l).length 0 ≤ 57) := fun h => by rw [(isD_iff _).2 h] at r2; cases r2
        clear r2
        generalize l.getD (fr l).length 0 = c at *
        by_cases c1 : 48 ≤ c
        · have c2 : ¬ c ≤ 57 := fun h => r3 ⟨c1, h⟩
          clear r3
          refine go (cj rTI (cj @h1 (cj @k0 (cj @k3 (cj @l1 @hg))))) ?_
          rw [then_normal]
          refine ifs ?_ ?_ <;> first | exact nope | intro hb
          exact go0 (cj @h1 @k3)
        · clear r3
          refine go (cj rTI (cj @h1 (cj @k0 (cj @k3 (cj @l1 @hg))))) ?_
          rw [then_normal]
          refine ifs ?_ ?_ <;> first | exact nope | intro hb
          exact go0 (cj @h1 @k3)
      · refine go (cj rTI (cj @h1 (cj @k0 (cj @k3 @l1)))) ?_
        rw [then_normal]
        refine ifs ?_ ?_ <;> first | exact nope | intro hb
        exact go0 (cj @h1 @k3)
end Go.Proofs.YtfjelkjlfcafgaaGreatDoor.NumT
end
section
/- Texts of numbers: the document's tail, Text. -/
namespace Go.Proofs.YtfjelkjlfcafgaaGreatDoor.NumU
open Go Go.RowKit Go.Proofs.YtfjelkjlfcafgaaGreatDoor.Ax Go.Proofs.YtfjelkjlfcafgaaGreatDoor.Ti Go.Proofs.YtfjelkjlfcafgaaGreatDoor.BigM Go.Proofs.YtfjelkjlfcafgaaGreatDoor.NumS Go.Proofs.YtfjelkjlfcafgaaGreatDoor.NumA Go.Proofs.YtfjelkjlfcafgaaGreatDoor.NumT
set_option linter.unusedSimpArgs false
set_option linter.unusedVariables false
set_option maxRecDepth 4000
set_option maxHeartbeats 2000000
theorem rTI : type_of% (cj @ti3 (cj @ti2 (cj @ti4 (cj @ti9 (cj @ti5 (cj @ti36 (cj @ti24 @ti25))))))) := cj @ti3 (cj @ti2 (cj @ti4 (cj @ti9 (cj @ti5 (cj @ti36 (cj @ti24 @ti25))))))

theorem bs_inj {l m : List Nat} (hl : By l) (hm : By m) (h : (bs l).data.toList = (bs m).data.toList) : l = m := by
  apply List.ext_getElem
  · have := congrArg List.length h
    rw [show (bs l).data.toList.length = (bs l).size from rfl, show (bs m).data.toList.length = (bs m).size from rfl, bs_size, bs_size] at this
    exact this
  · intro k h1 h2
    have a := bs_get l hl k
    have b := bs_get m hm k
    rw [h, b] at a
    rw [List.getD_eq_getElem?_getD, List.getElem?_eq_getElem h2, List.getD_eq_getElem?_getD, List.getElem?_eq_getElem h1] at a
    exact a.symm
theorem bs_beq (l m : List Nat) (hl : By l) (hm : By m) : ((bs l).toList == (bs m).toList) = decide (l = m) := by
  rw [ByteArray.toList_eq, ByteArray.toList_eq]
  by_cases e : l = m
  · rw [e, decide_eq_true rfl]
    exact beq_self_eq_true _
  · rw [decide_eq_false e]
    exact beq_eq_false_iff_ne.2 fun h => e (bs_inj hl hm h)
theorem letter_by (k : Nat) : By (letterS k) := by
  by_cases h : k < 10
  · have : k = 0 ∨ k = 1 ∨ k = 2 ∨ k = 3 ∨ k = 4 ∨ k = 5 ∨ k = 6 ∨ k = 7 ∨ k = 8 ∨ k = 9 := by omega
    rcases this with rfl | rfl | rfl | rfl | rfl | rfl | rfl | rfl | rfl | rfl <;> (intro c hc; simp [letterS] at hc; try omega)
  · intro c hc
    unfold letterS at hc
    rw [List.getD_eq_getElem?_getD, List.getElem?_eq_none (by simp; omega)] at hc
    cases hc
def tailV : Option Int → AV
  | some e => .tp [.v (.int .i64 e), .v (.bool true)]
  | none => .tp [.v (.int .i64 0), .v (.bool false)]
def expL : List Nat → Option Int
  | 101 :: r => expS r
  | _ => none
theorem letters_exp (l : List Nat) (h : ∀ k, k < 10 → l ≠ letterS k) : lettersS l = expL l := by
  have h0 := h 0 (by decide)
  have h1 := h 1 (by decide)
  have h2 := h 2 (by decide)
  have h3 := h 3 (by decide)
  have h4 := h 4 (by decide)
  have h5 := h 5 (by decide)
  have h6 := h 6 (by decide)
  have h7 := h 7 (by decide)
  have h8 := h 8 (by decide)
  have h9 := h 9 (by decide)
  simp only [letterS, List.getD_cons_zero, List.getD_cons_succ] at h0 h1 h2 h3 h4 h5 h6 h7 h8 h9
  unfold lettersS expL
  split <;> simp_all
theorem two_bad (d : List Nat) (h : ¬ (d.length = 1 ∨ d.length = 2)) : two d = none := by
  unfold two
  split
  · simp at h
  · simp at h
  · rfl
theorem two_good (d : List Nat) (h1 : 1 ≤ d.length) (h2 : d.length ≤ 2) : two d = if ∀ c ∈ d, isD c = true then some (digV d : Int) else none := by
  match d with
  | [] => simp at h1
  | [a] =>
    show (if isD a then some ((a : Int) - 48) else none) = _
    by_cases q : isD a = true
    · have := (isD_iff a).1 q
      rw [if_pos q, if_pos (by simpa using q)]
      congr 1
      simp [digV]
      omega
    · rw [if_neg q, if_neg (by simpa using q)]
  | [a, b] =>
    show (if isD a && isD b then some (10 * ((a : Int) - 48) + ((b : Int) - 48)) else none) = _
    by_cases q : isD a = true ∧ isD b = true
    · have h3 := (isD_iff a).1 q.1
      have h4 := (isD_iff b).1 q.2
      rw [if_pos (by simp [q.1, q.2]), if_pos (by simpa using q)]
      congr 1
      simp [digV]
      omega
    · rw [if_neg (by simpa using q), if_neg (by simpa using q)]
  | _ :: _ :: _ :: _ => simp at h2
theorem digV_two (d : List Nat) (hl : d.length ≤ 2) (h : ∀ c ∈ d, isD c = true) : digV d ≤ 99 := by
  match d with
  | [] => simp [digV]
  | [a] =>
    have := (isD_iff a).1 (h a (by simp))
    simp [digV]
    omega
  | [a, b] =>
    have h3 := (isD_iff a).1 (h a (by simp))
    have h4 := (isD_iff b).1 (h b (by simp))
    simp [digV]
    omega
  | _ :: _ :: _ :: _ => simp at hl
theorem exp_ways (r : List Nat) : (∃ d, 101 :: r = 101 :: 45 :: d ∧ expS r = (two d).map fun v => -v) ∨ (∃ d, 101 :: r = 101 :: 43 :: d ∧ expS r = two d) ∨ (∃ d, 101 :: r = 101 :: d ∧ expS r = two d ∧ r.getD 0 0 ≠ 45 ∧ r.getD 0 0 ≠ 43) := by
  unfold expS
  split
  · exact .inl ⟨_, rfl, rfl⟩
  · exact .inr (.inl ⟨_, rfl, rfl⟩)
  · rename_i h1 h2
    refine .inr (.inr ⟨r, rfl, rfl, ?_, ?_⟩)
    · cases r with
      | nil => simp
      | cons a r =>
        intro e
        exact h1 r (by simpa using e)
    · cases r with
      | nil => simp
      | cons a r =>
        intro e
        exact h2 r (by simpa using e)
end Go.Proofs.YtfjelkjlfcafgaaGreatDoor.NumU
end
section
/- The contracts of the library that the walks of this claim lean on, laid for this translation by the kit. -/
namespace Go.Proofs
open Go.Shelf
def Tryz.lays161_ren : Go.Shelf.Ren := ⟨fun | 161 => 52 | 231 => 103 | 227 => 104 | 233 => 105 | 235 => 106 | 228 => 146 | 197 => 147 | 151 => 148 | 260 => 179 | 152 => 180 | 137 => 89 | 119 => 194 | 224 => 195 | 225 => 196 | 217 => 141 | 266 => 178 | n => n, fun | 9 => 9 | 4 => 4 | 3 => 3 | 5 => 5 | 117 => 156 | 116 => 155 | 0 => 0 | 124 => 159 | 105 => 192 | 21 => 21 | 119 => 235 | 46 => 198 | 139 => 238 | 138 => 237 | n => n, fun | 3 => 4 | 4 => 5 | n => n⟩
theorem Tryz.lays161 : Go.Proofs.Lays.n161 Tryz.prog Tryz.lays161_ren := {
  mixed := by kernel_rfl
  f119 := Tryz.func194.trans (congrArg some (by kernel_rfl))
  f137 := Tryz.func89.trans (congrArg some (by kernel_rfl))
  f151 := Tryz.func148.trans (congrArg some (by kernel_rfl))
  f152 := Tryz.func180.trans (congrArg some (by kernel_rfl))
  f161 := Tryz.func52.trans (congrArg some (by kernel_rfl))
  f197 := Tryz.func147.trans (congrArg some (by kernel_rfl))
  f217 := Tryz.func141.trans (congrArg some (by kernel_rfl))
  f224 := Tryz.func195.trans (congrArg some (by kernel_rfl))
  f225 := Tryz.func196.trans (congrArg some (by kernel_rfl))
  f227 := Tryz.func104.trans (congrArg some (by kernel_rfl))
  f228 := Tryz.func146.trans (congrArg some (by kernel_rfl))
  f231 := Tryz.func103.trans (congrArg some (by kernel_rfl))
  f233 := Tryz.func105.trans (congrArg some (by kernel_rfl))
  f235 := Tryz.func106.trans (congrArg some (by kernel_rfl))
  f260 := Tryz.func179.trans (congrArg some (by kernel_rfl))
  f266 := Tryz.func178.trans (congrArg some (by kernel_rfl))
  t0 := Tryz.underlying0
  a0 := Tryz.isAgg0
  z0 := Tryz.sizeOf0
  v0 := Tryz.zeroValue0
  t3 := Tryz.underlying3
  a3 := Tryz.isAgg3
  z3 := Tryz.sizeOf3
  v3 := Tryz.zeroValue3
  t4 := Tryz.underlying4
  a4 := Tryz.isAgg4
  z4 := Tryz.sizeOf4
  v4 := Tryz.zeroValue4
  t5 := Tryz.underlying5
  a5 := Tryz.isAgg5
  z5 := Tryz.sizeOf5
  v5 := Tryz.zeroValue5
  t9 := Tryz.underlying9
  a9 := Tryz.isAgg9
  z9 := Tryz.sizeOf9
  v9 := Tryz.zeroValue9
  t21 := Tryz.underlying21
  a21 := Tryz.isAgg21
  z21 := Tryz.sizeOf21
  v21 := Tryz.zeroValue21
  t46 := Tryz.underlying198
  a46 := Tryz.isAgg198
  z46 := Tryz.sizeOf198
  v46 := Tryz.zeroValue198
  t105 := Tryz.underlying192
  a105 := Tryz.isAgg192
  z105 := Tryz.sizeOf192
  v105 := Tryz.zeroValue192
  t116 := Tryz.underlying155
  a116 := Tryz.isAgg155
  z116 := Tryz.sizeOf155
  t117 := Tryz.underlying156
  a117 := Tryz.isAgg156
  z117 := Tryz.sizeOf156
  v117 := Tryz.zeroValue156
  t119 := Tryz.underlying235
  a119 := Tryz.isAgg235
  z119 := Tryz.sizeOf235
  t124 := Tryz.underlying159
  a124 := Tryz.isAgg159
  z124 := Tryz.sizeOf159
  v124 := Tryz.zeroValue159
  t138 := Tryz.underlying237
  a138 := Tryz.isAgg237
  z138 := Tryz.sizeOf237
  v138 := Tryz.zeroValue237
  t139 := Tryz.underlying238
  a139 := Tryz.isAgg238
  z139 := Tryz.sizeOf238
  v139 := Tryz.zeroValue238
  g3 := by kernel_rfl
  g4 := by kernel_rfl }
open Go.RowKit in
theorem Tryz.strings_TrimLeft_one (s : ByteArray) (c : UInt8) (hc : c.toNat < 128) (w : World) :
    Calls Tryz.prog 52 #[.string s, .string ⟨#[c]⟩] w fun e w' => e = .returned (.string ⟨(Lib.trimLeftB s.data.toList c).toArray⟩) ∧ w' = w := Any.strings_TrimLeft_one Tryz.lays161 s c hc w
def Tryz.lays162_ren : Go.Shelf.Ren := ⟨fun | 162 => 53 | 232 => 107 | 227 => 104 | 234 => 108 | 236 => 109 | 228 => 146 | 271 => 149 | 151 => 148 | 120 => 181 | 197 => 147 | 152 => 180 | 260 => 179 | 137 => 89 | 119 => 194 | 224 => 195 | 225 => 196 | 217 => 141 | 266 => 178 | n => n, fun | 9 => 9 | 4 => 4 | 3 => 3 | 5 => 5 | 117 => 156 | 116 => 155 | 0 => 0 | 124 => 159 | 21 => 21 | 105 => 192 | 46 => 198 | 119 => 235 | 139 => 238 | 138 => 237 | n => n, fun | 3 => 4 | 4 => 5 | n => n⟩
theorem Tryz.lays162 : Go.Proofs.Lays.n162 Tryz.prog Tryz.lays162_ren := {
  mixed := by kernel_rfl
  f119 := Tryz.func194.trans (congrArg some (by kernel_rfl))
  f120 := Tryz.func181.trans (congrArg some (by kernel_rfl))
  f137 := Tryz.func89.trans (congrArg some (by kernel_rfl))
  f151 := Tryz.func148.trans (congrArg some (by kernel_rfl))
  f152 := Tryz.func180.trans (congrArg some (by kernel_rfl))
  f162 := Tryz.func53.trans (congrArg some (by kernel_rfl))
  f197 := Tryz.func147.trans (congrArg some (by kernel_rfl))
  f217 := Tryz.func141.trans (congrArg some (by kernel_rfl))
  f224 := Tryz.func195.trans (congrArg some (by kernel_rfl))
  f225 := Tryz.func196.trans (congrArg some (by kernel_rfl))
  f227 := Tryz.func104.trans (congrArg some (by kernel_rfl))
  f228 := Tryz.func146.trans (congrArg some (by kernel_rfl))
  f232 := Tryz.func107.trans (congrArg some (by kernel_rfl))
  f234 := Tryz.func108.trans (congrArg some (by kernel_rfl))
  f236 := Tryz.func109.trans (congrArg some (by kernel_rfl))
  f260 := Tryz.func179.trans (congrArg some (by kernel_rfl))
  f266 := Tryz.func178.trans (congrArg some (by kernel_rfl))
  f271 := Tryz.func149.trans (congrArg some (by kernel_rfl))
  t0 := Tryz.underlying0
  a0 := Tryz.isAgg0
  z0 := Tryz.sizeOf0
  v0 := Tryz.zeroValue0
  t3 := Tryz.underlying3
  a3 := Tryz.isAgg3
  z3 := Tryz.sizeOf3
  v3 := Tryz.zeroValue3
  t4 := Tryz.underlying4
  a4 := Tryz.isAgg4
  z4 := Tryz.sizeOf4
  v4 := Tryz.zeroValue4
  t5 := Tryz.underlying5
  a5 := Tryz.isAgg5
  z5 := Tryz.sizeOf5
  v5 := Tryz.zeroValue5
  t9 := Tryz.underlying9
  a9 := Tryz.isAgg9
  z9 := Tryz.sizeOf9
  v9 := Tryz.zeroValue9
  t21 := Tryz.underlying21
  a21 := Tryz.isAgg21
  z21 := Tryz.sizeOf21
  v21 := Tryz.zeroValue21
  t46 := Tryz.underlying198
  a46 := Tryz.isAgg198
  z46 := Tryz.sizeOf198
  v46 := Tryz.zeroValue198
  t105 := Tryz.underlying192
  a105 := Tryz.isAgg192
  z105 := Tryz.sizeOf192
  v105 := Tryz.zeroValue192
  t116 := Tryz.underlying155
  a116 := Tryz.isAgg155
  z116 := Tryz.sizeOf155
  t117 := Tryz.underlying156
  a117 := Tryz.isAgg156
  z117 := Tryz.sizeOf156
  v117 := Tryz.zeroValue156
  t119 := Tryz.underlying235
  a119 := Tryz.isAgg235
  z119 := Tryz.sizeOf235
  t124 := Tryz.underlying159
  a124 := Tryz.isAgg159
  z124 := Tryz.sizeOf159
  v124 := Tryz.zeroValue159
  t138 := Tryz.underlying237
  a138 := Tryz.isAgg237
  z138 := Tryz.sizeOf237
  v138 := Tryz.zeroValue237
  t139 := Tryz.underlying238
  a139 := Tryz.isAgg238
  z139 := Tryz.sizeOf238
  v139 := Tryz.zeroValue238
  g3 := by kernel_rfl
  g4 := by kernel_rfl }
open Go.RowKit in
theorem Tryz.strings_TrimRight_one (s : ByteArray) (c : UInt8) (hc : c.toNat < 128) (w : World) (hs : s.size ≤ 9223372036854775807) :
    Calls Tryz.prog 53 #[.string s, .string ⟨#[c]⟩] w fun e w' => e = .returned (.string ⟨(Lib.trimRightB s.data.toList c).toArray⟩) ∧ w' = w := Any.strings_TrimRight_one Tryz.lays162 s c hc w hs
def Tryz.lays137_ren : Go.Shelf.Ren := ⟨fun | 137 => 89 | 217 => 141 | 266 => 178 | n => n, fun | 9 => 9 | 5 => 5 | 3 => 3 | n => n, fun | n => n⟩
theorem Tryz.lays137 : Go.Proofs.Lays.n137 Tryz.prog Tryz.lays137_ren := {
  mixed := by kernel_rfl
  f137 := Tryz.func89.trans (congrArg some (by kernel_rfl))
  f217 := Tryz.func141.trans (congrArg some (by kernel_rfl))
  f266 := Tryz.func178.trans (congrArg some (by kernel_rfl))
  t3 := Tryz.underlying3
  a3 := Tryz.isAgg3
  z3 := Tryz.sizeOf3
  v3 := Tryz.zeroValue3
  t5 := Tryz.underlying5
  a5 := Tryz.isAgg5
  z5 := Tryz.sizeOf5
  v5 := Tryz.zeroValue5
  t9 := Tryz.underlying9
  a9 := Tryz.isAgg9
  z9 := Tryz.sizeOf9
  v9 := Tryz.zeroValue9 }
open Go.RowKit in
theorem Tryz.strings_IndexByte (s : ByteArray) (c : Int) (w : World) :
    Calls Tryz.prog 89 #[.string s, .int .u8 c] w fun e w' => e = .returned (.int .i64 (Lib.indexByte s.data.toList c.toNat.toUInt8)) ∧ w' = w := Any.strings_IndexByte Tryz.lays137 s c w
def Tryz.lays103_ren : Go.Shelf.Ren := ⟨fun | 103 => 48 | 210 => 100 | 206 => 101 | n => n, fun | 9 => 9 | 4 => 4 | 24 => 93 | 3 => 3 | n => n, fun | n => n⟩
theorem Tryz.lays103 : Go.Proofs.Lays.n103 Tryz.prog Tryz.lays103_ren := {
  mixed := by kernel_rfl
  f103 := Tryz.func48.trans (congrArg some (by kernel_rfl))
  f206 := Tryz.func101.trans (congrArg some (by kernel_rfl))
  f210 := Tryz.func100.trans (congrArg some (by kernel_rfl))
  t3 := Tryz.underlying3
  a3 := Tryz.isAgg3
  z3 := Tryz.sizeOf3
  v3 := Tryz.zeroValue3
  t4 := Tryz.underlying4
  a4 := Tryz.isAgg4
  z4 := Tryz.sizeOf4
  v4 := Tryz.zeroValue4
  t9 := Tryz.underlying9
  a9 := Tryz.isAgg9
  z9 := Tryz.sizeOf9
  v9 := Tryz.zeroValue9
  t24 := Tryz.underlying93
  a24 := Tryz.isAgg93
  z24 := Tryz.sizeOf93
  v24 := Tryz.zeroValue93 }
open Go.RowKit in
theorem Tryz.strings_CutPrefix (s p : ByteArray) (w : World) :
    Calls Tryz.prog 48 #[.string s, .string p] w fun e w' => e = .returned (.tuple #[.string ⟨(Lib.trimPrefix s.data.toList p.data.toList).toArray⟩, .bool (Lib.hasPrefix s.data.toList p.data.toList)]) ∧ w' = w := Any.strings_CutPrefix Tryz.lays103 s p w
def Tryz.lays172_ren : Go.Shelf.Ren := ⟨fun | 172 => 102 | 244 => 145 | 245 => 111 | 247 => 110 | 279 => 151 | 280 => 152 | 281 => 153 | 282 => 154 | 287 => 150 | 316 => 184 | 171 => 64 | 205 => 185 | 321 => 182 | 322 => 183 | 243 => 119 | 246 => 118 | 283 => 156 | 284 => 157 | 285 => 158 | 286 => 159 | 129 => 187 | 317 => 186 | 318 => 188 | 319 => 189 | 320 => 190 | 337 => 197 | 338 => 198 | n => n, fun | 9 => 9 | 3 => 3 | 75 => 101 | 76 => 151 | 4 => 4 | 5 => 5 | 167 => 195 | 37 => 116 | 0 => 0 | 85 => 102 | 2 => 2 | 168 => 199 | 53 => 165 | 175 => 196 | 46 => 198 | 210 => 223 | 127 => 241 | 145 => 244 | 143 => 242 | 21 => 21 | 171 => 202 | 173 => 205 | 212 => 227 | 51 => 35 | 20 => 20 | 213 => 228 | 232 => 249 | 233 => 250 | 80 => 147 | n => n, fun | 15 => 0 | 16 => 1 | 17 => 2 | 18 => 6 | 19 => 7 | n => n⟩
theorem Tryz.lays172 : Go.Proofs.Lays.n172 Tryz.prog Tryz.lays172_ren := {
  mixed := by kernel_rfl
  f129 := Tryz.func187.trans (congrArg some (by kernel_rfl))
  f171 := Tryz.func64.trans (congrArg some (by kernel_rfl))
  f172 := Tryz.func102.trans (congrArg some (by kernel_rfl))
  f205 := Tryz.func185.trans (congrArg some (by kernel_rfl))
  f243 := Tryz.func119.trans (congrArg some (by kernel_rfl))
  f244 := Tryz.func145.trans (congrArg some (by kernel_rfl))
  f245 := Tryz.func111.trans (congrArg some (by kernel_rfl))
  f246 := Tryz.func118.trans (congrArg some (by kernel_rfl))
  f247 := Tryz.func110.trans (congrArg some (by kernel_rfl))
  f279 := Tryz.func151.trans (congrArg some (by kernel_rfl))
  f280 := Tryz.func152.trans (congrArg some (by kernel_rfl))
  f281 := Tryz.func153.trans (congrArg some (by kernel_rfl))
  f282 := Tryz.func154.trans (congrArg some (by kernel_rfl))
  f283 := Tryz.func156.trans (congrArg some (by kernel_rfl))
  f284 := Tryz.func157.trans (congrArg some (by kernel_rfl))
  f285 := Tryz.func158.trans (congrArg some (by kernel_rfl))
  f286 := Tryz.func159.trans (congrArg some (by kernel_rfl))
  f287 := Tryz.func150.trans (congrArg some (by kernel_rfl))
  f316 := Tryz.func184.trans (congrArg some (by kernel_rfl))
  f317 := Tryz.func186.trans (congrArg some (by kernel_rfl))
  f318 := Tryz.func188.trans (congrArg some (by kernel_rfl))
  f319 := Tryz.func189.trans (congrArg some (by kernel_rfl))
  f320 := Tryz.func190.trans (congrArg some (by kernel_rfl))
  f321 := Tryz.func182.trans (congrArg some (by kernel_rfl))
  f322 := Tryz.func183.trans (congrArg some (by kernel_rfl))
  f337 := Tryz.func197.trans (congrArg some (by kernel_rfl))
  f338 := Tryz.func198.trans (congrArg some (by kernel_rfl))
  t0 := Tryz.underlying0
  a0 := Tryz.isAgg0
  z0 := Tryz.sizeOf0
  v0 := Tryz.zeroValue0
  t2 := Tryz.underlying2
  a2 := Tryz.isAgg2
  z2 := Tryz.sizeOf2
  v2 := Tryz.zeroValue2
  t3 := Tryz.underlying3
  a3 := Tryz.isAgg3
  z3 := Tryz.sizeOf3
  v3 := Tryz.zeroValue3
  t4 := Tryz.underlying4
  a4 := Tryz.isAgg4
  z4 := Tryz.sizeOf4
  v4 := Tryz.zeroValue4
  t5 := Tryz.underlying5
  a5 := Tryz.isAgg5
  z5 := Tryz.sizeOf5
  v5 := Tryz.zeroValue5
  t9 := Tryz.underlying9
  a9 := Tryz.isAgg9
  z9 := Tryz.sizeOf9
  v9 := Tryz.zeroValue9
  t20 := Tryz.underlying20
  a20 := Tryz.isAgg20
  z20 := Tryz.sizeOf20
  v20 := Tryz.zeroValue20
  t21 := Tryz.underlying21
  a21 := Tryz.isAgg21
  z21 := Tryz.sizeOf21
  v21 := Tryz.zeroValue21
  t37 := Tryz.underlying116
  a37 := Tryz.isAgg116
  z37 := Tryz.sizeOf116
  v37 := Tryz.zeroValue116
  t46 := Tryz.underlying198
  a46 := Tryz.isAgg198
  z46 := Tryz.sizeOf198
  v46 := Tryz.zeroValue198
  t51 := Tryz.underlying35
  a51 := Tryz.isAgg35
  z51 := Tryz.sizeOf35
  v51 := Tryz.zeroValue35
  t53 := Tryz.underlying165
  a53 := Tryz.isAgg165
  z53 := Tryz.sizeOf165
  v53 := Tryz.zeroValue165
  t75 := Tryz.underlying101
  a75 := Tryz.isAgg101
  z75 := Tryz.sizeOf101
  v75 := Tryz.zeroValue101
  t76 := Tryz.underlying151
  a76 := Tryz.isAgg151
  z76 := Tryz.sizeOf151
  v76 := Tryz.zeroValue151
  t85 := Tryz.underlying102
  a85 := Tryz.isAgg102
  z85 := Tryz.sizeOf102
  v85 := Tryz.zeroValue102
  t127 := Tryz.underlying241
  a127 := Tryz.isAgg241
  z127 := Tryz.sizeOf241
  v127 := Tryz.zeroValue241
  t143 := Tryz.underlying242
  a143 := Tryz.isAgg242
  z143 := Tryz.sizeOf242
  v143 := Tryz.zeroValue242
  t145 := Tryz.underlying244
  a145 := Tryz.isAgg244
  z145 := Tryz.sizeOf244
  v145 := Tryz.zeroValue244
  t167 := Tryz.underlying195
  a167 := Tryz.isAgg195
  z167 := Tryz.sizeOf195
  v167 := Tryz.zeroValue195
  t168 := Tryz.underlying199
  a168 := Tryz.isAgg199
  z168 := Tryz.sizeOf199
  v168 := Tryz.zeroValue199
  t171 := Tryz.underlying202
  a171 := Tryz.isAgg202
  z171 := Tryz.sizeOf202
  v171 := Tryz.zeroValue202
  t173 := Tryz.underlying205
  a173 := Tryz.isAgg205
  z173 := Tryz.sizeOf205
  v173 := Tryz.zeroValue205
  t175 := Tryz.underlying196
  a175 := Tryz.isAgg196
  z175 := Tryz.sizeOf196
  v175 := Tryz.zeroValue196
  t210 := Tryz.underlying223
  a210 := Tryz.isAgg223
  z210 := Tryz.sizeOf223
  v210 := Tryz.zeroValue223
  t212 := Tryz.underlying227
  a212 := Tryz.isAgg227
  z212 := Tryz.sizeOf227
  v212 := Tryz.zeroValue227
  t213 := Tryz.underlying228
  a213 := Tryz.isAgg228
  z213 := Tryz.sizeOf228
  t232 := Tryz.underlying249
  a232 := Tryz.isAgg249
  z232 := Tryz.sizeOf249
  v232 := Tryz.zeroValue249
  t233 := Tryz.underlying250
  a233 := Tryz.isAgg250
  z233 := Tryz.sizeOf250
  v233 := Tryz.zeroValue250
  g15 := by kernel_rfl
  g16 := by kernel_rfl
  g17 := by kernel_rfl
  g18 := by kernel_rfl
  g19 := by kernel_rfl }
open Go.RowKit in
theorem Tryz.strconv_Atoi (s : ByteArray) (n : Int) (hl : s.size ≤ 18) (h : Lib.atoi s.data.toList = some n) (w : World) :
    Calls Tryz.prog 102 #[.string s] w fun e w' => e = .returned (.tuple #[.int .i64 n, .nilIface]) ∧ ∃ t, w' = Lib.bytesWorld w 5 t := Any.strconv_Atoi Tryz.lays172 s n hl h w
def Tryz.laysM171_ren : Go.Shelf.Ren := ⟨fun | 171 => 64 | 243 => 119 | 246 => 118 | 283 => 156 | 284 => 157 | 285 => 158 | 286 => 159 | 129 => 187 | 317 => 186 | 318 => 188 | 319 => 189 | 320 => 190 | 337 => 197 | 338 => 198 | n => n, fun | 3 => 3 | 9 => 9 | 2 => 2 | 4 => 4 | 171 => 202 | 0 => 0 | 53 => 165 | 37 => 116 | 5 => 5 | 173 => 205 | 212 => 227 | 51 => 35 | 20 => 20 | 213 => 228 | 46 => 198 | 232 => 249 | 233 => 250 | n => n, fun | 17 => 2 | 18 => 6 | 19 => 7 | n => n⟩
theorem Tryz.laysM171 : Go.Proofs.LaysM.n171 Tryz.prog Tryz.laysM171_ren := {
  mixed := by kernel_rfl
  f129 := Tryz.func187.trans (congrArg some (by kernel_rfl))
  f171 := Tryz.func64.trans (congrArg some (by kernel_rfl))
  f243 := Tryz.func119.trans (congrArg some (by kernel_rfl))
  f246 := Tryz.func118.trans (congrArg some (by kernel_rfl))
  f283 := Tryz.func156.trans (congrArg some (by kernel_rfl))
  f284 := Tryz.func157.trans (congrArg some (by kernel_rfl))
  f285 := Tryz.func158.trans (congrArg some (by kernel_rfl))
  f286 := Tryz.func159.trans (congrArg some (by kernel_rfl))
  f317 := Tryz.func186.trans (congrArg some (by kernel_rfl))
  f318 := Tryz.func188.trans (congrArg some (by kernel_rfl))
  f319 := Tryz.func189.trans (congrArg some (by kernel_rfl))
  f320 := Tryz.func190.trans (congrArg some (by kernel_rfl))
  f337 := Tryz.func197.trans (congrArg some (by kernel_rfl))
  f338 := Tryz.func198.trans (congrArg some (by kernel_rfl))
  t0 := Tryz.underlying0
  a0 := Tryz.isAgg0
  z0 := Tryz.sizeOf0
  v0 := Tryz.zeroValue0
  t2 := Tryz.underlying2
  a2 := Tryz.isAgg2
  z2 := Tryz.sizeOf2
  v2 := Tryz.zeroValue2
  t3 := Tryz.underlying3
  a3 := Tryz.isAgg3
  z3 := Tryz.sizeOf3
  v3 := Tryz.zeroValue3
  t4 := Tryz.underlying4
  a4 := Tryz.isAgg4
  z4 := Tryz.sizeOf4
  v4 := Tryz.zeroValue4
  t5 := Tryz.underlying5
  a5 := Tryz.isAgg5
  z5 := Tryz.sizeOf5
  v5 := Tryz.zeroValue5
  t9 := Tryz.underlying9
  a9 := Tryz.isAgg9
  z9 := Tryz.sizeOf9
  v9 := Tryz.zeroValue9
  t20 := Tryz.underlying20
  a20 := Tryz.isAgg20
  z20 := Tryz.sizeOf20
  v20 := Tryz.zeroValue20
  t37 := Tryz.underlying116
  a37 := Tryz.isAgg116
  z37 := Tryz.sizeOf116
  v37 := Tryz.zeroValue116
  t46 := Tryz.underlying198
  a46 := Tryz.isAgg198
  z46 := Tryz.sizeOf198
  v46 := Tryz.zeroValue198
  t51 := Tryz.underlying35
  a51 := Tryz.isAgg35
  z51 := Tryz.sizeOf35
  v51 := Tryz.zeroValue35
  t53 := Tryz.underlying165
  a53 := Tryz.isAgg165
  z53 := Tryz.sizeOf165
  v53 := Tryz.zeroValue165
  t171 := Tryz.underlying202
  a171 := Tryz.isAgg202
  z171 := Tryz.sizeOf202
  v171 := Tryz.zeroValue202
  t173 := Tryz.underlying205
  a173 := Tryz.isAgg205
  z173 := Tryz.sizeOf205
  v173 := Tryz.zeroValue205
  t212 := Tryz.underlying227
  a212 := Tryz.isAgg227
  z212 := Tryz.sizeOf227
  v212 := Tryz.zeroValue227
  t213 := Tryz.underlying228
  a213 := Tryz.isAgg228
  z213 := Tryz.sizeOf228
  t232 := Tryz.underlying249
  a232 := Tryz.isAgg249
  z232 := Tryz.sizeOf249
  v232 := Tryz.zeroValue249
  t233 := Tryz.underlying250
  a233 := Tryz.isAgg250
  z233 := Tryz.sizeOf250
  v233 := Tryz.zeroValue250
  g17 := by kernel_rfl
  g18 := by kernel_rfl
  g19 := by kernel_rfl
  i0 := by kernel_rfl
  i2 := by kernel_rfl
  i3 := by kernel_rfl
  i4 := by kernel_rfl
  i5 := by kernel_rfl
  i9 := by kernel_rfl
  i20 := by kernel_rfl
  i37 := by kernel_rfl
  i46 := by kernel_rfl
  i51 := by kernel_rfl
  i53 := by kernel_rfl
  i171 := by kernel_rfl
  i173 := by kernel_rfl
  i212 := by kernel_rfl
  i232 := by kernel_rfl
  i233 := by kernel_rfl
  m17 := by kernel_rfl
  m18 := by kernel_rfl
  m19 := by kernel_rfl }
open Go.RowKit Go.Sort Go.Lib in
theorem Tryz.strconv_Itoa (n : Int) (h0 : -9223372036854775808 ≤ n) (h1 : n ≤ 9223372036854775807) (w : World) (htab : Lib.TabIs Tryz.prog w "internal/strconv.uint64pow10" .u64 Lib.pow10Tab) :
    Calls Tryz.prog 64 #[.int .i64 n] w fun e w' => e = .returned (.string ⟨(Lib.itoa n).toArray⟩) ∧ ∃ k os, w' = grow (w.drewN k) os := Any.strconv_Itoa Tryz.laysM171 n h0 h1 w htab
def Tryz.lays171_ren : Go.Shelf.Ren := ⟨fun | 171 => 64 | 243 => 119 | 246 => 118 | 283 => 156 | 284 => 157 | 285 => 158 | 286 => 159 | 129 => 187 | 317 => 186 | 318 => 188 | 319 => 189 | 320 => 190 | 337 => 197 | 338 => 198 | n => n, fun | 3 => 3 | 9 => 9 | 2 => 2 | 4 => 4 | 171 => 202 | 0 => 0 | 53 => 165 | 37 => 116 | 5 => 5 | 173 => 205 | 212 => 227 | 51 => 35 | 20 => 20 | 213 => 228 | 46 => 198 | 232 => 249 | 233 => 250 | n => n, fun | 17 => 2 | 18 => 6 | 19 => 7 | n => n⟩
theorem Tryz.lays171 : Go.Proofs.Lays.n171 Tryz.prog Tryz.lays171_ren := {
  mixed := by kernel_rfl
  f129 := Tryz.func187.trans (congrArg some (by kernel_rfl))
  f171 := Tryz.func64.trans (congrArg some (by kernel_rfl))
  f243 := Tryz.func119.trans (congrArg some (by kernel_rfl))
  f246 := Tryz.func118.trans (congrArg some (by kernel_rfl))
  f283 := Tryz.func156.trans (congrArg some (by kernel_rfl))
  f284 := Tryz.func157.trans (congrArg some (by kernel_rfl))
  f285 := Tryz.func158.trans (congrArg some (by kernel_rfl))
  f286 := Tryz.func159.trans (congrArg some (by kernel_rfl))
  f317 := Tryz.func186.trans (congrArg some (by kernel_rfl))
  f318 := Tryz.func188.trans (congrArg some (by kernel_rfl))
  f319 := Tryz.func189.trans (congrArg some (by kernel_rfl))
  f320 := Tryz.func190.trans (congrArg some (by kernel_rfl))
  f337 := Tryz.func197.trans (congrArg some (by kernel_rfl))
  f338 := Tryz.func198.trans (congrArg some (by kernel_rfl))
  t0 := Tryz.underlying0
  a0 := Tryz.isAgg0
  z0 := Tryz.sizeOf0
  v0 := Tryz.zeroValue0
  t2 := Tryz.underlying2
  a2 := Tryz.isAgg2
  z2 := Tryz.sizeOf2
  v2 := Tryz.zeroValue2
  t3 := Tryz.underlying3
  a3 := Tryz.isAgg3
  z3 := Tryz.sizeOf3
  v3 := Tryz.zeroValue3
  t4 := Tryz.underlying4
  a4 := Tryz.isAgg4
  z4 := Tryz.sizeOf4
  v4 := Tryz.zeroValue4
  t5 := Tryz.underlying5
  a5 := Tryz.isAgg5
  z5 := Tryz.sizeOf5
  v5 := Tryz.zeroValue5
  t9 := Tryz.underlying9
  a9 := Tryz.isAgg9
  z9 := Tryz.sizeOf9
  v9 := Tryz.zeroValue9
  t20 := Tryz.underlying20
  a20 := Tryz.isAgg20
  z20 := Tryz.sizeOf20
  v20 := Tryz.zeroValue20
  t37 := Tryz.underlying116
  a37 := Tryz.isAgg116
  z37 := Tryz.sizeOf116
  v37 := Tryz.zeroValue116
  t46 := Tryz.underlying198
  a46 := Tryz.isAgg198
  z46 := Tryz.sizeOf198
  v46 := Tryz.zeroValue198
  t51 := Tryz.underlying35
  a51 := Tryz.isAgg35
  z51 := Tryz.sizeOf35
  v51 := Tryz.zeroValue35
  t53 := Tryz.underlying165
  a53 := Tryz.isAgg165
  z53 := Tryz.sizeOf165
  v53 := Tryz.zeroValue165
  t171 := Tryz.underlying202
  a171 := Tryz.isAgg202
  z171 := Tryz.sizeOf202
  v171 := Tryz.zeroValue202
  t173 := Tryz.underlying205
  a173 := Tryz.isAgg205
  z173 := Tryz.sizeOf205
  v173 := Tryz.zeroValue205
  t212 := Tryz.underlying227
  a212 := Tryz.isAgg227
  z212 := Tryz.sizeOf227
  v212 := Tryz.zeroValue227
  t213 := Tryz.underlying228
  a213 := Tryz.isAgg228
  z213 := Tryz.sizeOf228
  t232 := Tryz.underlying249
  a232 := Tryz.isAgg249
  z232 := Tryz.sizeOf249
  v232 := Tryz.zeroValue249
  t233 := Tryz.underlying250
  a233 := Tryz.isAgg250
  z233 := Tryz.sizeOf250
  v233 := Tryz.zeroValue250
  g17 := by kernel_rfl
  g18 := by kernel_rfl
  g19 := by kernel_rfl }
open Go.RowKit Go.Sort Go.Lib in
theorem Tryz.strconv_Itoa_small (i : Nat) (hi : i < 100) (w : World) :
    Calls Tryz.prog 64 #[.int .i64 i] w fun e w' => e = .returned (.string ⟨(Lib.decDigits i).toArray⟩) ∧ w' = w := Any.strconv_Itoa_small Tryz.lays171 i hi w
def Tryz.laysM173_ren : Go.Shelf.Ren := ⟨fun | 173 => 63 | 246 => 118 | 283 => 156 | 284 => 157 | 285 => 158 | 286 => 159 | 129 => 187 | 317 => 186 | 318 => 188 | 319 => 189 | 320 => 190 | 337 => 197 | 338 => 198 | n => n, fun | 2 => 2 | 3 => 3 | 9 => 9 | 4 => 4 | 171 => 202 | 0 => 0 | 53 => 165 | 37 => 116 | 5 => 5 | 173 => 205 | 212 => 227 | 51 => 35 | 20 => 20 | 213 => 228 | 46 => 198 | 232 => 249 | 233 => 250 | n => n, fun | 17 => 2 | 18 => 6 | 19 => 7 | n => n⟩
theorem Tryz.laysM173 : Go.Proofs.LaysM.n173 Tryz.prog Tryz.laysM173_ren := {
  mixed := by kernel_rfl
  f129 := Tryz.func187.trans (congrArg some (by kernel_rfl))
  f173 := Tryz.func63.trans (congrArg some (by kernel_rfl))
  f246 := Tryz.func118.trans (congrArg some (by kernel_rfl))
  f283 := Tryz.func156.trans (congrArg some (by kernel_rfl))
  f284 := Tryz.func157.trans (congrArg some (by kernel_rfl))
  f285 := Tryz.func158.trans (congrArg some (by kernel_rfl))
  f286 := Tryz.func159.trans (congrArg some (by kernel_rfl))
  f317 := Tryz.func186.trans (congrArg some (by kernel_rfl))
  f318 := Tryz.func188.trans (congrArg some (by kernel_rfl))
  f319 := Tryz.func189.trans (congrArg some (by kernel_rfl))
  f320 := Tryz.func190.trans (congrArg some (by kernel_rfl))
  f337 := Tryz.func197.trans (congrArg some (by kernel_rfl))
  f338 := Tryz.func198.trans (congrArg some (by kernel_rfl))
  t0 := Tryz.underlying0
  a0 := Tryz.isAgg0
  z0 := Tryz.sizeOf0
  v0 := Tryz.zeroValue0
  t2 := Tryz.underlying2
  a2 := Tryz.isAgg2
  z2 := Tryz.sizeOf2
  v2 := Tryz.zeroValue2
  t3 := Tryz.underlying3
  a3 := Tryz.isAgg3
  z3 := Tryz.sizeOf3
  v3 := Tryz.zeroValue3
  t4 := Tryz.underlying4
  a4 := Tryz.isAgg4
  z4 := Tryz.sizeOf4
  v4 := Tryz.zeroValue4
  t5 := Tryz.underlying5
  a5 := Tryz.isAgg5
  z5 := Tryz.sizeOf5
  v5 := Tryz.zeroValue5
  t9 := Tryz.underlying9
  a9 := Tryz.isAgg9
  z9 := Tryz.sizeOf9
  v9 := Tryz.zeroValue9
  t20 := Tryz.underlying20
  a20 := Tryz.isAgg20
  z20 := Tryz.sizeOf20
  v20 := Tryz.zeroValue20
  t37 := Tryz.underlying116
  a37 := Tryz.isAgg116
  z37 := Tryz.sizeOf116
  v37 := Tryz.zeroValue116
  t46 := Tryz.underlying198
  a46 := Tryz.isAgg198
  z46 := Tryz.sizeOf198
  v46 := Tryz.zeroValue198
  t51 := Tryz.underlying35
  a51 := Tryz.isAgg35
  z51 := Tryz.sizeOf35
  v51 := Tryz.zeroValue35
  t53 := Tryz.underlying165
  a53 := Tryz.isAgg165
  z53 := Tryz.sizeOf165
  v53 := Tryz.zeroValue165
  t171 := Tryz.underlying202
  a171 := Tryz.isAgg202
  z171 := Tryz.sizeOf202
  v171 := Tryz.zeroValue202
  t173 := Tryz.underlying205
  a173 := Tryz.isAgg205
  z173 := Tryz.sizeOf205
  v173 := Tryz.zeroValue205
  t212 := Tryz.underlying227
  a212 := Tryz.isAgg227
  z212 := Tryz.sizeOf227
  v212 := Tryz.zeroValue227
  t213 := Tryz.underlying228
  a213 := Tryz.isAgg228
  z213 := Tryz.sizeOf228
  t232 := Tryz.underlying249
  a232 := Tryz.isAgg249
  z232 := Tryz.sizeOf249
  v232 := Tryz.zeroValue249
  t233 := Tryz.underlying250
  a233 := Tryz.isAgg250
  z233 := Tryz.sizeOf250
  v233 := Tryz.zeroValue250
  g17 := by kernel_rfl
  g18 := by kernel_rfl
  g19 := by kernel_rfl
  i0 := by kernel_rfl
  i2 := by kernel_rfl
  i3 := by kernel_rfl
  i4 := by kernel_rfl
  i5 := by kernel_rfl
  i9 := by kernel_rfl
  i20 := by kernel_rfl
  i37 := by kernel_rfl
  i46 := by kernel_rfl
  i51 := by kernel_rfl
  i53 := by kernel_rfl
  i171 := by kernel_rfl
  i173 := by kernel_rfl
  i212 := by kernel_rfl
  i232 := by kernel_rfl
  i233 := by kernel_rfl
  m17 := by kernel_rfl
  m18 := by kernel_rfl
  m19 := by kernel_rfl }
open Go.RowKit Go.Sort Go.Lib in
theorem Tryz.strconv_FormatInt_10 (n : Int) (h0 : -9223372036854775808 ≤ n) (h1 : n ≤ 9223372036854775807) (w : World) (htab : Lib.TabIs Tryz.prog w "internal/strconv.uint64pow10" .u64 Lib.pow10Tab) :
    Calls Tryz.prog 63 #[.int .i64 n, .int .i64 10] w fun e w' => e = .returned (.string ⟨(Lib.itoa n).toArray⟩) ∧ ∃ k os, w' = grow (w.drewN k) os := Any.strconv_FormatInt_10 Tryz.laysM173 n h0 h1 w htab
def Tryz.laysC172_ren : Go.Shelf.Ren := ⟨fun | 172 => 102 | 244 => 145 | 245 => 111 | 247 => 110 | 279 => 151 | 280 => 152 | 281 => 153 | 282 => 154 | 287 => 150 | 316 => 184 | 171 => 64 | 205 => 185 | 321 => 182 | 322 => 183 | 243 => 119 | 246 => 118 | 283 => 156 | 284 => 157 | 285 => 158 | 286 => 159 | 129 => 187 | 317 => 186 | 318 => 188 | 319 => 189 | 320 => 190 | 337 => 197 | 338 => 198 | n => n, fun | 9 => 9 | 3 => 3 | 75 => 101 | 76 => 151 | 4 => 4 | 5 => 5 | 167 => 195 | 37 => 116 | 0 => 0 | 85 => 102 | 2 => 2 | 168 => 199 | 53 => 165 | 175 => 196 | 46 => 198 | 210 => 223 | 127 => 241 | 145 => 244 | 143 => 242 | 21 => 21 | 171 => 202 | 173 => 205 | 212 => 227 | 51 => 35 | 20 => 20 | 213 => 228 | 232 => 249 | 233 => 250 | 80 => 147 | n => n, fun | 15 => 0 | 16 => 1 | 17 => 2 | 18 => 6 | 19 => 7 | n => n⟩
theorem Tryz.laysC172 : Go.Proofs.LaysC.n172 Tryz.prog Tryz.laysC172_ren := {
  mixed := by kernel_rfl
  f129 := Tryz.func187.trans (congrArg some (by kernel_rfl))
  f171 := Tryz.func64.trans (congrArg some (by kernel_rfl))
  f172 := Tryz.func102.trans (congrArg some (by kernel_rfl))
  f205 := Tryz.func185.trans (congrArg some (by kernel_rfl))
  f243 := Tryz.func119.trans (congrArg some (by kernel_rfl))
  f244 := Tryz.func145.trans (congrArg some (by kernel_rfl))
  f245 := Tryz.func111.trans (congrArg some (by kernel_rfl))
  f246 := Tryz.func118.trans (congrArg some (by kernel_rfl))
  f247 := Tryz.func110.trans (congrArg some (by kernel_rfl))
  f279 := Tryz.func151.trans (congrArg some (by kernel_rfl))
  f280 := Tryz.func152.trans (congrArg some (by kernel_rfl))
  f281 := Tryz.func153.trans (congrArg some (by kernel_rfl))
  f282 := Tryz.func154.trans (congrArg some (by kernel_rfl))
  f283 := Tryz.func156.trans (congrArg some (by kernel_rfl))
  f284 := Tryz.func157.trans (congrArg some (by kernel_rfl))
  f285 := Tryz.func158.trans (congrArg some (by kernel_rfl))
  f286 := Tryz.func159.trans (congrArg some (by kernel_rfl))
  f287 := Tryz.func150.trans (congrArg some (by kernel_rfl))
  f316 := Tryz.func184.trans (congrArg some (by kernel_rfl))
  f317 := Tryz.func186.trans (congrArg some (by kernel_rfl))
  f318 := Tryz.func188.trans (congrArg some (by kernel_rfl))
  f319 := Tryz.func189.trans (congrArg some (by kernel_rfl))
  f320 := Tryz.func190.trans (congrArg some (by kernel_rfl))
  f321 := Tryz.func182.trans (congrArg some (by kernel_rfl))
  f322 := Tryz.func183.trans (congrArg some (by kernel_rfl))
  f337 := Tryz.func197.trans (congrArg some (by kernel_rfl))
  f338 := Tryz.func198.trans (congrArg some (by kernel_rfl))
  t0 := Tryz.underlying0
  a0 := Tryz.isAgg0
  z0 := Tryz.sizeOf0
  v0 := Tryz.zeroValue0
  t2 := Tryz.underlying2
  a2 := Tryz.isAgg2
  z2 := Tryz.sizeOf2
  v2 := Tryz.zeroValue2
  t3 := Tryz.underlying3
  a3 := Tryz.isAgg3
  z3 := Tryz.sizeOf3
  v3 := Tryz.zeroValue3
  t4 := Tryz.underlying4
  a4 := Tryz.isAgg4
  z4 := Tryz.sizeOf4
  v4 := Tryz.zeroValue4
  t5 := Tryz.underlying5
  a5 := Tryz.isAgg5
  z5 := Tryz.sizeOf5
  v5 := Tryz.zeroValue5
  t9 := Tryz.underlying9
  a9 := Tryz.isAgg9
  z9 := Tryz.sizeOf9
  v9 := Tryz.zeroValue9
  t20 := Tryz.underlying20
  a20 := Tryz.isAgg20
  z20 := Tryz.sizeOf20
  v20 := Tryz.zeroValue20
  t21 := Tryz.underlying21
  a21 := Tryz.isAgg21
  z21 := Tryz.sizeOf21
  v21 := Tryz.zeroValue21
  t37 := Tryz.underlying116
  a37 := Tryz.isAgg116
  z37 := Tryz.sizeOf116
  v37 := Tryz.zeroValue116
  t46 := Tryz.underlying198
  a46 := Tryz.isAgg198
  z46 := Tryz.sizeOf198
  v46 := Tryz.zeroValue198
  t51 := Tryz.underlying35
  a51 := Tryz.isAgg35
  z51 := Tryz.sizeOf35
  v51 := Tryz.zeroValue35
  t53 := Tryz.underlying165
  a53 := Tryz.isAgg165
  z53 := Tryz.sizeOf165
  v53 := Tryz.zeroValue165
  t75 := Tryz.underlying101
  a75 := Tryz.isAgg101
  z75 := Tryz.sizeOf101
  v75 := Tryz.zeroValue101
  t76 := Tryz.underlying151
  a76 := Tryz.isAgg151
  z76 := Tryz.sizeOf151
  v76 := Tryz.zeroValue151
  t85 := Tryz.underlying102
  a85 := Tryz.isAgg102
  z85 := Tryz.sizeOf102
  v85 := Tryz.zeroValue102
  t127 := Tryz.underlying241
  a127 := Tryz.isAgg241
  z127 := Tryz.sizeOf241
  v127 := Tryz.zeroValue241
  t143 := Tryz.underlying242
  a143 := Tryz.isAgg242
  z143 := Tryz.sizeOf242
  v143 := Tryz.zeroValue242
  t145 := Tryz.underlying244
  a145 := Tryz.isAgg244
  z145 := Tryz.sizeOf244
  v145 := Tryz.zeroValue244
  t167 := Tryz.underlying195
  a167 := Tryz.isAgg195
  z167 := Tryz.sizeOf195
  v167 := Tryz.zeroValue195
  t168 := Tryz.underlying199
  a168 := Tryz.isAgg199
  z168 := Tryz.sizeOf199
  v168 := Tryz.zeroValue199
  t171 := Tryz.underlying202
  a171 := Tryz.isAgg202
  z171 := Tryz.sizeOf202
  v171 := Tryz.zeroValue202
  t173 := Tryz.underlying205
  a173 := Tryz.isAgg205
  z173 := Tryz.sizeOf205
  v173 := Tryz.zeroValue205
  t175 := Tryz.underlying196
  a175 := Tryz.isAgg196
  z175 := Tryz.sizeOf196
  v175 := Tryz.zeroValue196
  t210 := Tryz.underlying223
  a210 := Tryz.isAgg223
  z210 := Tryz.sizeOf223
  v210 := Tryz.zeroValue223
  t212 := Tryz.underlying227
  a212 := Tryz.isAgg227
  z212 := Tryz.sizeOf227
  v212 := Tryz.zeroValue227
  t213 := Tryz.underlying228
  a213 := Tryz.isAgg228
  z213 := Tryz.sizeOf228
  t232 := Tryz.underlying249
  a232 := Tryz.isAgg249
  z232 := Tryz.sizeOf249
  v232 := Tryz.zeroValue249
  t233 := Tryz.underlying250
  a233 := Tryz.isAgg250
  z233 := Tryz.sizeOf250
  v233 := Tryz.zeroValue250
  g15 := by kernel_rfl
  g16 := by kernel_rfl
  g17 := by kernel_rfl
  g18 := by kernel_rfl
  g19 := by kernel_rfl
  t80 := Tryz.underlying147
  a80 := Tryz.isAgg147
  z80 := Tryz.sizeOf147
  v80 := Tryz.zeroValue147
  i0 := by kernel_rfl
  i2 := by kernel_rfl
  i3 := by kernel_rfl
  i4 := by kernel_rfl
  i5 := by kernel_rfl
  i9 := by kernel_rfl
  i20 := by kernel_rfl
  i21 := by kernel_rfl
  i37 := by kernel_rfl
  i46 := by kernel_rfl
  i51 := by kernel_rfl
  i53 := by kernel_rfl
  i75 := by kernel_rfl
  i76 := by kernel_rfl
  i80 := by kernel_rfl
  i85 := by kernel_rfl
  i127 := by kernel_rfl
  i143 := by kernel_rfl
  i145 := by kernel_rfl
  i167 := by kernel_rfl
  i168 := by kernel_rfl
  i171 := by kernel_rfl
  i173 := by kernel_rfl
  i175 := by kernel_rfl
  i210 := by kernel_rfl
  i212 := by kernel_rfl
  i232 := by kernel_rfl
  i233 := by kernel_rfl
  m15 := by kernel_rfl
  m16 := by kernel_rfl
  m17 := by kernel_rfl
  m18 := by kernel_rfl
  m19 := by kernel_rfl
  c0 := by kernel_rfl
  c2 := by kernel_rfl
  c3 := by kernel_rfl
  c4 := by kernel_rfl
  c5 := by kernel_rfl
  c9 := by kernel_rfl
  c20 := by kernel_rfl
  c21 := by kernel_rfl
  c37 := by kernel_rfl
  c46 := by kernel_rfl
  c51 := by kernel_rfl
  c53 := by kernel_rfl
  c75 := by kernel_rfl
  c76 := by kernel_rfl
  c80 := by kernel_rfl
  c85 := by kernel_rfl
  c127 := by kernel_rfl
  c143 := by kernel_rfl
  c145 := by kernel_rfl
  c167 := by kernel_rfl
  c168 := by kernel_rfl
  c171 := by kernel_rfl
  c173 := by kernel_rfl
  c175 := by kernel_rfl
  c210 := by kernel_rfl
  c212 := by kernel_rfl
  c213 := by kernel_rfl
  c232 := by kernel_rfl
  c233 := by kernel_rfl }
open Go.RowKit in
theorem Tryz.strconv_Atoi_ok (s : ByteArray) (hmax : s.size ≤ 9223372036854775806) (v : Int) (h : Lib.atoiAll s.data.toList = .ok v) (w : World) :
    Calls Tryz.prog 102 #[.string s] w fun e w' => e = .returned (.tuple #[.int .i64 v, .nilIface]) ∧ (w' = w ∨ ∃ t, w' = Lib.bytesWorld w 5 t) := Any.strconv_Atoi_ok Tryz.laysC172 s hmax v h w
open Go.RowKit in
theorem Tryz.strconv_Atoi_syntax (s : ByteArray) (hlim : s.size ≤ 281474976710656) (h : Lib.atoiAll s.data.toList ≠ .range ∧ ∀ v, Lib.atoiAll s.data.toList ≠ .ok v) (ev : Value) (w : World) (hv : w.cell? ⟨0, 0, none⟩ = some ev) (hev : ev = .nilIface ∨ ∃ te pe, ev = .iface te pe) :
    Calls Tryz.prog 102 #[.string s] w fun e w' => ∃ N, e = .returned (.tuple #[.int .i64 (0), .iface 199 (.pointer (some ⟨N, 0, none⟩))]) ∧ w.heap.size ≤ N ∧ w'.heap[N]? = some (.cells #[.string ⟨#[65, 116, 111, 105]⟩, .string s, ev] 223 (0, 0)) ∧ Below w.heap.size w w' := Any.strconv_Atoi_syntax Tryz.laysC172 s hlim (by rcases hx : Lib.atoiAll s.data.toList with v | _ | _ <;> first | rfl | exact absurd hx (h.2 _) | exact absurd hx h.1) ev w hv hev
open Go.RowKit in
theorem Tryz.strconv_Atoi_range (s : ByteArray) (hlim : s.size ≤ 281474976710656) (h : Lib.atoiAll s.data.toList = .range) (ev : Value) (w : World) (hv : w.cell? ⟨1, 0, none⟩ = some ev) (hev : ev = .nilIface ∨ ∃ te pe, ev = .iface te pe) :
    Calls Tryz.prog 102 #[.string s] w fun e w' => ∃ N, e = .returned (.tuple #[.int .i64 (Lib.atoiSat s.data.toList), .iface 199 (.pointer (some ⟨N, 0, none⟩))]) ∧ w.heap.size ≤ N ∧ w'.heap[N]? = some (.cells #[.string ⟨#[65, 116, 111, 105]⟩, .string s, ev] 223 (0, 0)) ∧ Below w.heap.size w w' := Any.strconv_Atoi_range Tryz.laysC172 s hlim h ev w hv hev
def Tryz.laysC174_ren : Go.Shelf.Ren := ⟨fun | 174 => 54 | 247 => 110 | 245 => 111 | 287 => 150 | 279 => 151 | 280 => 152 | 281 => 153 | 282 => 154 | 321 => 182 | 322 => 183 | 316 => 184 | 171 => 64 | 205 => 185 | 243 => 119 | 246 => 118 | 283 => 156 | 284 => 157 | 285 => 158 | 286 => 159 | 129 => 187 | 317 => 186 | 318 => 188 | 319 => 189 | 320 => 190 | 337 => 197 | 338 => 198 | n => n, fun | 9 => 9 | 3 => 3 | 2 => 2 | 75 => 101 | 85 => 102 | 4 => 4 | 167 => 195 | 5 => 5 | 53 => 165 | 175 => 196 | 46 => 198 | 168 => 199 | 37 => 116 | 0 => 0 | 210 => 223 | 21 => 21 | 127 => 241 | 145 => 244 | 143 => 242 | 171 => 202 | 173 => 205 | 212 => 227 | 51 => 35 | 20 => 20 | 213 => 228 | 232 => 249 | 233 => 250 | 80 => 147 | n => n, fun | 15 => 0 | 16 => 1 | 17 => 2 | 18 => 6 | 19 => 7 | n => n⟩
theorem Tryz.laysC174 : Go.Proofs.LaysC.n174 Tryz.prog Tryz.laysC174_ren := {
  mixed := by kernel_rfl
  f129 := Tryz.func187.trans (congrArg some (by kernel_rfl))
  f171 := Tryz.func64.trans (congrArg some (by kernel_rfl))
  f174 := Tryz.func54.trans (congrArg some (by kernel_rfl))
  f205 := Tryz.func185.trans (congrArg some (by kernel_rfl))
  f243 := Tryz.func119.trans (congrArg some (by kernel_rfl))
  f245 := Tryz.func111.trans (congrArg some (by kernel_rfl))
  f246 := Tryz.func118.trans (congrArg some (by kernel_rfl))
  f247 := Tryz.func110.trans (congrArg some (by kernel_rfl))
  f279 := Tryz.func151.trans (congrArg some (by kernel_rfl))
  f280 := Tryz.func152.trans (congrArg some (by kernel_rfl))
  f281 := Tryz.func153.trans (congrArg some (by kernel_rfl))
  f282 := Tryz.func154.trans (congrArg some (by kernel_rfl))
  f283 := Tryz.func156.trans (congrArg some (by kernel_rfl))
  f284 := Tryz.func157.trans (congrArg some (by kernel_rfl))
  f285 := Tryz.func158.trans (congrArg some (by kernel_rfl))
  f286 := Tryz.func159.trans (congrArg some (by kernel_rfl))
  f287 := Tryz.func150.trans (congrArg some (by kernel_rfl))
  f316 := Tryz.func184.trans (congrArg some (by kernel_rfl))
  f317 := Tryz.func186.trans (congrArg some (by kernel_rfl))
  f318 := Tryz.func188.trans (congrArg some (by kernel_rfl))
  f319 := Tryz.func189.trans (congrArg some (by kernel_rfl))
  f320 := Tryz.func190.trans (congrArg some (by kernel_rfl))
  f321 := Tryz.func182.trans (congrArg some (by kernel_rfl))
  f322 := Tryz.func183.trans (congrArg some (by kernel_rfl))
  f337 := Tryz.func197.trans (congrArg some (by kernel_rfl))
  f338 := Tryz.func198.trans (congrArg some (by kernel_rfl))
  t0 := Tryz.underlying0
  a0 := Tryz.isAgg0
  z0 := Tryz.sizeOf0
  v0 := Tryz.zeroValue0
  t2 := Tryz.underlying2
  a2 := Tryz.isAgg2
  z2 := Tryz.sizeOf2
  v2 := Tryz.zeroValue2
  t3 := Tryz.underlying3
  a3 := Tryz.isAgg3
  z3 := Tryz.sizeOf3
  v3 := Tryz.zeroValue3
  t4 := Tryz.underlying4
  a4 := Tryz.isAgg4
  z4 := Tryz.sizeOf4
  v4 := Tryz.zeroValue4
  t5 := Tryz.underlying5
  a5 := Tryz.isAgg5
  z5 := Tryz.sizeOf5
  v5 := Tryz.zeroValue5
  t9 := Tryz.underlying9
  a9 := Tryz.isAgg9
  z9 := Tryz.sizeOf9
  v9 := Tryz.zeroValue9
  t20 := Tryz.underlying20
  a20 := Tryz.isAgg20
  z20 := Tryz.sizeOf20
  v20 := Tryz.zeroValue20
  t21 := Tryz.underlying21
  a21 := Tryz.isAgg21
  z21 := Tryz.sizeOf21
  v21 := Tryz.zeroValue21
  t37 := Tryz.underlying116
  a37 := Tryz.isAgg116
  z37 := Tryz.sizeOf116
  v37 := Tryz.zeroValue116
  t46 := Tryz.underlying198
  a46 := Tryz.isAgg198
  z46 := Tryz.sizeOf198
  v46 := Tryz.zeroValue198
  t51 := Tryz.underlying35
  a51 := Tryz.isAgg35
  z51 := Tryz.sizeOf35
  v51 := Tryz.zeroValue35
  t53 := Tryz.underlying165
  a53 := Tryz.isAgg165
  z53 := Tryz.sizeOf165
  v53 := Tryz.zeroValue165
  t75 := Tryz.underlying101
  a75 := Tryz.isAgg101
  z75 := Tryz.sizeOf101
  v75 := Tryz.zeroValue101
  t85 := Tryz.underlying102
  a85 := Tryz.isAgg102
  z85 := Tryz.sizeOf102
  v85 := Tryz.zeroValue102
  t127 := Tryz.underlying241
  a127 := Tryz.isAgg241
  z127 := Tryz.sizeOf241
  v127 := Tryz.zeroValue241
  t143 := Tryz.underlying242
  a143 := Tryz.isAgg242
  z143 := Tryz.sizeOf242
  v143 := Tryz.zeroValue242
  t145 := Tryz.underlying244
  a145 := Tryz.isAgg244
  z145 := Tryz.sizeOf244
  v145 := Tryz.zeroValue244
  t167 := Tryz.underlying195
  a167 := Tryz.isAgg195
  z167 := Tryz.sizeOf195
  v167 := Tryz.zeroValue195
  t168 := Tryz.underlying199
  a168 := Tryz.isAgg199
  z168 := Tryz.sizeOf199
  v168 := Tryz.zeroValue199
  t171 := Tryz.underlying202
  a171 := Tryz.isAgg202
  z171 := Tryz.sizeOf202
  v171 := Tryz.zeroValue202
  t173 := Tryz.underlying205
  a173 := Tryz.isAgg205
  z173 := Tryz.sizeOf205
  v173 := Tryz.zeroValue205
  t175 := Tryz.underlying196
  a175 := Tryz.isAgg196
  z175 := Tryz.sizeOf196
  v175 := Tryz.zeroValue196
  t210 := Tryz.underlying223
  a210 := Tryz.isAgg223
  z210 := Tryz.sizeOf223
  v210 := Tryz.zeroValue223
  t212 := Tryz.underlying227
  a212 := Tryz.isAgg227
  z212 := Tryz.sizeOf227
  v212 := Tryz.zeroValue227
  t213 := Tryz.underlying228
  a213 := Tryz.isAgg228
  z213 := Tryz.sizeOf228
  t232 := Tryz.underlying249
  a232 := Tryz.isAgg249
  z232 := Tryz.sizeOf249
  v232 := Tryz.zeroValue249
  t233 := Tryz.underlying250
  a233 := Tryz.isAgg250
  z233 := Tryz.sizeOf250
  v233 := Tryz.zeroValue250
  g15 := by kernel_rfl
  g16 := by kernel_rfl
  g17 := by kernel_rfl
  g18 := by kernel_rfl
  g19 := by kernel_rfl
  t80 := Tryz.underlying147
  a80 := Tryz.isAgg147
  z80 := Tryz.sizeOf147
  v80 := Tryz.zeroValue147
  i0 := by kernel_rfl
  i2 := by kernel_rfl
  i3 := by kernel_rfl
  i4 := by kernel_rfl
  i5 := by kernel_rfl
  i9 := by kernel_rfl
  i20 := by kernel_rfl
  i21 := by kernel_rfl
  i37 := by kernel_rfl
  i46 := by kernel_rfl
  i51 := by kernel_rfl
  i53 := by kernel_rfl
  i75 := by kernel_rfl
  i80 := by kernel_rfl
  i85 := by kernel_rfl
  i127 := by kernel_rfl
  i143 := by kernel_rfl
  i145 := by kernel_rfl
  i167 := by kernel_rfl
  i168 := by kernel_rfl
  i171 := by kernel_rfl
  i173 := by kernel_rfl
  i175 := by kernel_rfl
  i210 := by kernel_rfl
  i212 := by kernel_rfl
  i232 := by kernel_rfl
  i233 := by kernel_rfl
  m15 := by kernel_rfl
  m16 := by kernel_rfl
  m17 := by kernel_rfl
  m18 := by kernel_rfl
  m19 := by kernel_rfl
  c0 := by kernel_rfl
  c2 := by kernel_rfl
  c3 := by kernel_rfl
  c4 := by kernel_rfl
  c5 := by kernel_rfl
  c9 := by kernel_rfl
  c20 := by kernel_rfl
  c21 := by kernel_rfl
  c37 := by kernel_rfl
  c46 := by kernel_rfl
  c51 := by kernel_rfl
  c53 := by kernel_rfl
  c75 := by kernel_rfl
  c80 := by kernel_rfl
  c85 := by kernel_rfl
  c127 := by kernel_rfl
  c143 := by kernel_rfl
  c145 := by kernel_rfl
  c167 := by kernel_rfl
  c168 := by kernel_rfl
  c171 := by kernel_rfl
  c173 := by kernel_rfl
  c175 := by kernel_rfl
  c210 := by kernel_rfl
  c212 := by kernel_rfl
  c213 := by kernel_rfl
  c232 := by kernel_rfl
  c233 := by kernel_rfl }
open Go.RowKit in
theorem Tryz.strconv_ParseInt_10_at64_ok (s : ByteArray) (hmax : s.size ≤ 9223372036854775806) (v : Int) (h : Lib.parseIntB 64 s.data.toList = .ok v) (w : World) :
    Calls Tryz.prog 54 #[.string s, .int .i64 10, .int .i64 64] w fun e w' => e = .returned (.tuple #[.int .i64 v, .nilIface]) ∧ (w' = w ∨ ∃ t, w' = Lib.bytesWorld w 5 t) := Any.strconv_ParseInt_10_at64_ok Tryz.laysC174 s hmax v h w
def Tryz.lays99_ren : Go.Shelf.Ren := ⟨fun | 99 => 50 | 206 => 101 | n => n, fun | 9 => 9 | 4 => 4 | 3 => 3 | n => n, fun | n => n⟩
theorem Tryz.lays99 : Go.Proofs.Lays.n99 Tryz.prog Tryz.lays99_ren := {
  mixed := by kernel_rfl
  f99 := Tryz.func50.trans (congrArg some (by kernel_rfl))
  f206 := Tryz.func101.trans (congrArg some (by kernel_rfl))
  t3 := Tryz.underlying3
  a3 := Tryz.isAgg3
  z3 := Tryz.sizeOf3
  v3 := Tryz.zeroValue3
  t4 := Tryz.underlying4
  a4 := Tryz.isAgg4
  z4 := Tryz.sizeOf4
  v4 := Tryz.zeroValue4
  t9 := Tryz.underlying9
  a9 := Tryz.isAgg9
  z9 := Tryz.sizeOf9
  v9 := Tryz.zeroValue9 }
open Go.RowKit Go.Lib in
theorem Tryz.strings_HasPrefix (s p : ByteArray) (w : World) :
    Calls Tryz.prog 50 #[.string s, .string p] w fun e w' => e = .returned (.bool (Lib.hasPrefix s.data.toList p.data.toList)) ∧ w' = w := Any.strings_HasPrefix Tryz.lays99 s p w
end Go.Proofs
end
section
/- The library's contracts that the texts of numbers lean on, taken over. -/
namespace Go.Proofs.YtfjelkjlfcafgaaGreatDoor.NumL
open Go Go.RowKit Go.Proofs.YtfjelkjlfcafgaaGreatDoor.Ax Go.Proofs.YtfjelkjlfcafgaaGreatDoor.BigM Go.Proofs.YtfjelkjlfcafgaaGreatDoor.NumS Go.Proofs.YtfjelkjlfcafgaaGreatDoor.NumT
set_option linter.unusedSimpArgs false
set_option linter.unusedVariables false
set_option maxRecDepth 4000

theorem data_bs (l : List Nat) : (bs l).data.toList = l.map UInt8.ofNat := by
  show ((l.map UInt8.ofNat).toArray).toList = _
  rw [List.toList_toArray]
theorem ofNat_inj {a b : Nat} (ha : a < 256) (hb : b < 256) (h : UInt8.ofNat a = UInt8.ofNat b) : a = b := by
  have := congrArg UInt8.toNat h
  simpa [Nat.mod_eq_of_lt ha, Nat.mod_eq_of_lt hb] using this
theorem pre_one (l : List Nat) (h : By l) (c : Nat) (hc : c < 256) : Lib.hasPrefix (l.map UInt8.ofNat) [UInt8.ofNat c] = decide (l.head? = some c) := by
  cases l with
  | nil => rfl
  | cons a r =>
    have ha := h a (by simp)
    show (UInt8.ofNat c == UInt8.ofNat a && true) = _
    by_cases e : a = c
    · subst e; simp
    · have : UInt8.ofNat c ≠ UInt8.ofNat a := fun q => e (ofNat_inj ha hc q.symm)
      simp [this, e]
theorem below_self (w : World) : Below w.heap.size w w := Below.refl _ w
theorem hasPrefix_ax (l : List Nat) (h : By l) (c : Nat) (hc : c < 256) : PCall Tryz.prog 50 [.v (.string (bs l)), .v (.string (bs [c]))] (.v (.bool (decide (l.head? = some c)))) := by
  have e := pre_one l h c hc
  refine pcall_lift (us := [.string (bs l), .string (bs [c])]) (enters_of Tryz.func50 rfl rfl) (fun k => .v _) fun w => ?_
  refine (Tryz.strings_HasPrefix (bs l) (bs [c]) w).mono ?_
  rintro en w' ⟨rfl, rfl⟩
  rw [data_bs, data_bs, List.map_cons, List.map_nil, e]
  exact ⟨rfl, below_self _⟩
def cut1 (l : List Nat) (c : Nat) : List Nat := if l.head? = some c then l.tail else l
theorem cutPrefix_ax (l : List Nat) (h : By l) (c : Nat) (hc : c < 256) : PCall Tryz.prog 48 [.v (.string (bs l)), .v (.string (bs [c]))] (.tp [.v (.string (bs (cut1 l c))), .v (.bool (decide (l.head? = some c)))]) := by
  have e := pre_one l h c hc
  refine pcall_lift (us := [.string (bs l), .string (bs [c])]) (v := .tuple #[.string (bs (cut1 l c)), .bool (decide (l.head? = some c))]) (enters_of Tryz.func48 rfl rfl) (fun k => .tp _ [_, _] rfl fun j z u hz hu => ?_) fun w => ?_
  · match j with
    | 0 => simp at hz hu; subst hz hu; exact .v _
    | 1 => simp at hz hu; subst hz hu; exact .v _
    | j + 2 => simp at hz
  refine (Tryz.strings_CutPrefix (bs l) (bs [c]) w).mono ?_
  rintro en w' ⟨rfl, rfl⟩
  rw [data_bs, data_bs, List.map_cons, List.map_nil]
  unfold Lib.trimPrefix
  rw [e]
  refine ⟨?_, below_self _⟩
  unfold cut1
  by_cases q : l.head? = some c
  · rw [if_pos q, decide_eq_true q, if_pos rfl]
    cases l with
    | nil => cases q
    | cons a r => rfl
  · rw [if_neg q, decide_eq_false q, if_neg (by simp)]
    rfl
def lead (l : List Nat) : List Nat := l.dropWhile (· == 48)
def trail (l : List Nat) : List Nat := (l.reverse.dropWhile (· == 48)).reverse
theorem drop_map (l : List Nat) (h : By l) : (l.map UInt8.ofNat).dropWhile (· == UInt8.ofNat 48) = (l.dropWhile (· == 48)).map UInt8.ofNat := by
  induction l with
  | nil => rfl
  | cons a r ih =>
    have ha := h a (by simp)
    have ih := ih fun c hc => h c (by simp [hc])
    rw [List.map_cons, List.dropWhile_cons, List.dropWhile_cons]
    by_cases e : a = 48
    · subst e; simp only [beq_self_eq_true, if_true]; exact ih
    · have : UInt8.ofNat a ≠ UInt8.ofNat 48 := fun q => e (ofNat_inj ha (by decide) q)
      rw [if_neg (by simpa using this), if_neg (by simpa using e)]
      rfl
theorem trimLeft_ax (l : List Nat) (h : By l) : PCall Tryz.prog 52 [.v (.string (bs l)), .v (.string (bs [48]))] (.v (.string (bs (lead l)))) := by
  refine pcall_lift (us := [.string (bs l), .string (bs [48])]) (enters_of Tryz.func52 rfl rfl) (fun k => .v _) fun w => ?_
  refine (Tryz.strings_TrimLeft_one (bs l) (UInt8.ofNat 48) (by decide) w).mono ?_
  rintro en w' ⟨rfl, rfl⟩
  refine ⟨?_, below_self _⟩
  rw [data_bs]
  unfold Lib.trimLeftB
  rw [drop_map l h]
  rfl
theorem trimRight_ax (l : List Nat) (h : By l) (hl : l.length ≤ 1000000000) : PCall Tryz.prog 53 [.v (.string (bs l)), .v (.string (bs [48]))] (.v (.string (bs (trail l)))) := by
  refine pcall_lift (us := [.string (bs l), .string (bs [48])]) (enters_of Tryz.func53 rfl rfl) (fun k => .v _) fun w => ?_
  refine (Tryz.strings_TrimRight_one (bs l) (UInt8.ofNat 48) (by decide) w (by rw [bs_size]; omega)).mono ?_
  rintro en w' ⟨rfl, rfl⟩
  refine ⟨?_, below_self _⟩
  rw [data_bs]
  unfold Lib.trimRightB
  rw [← List.map_reverse, drop_map _ (fun c hc => h c (List.mem_reverse.1 hc)), ← List.map_reverse]
  rfl
theorem dec_from (l : List Nat) (h : ∀ c ∈ l, isD c = true) : ∀ acc, Lib.decFrom acc (l.map UInt8.ofNat) = some (l.foldl (fun a c => 10 * a + (c - 48)) acc) := by
  induction l with
  | nil => intro acc; rfl
  | cons a r ih =>
    intro acc
    have ha := (isD_iff a).1 (h a (by simp))
    have hd : Lib.digitVal (UInt8.ofNat a) = some (a - 48) := by
      unfold Lib.digitVal
      have : (UInt8.ofNat a).toNat = a := by simp; omega
      rw [this, if_pos ha]
    rw [List.map_cons, List.foldl_cons, Lib.decFrom, hd]
    simp only
    rw [ih (fun c hc => h c (by simp [hc]))]
    congr 2
    omega
theorem atoi_ax (l : List Nat) (h : ∀ c ∈ l, isD c = true) (h0 : l ≠ []) (hl : l.length ≤ 18) : PCall Tryz.prog 102 [.v (.string (bs l))] (.tp [.v (.int .i64 (digV l : Nat)), .v .nilIface]) := by
  refine pcall_lift (us := [.string (bs l)]) (v := .tuple #[.int .i64 (digV l : Nat), .nilIface]) (enters_of Tryz.func102 rfl rfl) (fun k => .tp _ [_, _] rfl fun j z u hz hu => ?_) fun w => ?_
  · match j with
    | 0 => simp at hz hu; subst hz hu; exact .v _
    | 1 => simp at hz hu; subst hz hu; exact .v _
    | j + 2 => simp at hz
  refine (Tryz.strconv_Atoi (bs l) (digV l : Nat) (by rw [bs_size]; exact hl) ?_ w).mono ?_
  · rw [data_bs]
    cases l with
    | nil => exact absurd rfl h0
    | cons a r =>
      have ha := (isD_iff a).1 (h a (by simp))
      have h45 : (UInt8.ofNat a == 45) = false := by
        rw [beq_eq_false_iff_ne]
        intro q
        have := ofNat_inj (b := 45) (by omega) (by decide) q
        omega
      have h43 : (UInt8.ofNat a == 43) = false := by
        rw [beq_eq_false_iff_ne]
        intro q
        have := ofNat_inj (b := 43) (by omega) (by decide) q
        omega
      have hf := dec_from (a :: r) h 0
      rw [List.map_cons] at hf ⊢
      show (if (UInt8.ofNat a == 45) = true then Option.map (fun (m : Nat) => -(m : Int)) (Lib.decNat (List.map UInt8.ofNat r)) else if (UInt8.ofNat a == 43) = true then Option.map (fun (m : Nat) => (m : Int)) (Lib.decNat (List.map UInt8.ofNat r)) else Option.map (fun (m : Nat) => (m : Int)) (Lib.decNat (UInt8.ofNat a :: List.map UInt8.ofNat r))) = _
      rw [h45, h43]
      simp only [Bool.false_eq_true, if_false]
      unfold Lib.decNat
      rw [List.isEmpty_cons, if_neg (by simp), hf]
      rfl
  · rintro en w' ⟨rfl, t, rfl⟩
    exact ⟨rfl, Lib.bytesWorld_below _ _ _⟩
theorem uint_from (l : List Nat) (h : ∀ c ∈ l, isD c = true) : ∀ acc, (acc + 1) * 10 ^ l.length ≤ 1000000000 → Lib.parseUintM (2 ^ 64 - 1) acc (l.map UInt8.ofNat) = .ok (l.foldl (fun a c => 10 * a + (c - 48)) acc) := by
  induction l with
  | nil => intro acc hb; rfl
  | cons a r ih =>
    intro acc hb
    have ha := (isD_iff a).1 (h a (by simp))
    have e : (UInt8.ofNat a).toNat = a := by simp; omega
    rw [List.length_cons, Nat.pow_succ] at hb
    have hpos : 1 ≤ 10 ^ r.length := Nat.pow_pos (by decide)
    have h1 : (acc + 1) * (1 * 10) ≤ (acc + 1) * (10 ^ r.length * 10) := Nat.mul_le_mul_left _ (Nat.mul_le_mul_right _ hpos)
    have h2 : (acc * 10 + (a - 48) + 1) * 10 ^ r.length ≤ (acc + 1) * (10 ^ r.length * 10) := by
      rw [Nat.mul_comm (10 ^ r.length), ← Nat.mul_assoc]
      exact Nat.mul_le_mul_right _ (by omega)
    rw [List.map_cons, List.foldl_cons, Lib.parseUintM, e, if_pos ha, if_neg (by omega), if_neg (by omega), ih (fun c hc => h c (by simp [hc])) _ (by omega), Nat.mul_comm acc]
theorem parseInt_ax (l : List Nat) (h : ∀ c ∈ l, isD c = true) (h0 : l ≠ []) (hl : l.length ≤ 9) : PCall Tryz.prog 54 [.v (.string (bs l)), .v (.int .i64 10), .v (.int .i64 64)] (.tp [.v (.int .i64 (digV l : Nat)), .v .nilIface]) := by
  refine pcall_lift (us := [.string (bs l), .int .i64 10, .int .i64 64]) (v := .tuple #[.int .i64 (digV l : Nat), .nilIface]) (enters_of Tryz.func54 rfl rfl) (fun k => .tp _ [_, _] rfl fun j z u hz hu => ?_) fun w => ?_
  · match j with
    | 0 => simp at hz hu; subst hz hu; exact .v _
    | 1 => simp at hz hu; subst hz hu; exact .v _
    | j + 2 => simp at hz
  refine (Tryz.strconv_ParseInt_10_at64_ok (bs l) (by rw [bs_size]; omega) (digV l : Nat) ?_ w).mono ?_
  · rw [data_bs]
    have hb : (0 + 1) * 10 ^ l.length ≤ 1000000000 := by
      rw [Nat.zero_add, Nat.one_mul]
      exact Nat.le_trans (Nat.pow_le_pow_right (by decide) hl) (by decide)
    have hf := uint_from l h 0 hb
    cases l with
    | nil => exact absurd rfl h0
    | cons a r =>
      have ha := (isD_iff a).1 (h a (by simp))
      have e : (UInt8.ofNat a).toNat = a := by simp; omega
      rw [List.map_cons] at hf ⊢
      have hlt : digV (a :: r) < 2 ^ 63 := by
        have : ∀ (l : List Nat) (acc : Nat), (∀ c ∈ l, isD c = true) → l.foldl (fun a c => 10 * a + (c - 48)) acc + 1 ≤ (acc + 1) * 10 ^ l.length := by
          intro l
          induction l with
          | nil => intro acc _; simp
          | cons b l ih =>
            intro acc hd
            have hb := (isD_iff b).1 (hd b (by simp))
            have h3 := ih (10 * acc + (b - 48)) fun c hc => hd c (by simp [hc])
            rw [List.foldl_cons, List.length_cons, Nat.pow_succ, Nat.mul_comm (10 ^ l.length), ← Nat.mul_assoc]
            exact Nat.le_trans h3 (Nat.mul_le_mul_right _ (by omega))
        have h4 := this (a :: r) 0 h
        have h5 : digV (a :: r) + 1 ≤ (0 + 1) * 10 ^ (a :: r).length := h4
        omega
      unfold Lib.parseIntB Lib.parseUintB
      have n1 : ¬ (a = 43 ∨ a = 45) := by omega
      have n2 : ¬ a = 45 := by omega
      have hh : List.foldl (fun a c => 10 * a + (c - 48)) 0 (a :: r) = digV (a :: r) := rfl
      rw [hh] at hf
      simp only [e, if_neg n1, if_neg (List.cons_ne_nil _ _), hf]
      rw [if_neg (by omega), if_neg (by omega), if_neg n2]
  · rintro en w' ⟨rfl, q⟩
    refine ⟨rfl, ?_⟩
    rcases q with rfl | ⟨t, rfl⟩
    · exact below_self _
    · exact Lib.bytesWorld_below _ _ _
end Go.Proofs.YtfjelkjlfcafgaaGreatDoor.NumL
end
section
/- Plain lists: what num.Parse makes of digits. -/
namespace Go.Proofs.YtfjelkjlfcafgaaGreatDoor.NumP
open Go.Proofs.YtfjelkjlfcafgaaGreatDoor.BigM Go.Proofs.YtfjelkjlfcafgaaGreatDoor.NumS Go.Proofs.YtfjelkjlfcafgaaGreatDoor.NumT Go.Proofs.YtfjelkjlfcafgaaGreatDoor.NumL
set_option linter.unusedVariables false

theorem dw (m : List Nat) : ∃ n, m = List.replicate n 48 ++ m.dropWhile (· == 48) ∧ ∀ c, (m.dropWhile (· == 48)).head? = some c → c ≠ 48 := by
  induction m with
  | nil => exact ⟨0, rfl, fun c h => by cases h⟩
  | cons a m ih =>
    rw [List.dropWhile_cons]
    by_cases e : a = 48
    · obtain ⟨n, h1, h2⟩ := ih
      subst e
      simp only [beq_self_eq_true, if_true]
      refine ⟨n + 1, ?_, h2⟩
      rw [List.replicate_succ, List.cons_append, ← h1]
    · rw [if_neg (by simpa using e)]
      exact ⟨0, rfl, fun c h => by obtain rfl : a = c := by simpa using h
                                   exact e⟩
theorem fold_acc (l : List Nat) : ∀ acc, l.foldl (fun a c => 10 * a + (c - 48)) acc = acc * 10 ^ l.length + digV l := by
  induction l with
  | nil => intro acc; simp [digV]
  | cons c l ih =>
    intro acc
    have h0 : digV (c :: l) = l.foldl (fun a c => 10 * a + (c - 48)) (10 * 0 + (c - 48)) := rfl
    rw [List.foldl_cons, ih, h0, ih, List.length_cons, Nat.pow_succ, Nat.mul_zero, Nat.zero_add]
    have e1 : (10 * acc + (c - 48)) * 10 ^ l.length = acc * (10 ^ l.length * 10) + (c - 48) * 10 ^ l.length := by
      rw [Nat.add_mul, Nat.mul_comm 10 acc, Nat.mul_assoc, Nat.mul_comm 10]
    omega
theorem digV_append (a b : List Nat) : digV (a ++ b) = digV a * 10 ^ b.length + digV b := by
  unfold digV
  rw [List.foldl_append, fold_acc]
  rfl
theorem digV_rep (n : Nat) : digV (List.replicate n 48) = 0 := by
  have := digV_zeros [] n
  rw [List.nil_append] at this
  rw [this]
  simp [digV]
theorem lead_val (l : List Nat) : digV (lead l) = digV l := by
  obtain ⟨n, h1, h2⟩ := dw l
  have : digV l = digV (List.replicate n 48 ++ lead l) := congrArg digV h1
  rw [this, digV_append, digV_rep]
  simp
theorem lead_sub (l : List Nat) : ∀ c ∈ lead l, c ∈ l := fun c h => (List.dropWhile_sublist _).subset h
theorem lead_len (l : List Nat) : (lead l).length ≤ l.length := (List.dropWhile_sublist _).length_le
theorem trail_eq (l : List Nat) : ∃ n, l = trail l ++ List.replicate n 48 ∧ (∀ c, (trail l).reverse.head? = some c → c ≠ 48) := by
  obtain ⟨n, h1, h2⟩ := dw l.reverse
  refine ⟨n, ?_, fun c h => h2 c (by unfold trail at h; rw [List.reverse_reverse] at h; exact h)⟩
  have h3 := congrArg List.reverse h1
  rw [List.reverse_reverse, List.reverse_append, List.reverse_replicate] at h3
  exact h3
theorem dig_lt (l : List Nat) (h : ∀ c ∈ l, isD c = true) : digV l < 10 ^ l.length := by
  induction l with
  | nil => simp [digV]
  | cons c l ih =>
    have hc := (isD_iff c).1 (h c (by simp))
    have := ih fun x hx => h x (by simp [hx])
    have e := digV_append [c] l
    rw [List.singleton_append] at e
    rw [e, List.length_cons, Nat.pow_succ]
    have e1 : digV [c] = c - 48 := by simp [digV]
    rw [e1]
    have h2 : (c - 48) * 10 ^ l.length ≤ 9 * 10 ^ l.length := Nat.mul_le_mul_right _ (by omega)
    omega
theorem dig_ge (c : Nat) (l : List Nat) (h : 49 ≤ c) : 10 ^ l.length ≤ digV (c :: l) := by
  have e := digV_append [c] l
  rw [List.singleton_append] at e
  have e1 : digV [c] = c - 48 := by simp [digV]
  rw [e, e1]
  have h2 : 1 * 10 ^ l.length ≤ (c - 48) * 10 ^ l.length := Nat.mul_le_mul_right _ (by omega)
  omega
theorem fin_parse (neg : Bool) (ds : List Nat) (X : Int) (h : ∀ c ∈ ds, isD c = true) :
    (lead ds = [] → finS neg (digV ds) X = (0, 0, 0)) ∧
    (lead ds ≠ [] → trail (lead ds) ≠ [] ∧ (∀ c ∈ trail (lead ds), isD c = true) ∧ (trail (lead ds)).length ≤ (lead ds).length ∧
      (if (trail (lead ds)).length > 9 ∨ X + ((lead ds).length - (trail (lead ds)).length : Nat) < -18 ∨ X + ((lead ds).length - (trail (lead ds)).length : Nat) > 9 then finS neg (digV ds) X = (0, 0, 30)
       else finS neg (digV ds) X = (if neg then -(digV (trail (lead ds)) : Int) else digV (trail (lead ds)), X + ((lead ds).length - (trail (lead ds)).length : Nat), 0))) := by
  have hv := lead_val ds
  have hl : ∀ c ∈ lead ds, isD c = true := fun c hc => h c (lead_sub ds c hc)
  obtain ⟨_, _, hhead⟩ := dw ds
  constructor
  · intro e
    rw [e] at hv
    unfold finS
    rw [← hv]
    rfl
  · intro hne
    obtain ⟨n, t1, t2⟩ := trail_eq (lead ds)
    have hlen := congrArg List.length t1
    rw [List.length_append, List.length_replicate] at hlen
    have hval := congrArg digV t1
    rw [digV_zeros, hv] at hval
    have hds : ∀ c ∈ trail (lead ds), isD c = true := fun c hc => hl c (by rw [t1]; exact List.mem_append_left _ hc)
    have hh : ∀ c, (lead ds).head? = some c → 49 ≤ c := fun c hc => by
      have a := hhead c hc
      have b := (isD_iff c).1 (hl c (List.mem_of_head? hc))
      omega
    have htne : trail (lead ds) ≠ [] := fun e => by
      rw [e, List.nil_append] at t1
      cases n with
      | zero => exact hne t1
      | succ n =>
        have := hh 48 (by rw [t1]; rfl)
        omega
    generalize hT : trail (lead ds) = T at *
    obtain ⟨c, r, rfl⟩ : ∃ c r, T = c :: r := by
      cases T with
      | nil => exact absurd rfl htne
      | cons c r => exact ⟨c, r, rfl⟩
    have hc49 : 49 ≤ c := hh c (by rw [t1]; rfl)
    have hge := dig_ge c r hc49
    have hlt := dig_lt (c :: r) hds
    have hpos : 0 < digV (c :: r) := Nat.lt_of_lt_of_le (Nat.pow_pos (by decide)) hge
    have hmod : digV (c :: r) % 10 ≠ 0 := by
      obtain ⟨x, y, hxy⟩ : ∃ x y, c :: r = x ++ [y] := ⟨(c :: r).dropLast, (c :: r).getLast (by simp), (List.dropLast_concat_getLast (by simp)).symm⟩
      have hy := t2 y (by rw [hxy]; simp)
      have hyd := (isD_iff y).1 (hds y (by rw [hxy]; simp))
      rw [hxy, digV_snoc]
      omega
    have hst : strip (digV ds) X = (digV (c :: r), X + n) := by rw [hval, strip_pow _ hpos, strip_stop _ _ (fun q => hmod q.2)]
    have hd0 : digV ds ≠ 0 := by
      rw [hval]
      have := Nat.mul_pos hpos (Nat.pow_pos (n := n) (show 0 < 10 by decide))
      omega
    have hn : (lead ds).length - (c :: r).length = n := by omega
    refine ⟨htne, hds, by omega, ?_⟩
    rw [hn]
    have h9 : (c :: r).length > 9 ↔ ¬ digV (c :: r) ≤ 999999999 := by
      constructor
      · intro q
        have : 10 ^ 9 ≤ 10 ^ r.length := Nat.pow_le_pow_right (by decide) (by rw [List.length_cons] at q; omega)
        omega
      · intro q
        refine Nat.lt_of_not_le fun q2 => q ?_
        have : 10 ^ (c :: r).length ≤ 10 ^ 9 := Nat.pow_le_pow_right (by decide) q2
        omega
    unfold finS
    rw [if_neg hd0, hst]
    simp only
    by_cases q : (c :: r).length > 9 ∨ X + (n : Int) < -18 ∨ X + (n : Int) > 9
    · rw [if_pos q, if_neg]
      rintro ⟨a, b, d⟩
      rcases q with q | q | q
      · exact (h9.1 q) a
      · omega
      · omega
    · rw [if_neg q, if_pos]
      refine ⟨?_, by omega, by omega⟩
      have q1 : ¬ (c :: r).length > 9 := fun e => q (.inl e)
      rw [h9] at q1
      omega
theorem parse_cut (l : List Nat) (h : l.length ≤ 32) : parseS l = bodyS (decide (l.head? = some 45)) (cut1 l 45) := by
  unfold parseS cut1
  rw [if_neg (by omega)]
  split
  · rfl
  · rename_i hne
    cases l with
    | nil => rfl
    | cons a r =>
      have : a ≠ 45 := fun e => hne r (by rw [e])
      simp [this]
theorem fr_take (r : List Nat) : r.take (fr r).length = fr r := by
  have h2 : (fr r ++ bk r).take (fr r).length = fr r := List.take_left
  rw [fr_bk] at h2
  exact h2
theorem bk_drop (r : List Nat) : r.drop (fr r).length = bk r := by
  have h2 : (fr r ++ bk r).drop (fr r).length = bk r := List.drop_left
  rw [fr_bk] at h2
  exact h2
end Go.Proofs.YtfjelkjlfcafgaaGreatDoor.NumP
end
