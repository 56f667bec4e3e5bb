/- A part of the proof. -/
import Derived.Test.YtfjelkjlfcafgaaGreatDoorPCardModelsB
section
/- The document's whole numbers (layer 1): the inner functions, walked. -/
namespace Go.Proofs.YtfjelkjlfcafgaaGreatDoor.RefA
open Go Go.RowKit Go.Proofs.YtfjelkjlfcafgaaGreatDoor.Ax Go.Proofs.YtfjelkjlfcafgaaGreatDoor.Ti Go.Proofs.YtfjelkjlfcafgaaGreatDoor.BigM
set_option maxHeartbeats 2000000
set_option linter.unusedSimpArgs false
set_option linter.unusedVariables false

def DN (xs : List Nat) : AV := .sl xs.length (xs.map fun x : Nat => .v (.int .i64 (x : Int)))
def B : Nat := 65536
theorem trimZ_snoc0 : ∀ (l : List Nat), trimZ (l ++ [0]) = trimZ l
  | [] => rfl
  | d :: l => by
    rw [List.cons_append, trimZ, trimZ, trimZ_snoc0 l]
theorem trimZ_snoc (x : Nat) (hx : x ≠ 0) : ∀ (l : List Nat), trimZ (l ++ [x]) = l ++ [x]
  | [] => by simp [trimZ, hx]
  | d :: l => by
    rw [List.cons_append, trimZ, trimZ_snoc x hx l]
    simp
theorem take_pred (xs : List Nat) (n : Nat) (hn : 0 < n) (h : n ≤ xs.length) : xs.take n = xs.take (n - 1) ++ [xs.getD (n - 1) 0] := by
  have h1 : n - 1 < xs.length := by omega
  have := List.take_succ_eq_append_getElem h1
  rw [show n - 1 + 1 = n by omega] at this
  rw [this, List.getD_eq_getElem?_getD, List.getElem?_eq_getElem h1]
  rfl
theorem trimZ_last (xs : List Nat) (n : Nat) (hn : 0 < n) (h : n ≤ xs.length) (h0 : xs.getD (n - 1) 0 = 0) : trimZ (xs.take (n - 1)) = trimZ (xs.take n) := by
  rw [take_pred xs n hn h, h0, trimZ_snoc0]
theorem trimZ_stop (xs : List Nat) (n : Nat) (h : n ≤ xs.length) (h0 : n = 0 ∨ xs.getD (n - 1) 0 ≠ 0) : trimZ (xs.take n) = xs.take n := by
  by_cases hn : n = 0
  · subst hn; rfl
  · rw [take_pred xs n (by omega) h, trimZ_snoc _ (h0.resolve_left hn)]

theorem trim_ax (xs : List Nat) (hl : xs.length ≤ 140737488355328) : PCall Tryz.prog 115 [DN xs] (DN (trimZ xs)) := by
  refine pcall_of fun s => ?_
  refine acall_of Tryz.func115 rfl rfl (by simp [Tryz.ntmps115]) ?_; rw [Tryz.ntmps115, Tryz.results115]
  unfold DN
  refine go @ti63 ?_
  refine aw_loop (fun n e s' => n ≤ xs.length ∧ e.n = 21 ∧ e.m 0 = DN xs ∧ e.m 3 = .v (.int .i64 n) ∧ s' = s ∧ trimZ (xs.take n) = trimZ xs) xs.length ?_ ?_
  · exact rn0 (cj @DN.eq_1 (cj @Nat.le_refl rlt))
  · rintro n e s' ⟨hn, h1, h2, h3, rfl, h4⟩
    unfold DN at h2
    by_cases hk : 0 < n
    · by_cases hz : xs.getD (n - 1) 0 = 0
      · refine go (cj @ti63 (cj @h1 (cj @h2 (cj @h3 @ti3)))) ?_
        refine ifs ?_ ?_ <;> first | exact nope | intro hb
        refine go (cj @ti63 (cj @h1 (cj @h2 (cj @h3 @ti3)))) ?_
        have h5 := trimZ_last xs n hk hn hz
        simp only [block_normal, loop_normal]; refine ⟨n - 1, by omega, ?_⟩; (first | refine rn (cj @DN.eq_1 (cj @h1 @h2)) ?_ | exact rn0 (cj @DN.eq_1 (cj @h1 @h2)))
        exact ⟨by omega, by congr 2; omega, by rw [h5, h4]⟩
      · refine go (cj @ti63 (cj @h1 (cj @h2 (cj @h3 @ti3)))) ?_
        refine ifs ?_ ?_ <;> first | exact nope | intro hb
        have h5 := trimZ_stop xs n hn (.inr hz)
        rw [h4] at h5
        refine go (cj @ti63 (cj @h1 (cj @h2 (cj @h3 @ti3)))) ?_
        rw [h5]
        simp [List.map_take, Nat.min_eq_left hn]
    · have h5 := trimZ_stop xs n hn (.inl (by omega))
      rw [h4] at h5
      refine go (cj @ti63 (cj @h1 (cj @h2 (cj @h3 @ti3)))) ?_
      refine ifs ?_ ?_ <;> first | exact nope | intro hb
      refine go (cj @ti63 (cj @h1 (cj @h2 (cj @h3 @ti3)))) ?_
      rw [h5]
      simp [List.map_take, Nat.min_eq_left hn]

def cmpN (x y : Nat) : Int := if x < y then -1 else if x = y then 0 else 1
theorem cmpN_lt {x y : Nat} (h : x < y) : cmpN x y = -1 := if_pos h
theorem cmpN_gt {x y : Nat} (h : y < x) : cmpN x y = 1 := by unfold cmpN; rw [if_neg (by omega), if_neg (by omega)]
theorem cmpN_eq {x y : Nat} (h : x = y) : cmpN x y = 0 := by unfold cmpN; rw [if_neg (by omega), if_pos h]
theorem hB : 1 < B := by decide
theorem len_lt {x y : Nat} (h : (digs B x).length < (digs B y).length) : x < y := by
  have h1 := (digs_length_le B hB (digs B x).length x).1 (Nat.le_refl _)
  have h2 : ¬ y < B ^ (digs B x).length := fun h3 => by
    have := (digs_length_le B hB (digs B x).length y).2 h3
    omega
  omega
theorem val_split (l : List Nat) (n : Nat) (h : n ≤ l.length) : val B l = val B (l.take n) + B ^ n * val B (l.drop n) := by
  have := val_append B (l.take n) (l.drop n)
  rw [List.take_append_drop, List.length_take, Nat.min_eq_left h] at this
  exact this
theorem digit_lt (xs ys : List Nat) (n : Nat) (hn : 0 < n) (hx : n ≤ xs.length) (hy : n ≤ ys.length) (hd : ∀ d ∈ xs, d < B) (he : ∀ d ∈ ys, d < B) (h : xs.drop n = ys.drop n) (hlt : xs.getD (n - 1) 0 < ys.getD (n - 1) 0) : val B xs < val B ys := by
  rw [val_split xs n hx, val_split ys n hy, h]
  have t1 := val_lt B (by decide) (xs.take (n - 1)) (fun d hm => hd d (List.mem_of_mem_take hm))
  have e1 := val_take_snoc B xs (n - 1) (by omega)
  have e2 := val_take_snoc B ys (n - 1) (by omega)
  rw [show n - 1 + 1 = n by omega] at e1 e2
  rw [List.length_take, Nat.min_eq_left (by omega)] at t1
  rw [e1, e2]
  have : B ^ (n - 1) * (xs.getD (n - 1) 0 + 1) ≤ B ^ (n - 1) * ys.getD (n - 1) 0 := Nat.mul_le_mul_left _ hlt
  rw [Nat.mul_add, Nat.mul_one] at this
  omega
theorem drop_pred (xs : List Nat) (n : Nat) (hn : 0 < n) (h : n ≤ xs.length) : xs.drop (n - 1) = xs.getD (n - 1) 0 :: xs.drop n := by
  have h1 : n - 1 < xs.length := by omega
  rw [List.drop_eq_getElem_cons h1, List.getD_eq_getElem?_getD, List.getElem?_eq_getElem h1, show n - 1 + 1 = n by omega]
  rfl
theorem mags_ax (x y : Nat) (hx : (digs B x).length ≤ 140737488355328) (hy : (digs B y).length ≤ 140737488355328) : PCall Tryz.prog 113 [DN (digs B x), DN (digs B y)] (.v (.int .i64 (cmpN x y))) := by
  refine pcall_of fun s => ?_
  have vx := val_digs B hB x
  have vy := val_digs B hB y
  have dx := digs_lt B hB x
  have dy := digs_lt B hB y
  have l1 := @len_lt x y
  have l2 := @len_lt y x
  generalize digs B x = xs at *
  generalize digs B y = ys at *
  refine acall_of Tryz.func113 rfl rfl (by simp [Tryz.ntmps113]) ?_; rw [Tryz.ntmps113, Tryz.results113]
  unfold DN
  refine go @ti63 ?_
  by_cases hl : xs.length = ys.length
  · refine rn @hl ?_
    refine ifs ?_ ?_ <;> first | exact nope | intro hb
    refine go @ti63 ?_
    refine aw_loop (fun n e s' => n ≤ xs.length ∧ e.n = 41 ∧ e.m 0 = DN xs ∧ e.m 1 = DN ys ∧ e.m 5 = .v (.int .i64 ((n : Int) - 1)) ∧ s' = s ∧ xs.drop n = ys.drop n) xs.length ?_ ?_
    · refine rn (cj @DN.eq_1 @Nat.le_refl) ?_
      simp [hl]
    · rintro n e s' ⟨hn, h1, h2, h3, h4, rfl, h5⟩
      unfold DN at h2 h3
      by_cases hk : 0 < n
      · refine go (cj @h1 @h4) ?_
        refine ifs ?_ ?_ <;> first | exact nope | intro hb
        refine go (cj @h1 @h4) ?_
        have r1 : xs.getD (n - 1) 0 < B := getD_lt B (by decide) xs dx _
        by_cases q1 : xs.getD (n - 1) 0 < ys.getD (n - 1) 0
        · have hv := digit_lt xs ys n hk hn (by omega) dx dy h5 q1
          rw [vx, vy] at hv
          refine aw_drw (.take 0 (.take 1 (.take 2 (.take 3 (.take 4 (.take 5 (.take 6 (.take 7 (.take 8 (.done)))))))))) [] (by kernel_rfl) (by kernel_rfl) fun K hK => ?_; refine dr (cj @ti63 (cj @h1 (cj @h2 (cj @h3 (cj @h4 @ti3))))) ?_; refine hK _ _ ?_; clear hK K
          refine ifs ?_ ?_ <;> first | exact nope | intro hb
          refine go @h1 ?_
          rw [cmpN_lt hv]
        · refine aw_drw (.take 0 (.take 1 (.take 2 (.take 3 (.take 4 (.take 5 (.take 6 (.take 7 (.take 8 (.done)))))))))) [] (by kernel_rfl) (by kernel_rfl) fun K hK => ?_; refine dr (cj @ti63 (cj @h1 (cj @h2 (cj @h3 (cj @h4 @ti3))))) ?_; refine hK _ _ ?_; clear hK K
          refine ifs ?_ ?_ <;> first | exact nope | intro hb
          refine go @h1 ?_
          by_cases q2 : ys.getD (n - 1) 0 < xs.getD (n - 1) 0
          · have hv := digit_lt ys xs n hk (by omega) hn dy dx h5.symm q2
            rw [vx, vy] at hv
            refine aw_drw (.take 0 (.take 1 (.take 2 (.take 3 (.take 4 (.take 5 (.take 6 (.take 7 (.take 8 (.done)))))))))) [] (by kernel_rfl) (by kernel_rfl) fun K hK => ?_; refine dr (cj @ti63 (cj @h1 (cj @h2 (cj @h3 (cj @h4 @ti3))))) ?_; refine hK _ _ ?_; clear hK K
            refine ifs ?_ ?_ <;> first | exact nope | intro hb
            refine go @h1 ?_
            rw [cmpN_gt hv]
          · refine aw_drw (.take 0 (.take 1 (.take 2 (.take 3 (.take 4 (.take 5 (.take 6 (.take 7 (.take 8 (.done)))))))))) [] (by kernel_rfl) (by kernel_rfl) fun K hK => ?_; refine dr (cj @ti63 (cj @h1 (cj @h2 (cj @h3 (cj @h4 @ti3))))) ?_; refine hK _ _ ?_; clear hK K
            refine ifs ?_ ?_ <;> first | exact nope | intro hb
            refine go (cj @h1 @h4) ?_
            simp only [block_normal, loop_normal]; refine ⟨n - 1, by omega, ?_⟩; (first | refine rn (cj @DN.eq_1 (cj @h1 (cj @h2 @h3))) ?_ | exact rn0 (cj @DN.eq_1 (cj @h1 (cj @h2 @h3))))
            refine ⟨by omega, by congr 2; omega, ?_⟩
            rw [drop_pred xs n hk hn, drop_pred ys n hk (by omega), h5, show xs.getD (n - 1) 0 = ys.getD (n - 1) 0 by omega]
      · obtain rfl : n = 0 := by omega
        rw [List.drop_zero, List.drop_zero] at h5
        have : x = y := by rw [← vx, ← vy, h5]
        refine go (cj @h1 @h4) ?_
        refine ifs ?_ ?_ <;> first | exact nope | intro hb
        refine go (cj @h1 @h4) ?_
        rw [cmpN_eq this]
  · refine rn @hl ?_
    refine ifs ?_ ?_ <;> first | exact nope | intro hb
    refine go @ti63 ?_
    by_cases q : xs.length < ys.length
    · refine rn trivial ?_
      refine ifs ?_ ?_ <;> first | exact nope | intro hb
      refine go trivial ?_
      rw [cmpN_lt (l1 q)]
    · refine rn trivial ?_
      refine ifs ?_ ?_ <;> first | exact nope | intro hb
      refine go trivial ?_
      rw [cmpN_gt (l2 (by omega))]

theorem plus_step (xs ys ds : List Nat) (k cr : Nat) (hds : ds.length = k) (h : val B ds + B ^ k * cr = val B (xs.take k) + val B (ys.take k)) (z : Nat) (hz : z = cr + xs.getD k 0 + ys.getD k 0) :
    val B (ds ++ [z % B]) + B ^ (k + 1) * (z / B) = val B (xs.take (k + 1)) + val B (ys.take (k + 1)) := by
  have tk : ∀ l : List Nat, val B (l.take (k + 1)) = val B (l.take k) + B ^ k * l.getD k 0 := by
    intro l
    by_cases hk : k < l.length
    · exact val_take_snoc B l k hk
    · rw [List.take_of_length_le (by omega), List.take_of_length_le (by omega), List.getD_eq_getElem?_getD, List.getElem?_eq_none (by omega)]
      simp
  rw [tk, tk, val_snoc, hds, Nat.pow_succ]
  have e1 : z = z % B + B * (z / B) := (Nat.mod_add_div z B).symm
  have e2 : B ^ k * z = B ^ k * (z % B) + B ^ k * B * (z / B) := by
    conv => lhs; rw [e1]
    rw [Nat.mul_add, ← Nat.mul_assoc]
  have e3 : B ^ k * z = B ^ k * cr + B ^ k * xs.getD k 0 + B ^ k * ys.getD k 0 := by
    rw [hz, Nat.mul_add, Nat.mul_add]
  omega
def DL (xs : List Nat) : List AV := xs.map fun x : Nat => .v (.int .i64 (x : Int))
structure PlusI (xs ys : List Nat) (s : St) (n k cr id : Nat) (ds : List Nat) (e : Env) (s' : St) : Prop where
  imu : n = 2 * (max xs.length ys.length - k) + cr
  icr : cr ≤ 1
  ik : k ≤ max xs.length ys.length + 1
  ilast : k = max xs.length ys.length + 1 → cr = 0
  en : e.n = 55
  e0 : e.m 0 = DN xs
  e1 : e.m 1 = DN ys
  e5 : e.m 5 = .own id 0 k 1
  e6 : e.m 6 = .v (.int .i64 cr)
  e7 : e.m 7 = .v (.int .i64 k)
  iget : s'.get id = some (DL ds)
  ilo : s.nx ≤ id
  ihi : id < s'.nx
  ifr : ∀ i, i < s.nx → s'.get i = s.get i
  ilen : ds.length = k
  ilt : ∀ d ∈ ds, d < B
  ival : val B ds + B ^ k * cr = val B (xs.take k) + val B (ys.take k)
theorem getD_out (l : List Nat) (k : Nat) (h : ¬ k < l.length) : l.getD k 0 = 0 := by rw [List.getD_eq_getElem?_getD, List.getElem?_eq_none (by omega)]; rfl
theorem PlusI.step {xs ys : List Nat} {s : St} {n k cr id : Nat} {ds : List Nat} {e : Env} {s' : St} (h : PlusI xs ys s n k cr id ds e s') (hgo : k < xs.length ∨ k < ys.length ∨ 0 < cr) (dx : ∀ d ∈ xs, d < B) (dy : ∀ d ∈ ys, d < B)
    {z q r : Nat} (hz : z = cr + xs.getD k 0 + ys.getD k 0) (hq : q = z / 65536) (hr : r = z % 65536) {e' : Env} {s2 : St} {id' : Nat} (q1 : e'.n = 55) (q2 : e'.m 0 = DN xs) (q3 : e'.m 1 = DN ys) (q4 : e'.m 5 = .own id' 0 (k + 1) 1)
    (q5 : e'.m 6 = .v (.int .i64 (q : Int))) (q6 : e'.m 7 = .v (.int .i64 ((k : Int) + 1))) (q7 : s2.get id' = some (DL (ds ++ [r]))) (q8 : s.nx ≤ id') (q9 : id' < s2.nx) (q10 : ∀ i, i < s.nx → s2.get i = s.get i) :
    ∃ n', n' < n ∧ ∃ (k cr id : Nat) (ds : List Nat), PlusI xs ys s n' k cr id ds e' s2 := by
  have bx : xs.getD k 0 < 65536 := getD_lt B (by decide) xs dx k
  have by' : ys.getD k 0 < 65536 := getD_lt B (by decide) ys dy k
  have ox := getD_out xs k
  have oy := getD_out ys k
  have hs := plus_step xs ys ds k cr h.ilen h.ival z hz
  rw [show z / B = q from hq.symm, show z % B = r from hr.symm] at hs
  have hn := h.imu
  have hcr := h.icr
  have hk := h.ik
  have hlast := h.ilast
  have hm : q ≤ 1 ∧ 2 * (max xs.length ys.length - (k + 1)) + q < n ∧ k + 1 ≤ max xs.length ys.length + 1 ∧ (k + 1 = max xs.length ys.length + 1 → q = 0) := by
    by_cases hM : k < max xs.length ys.length
    · omega
    · have o1 := ox (by omega)
      have o2 := oy (by omega)
      omega
  refine ⟨_, hm.2.1, k + 1, q, id', ds ++ [r], rfl, hm.1, hm.2.2.1, hm.2.2.2, q1, q2, q3, q4, q5, by rw [q6]; rfl, q7, q8, q9, q10, by simp [h.ilen], ?_, hs⟩
  intro d hd
  rcases List.mem_append.1 hd with hd | hd
  · exact h.ilt d hd
  · rw [List.mem_singleton.1 hd, hr]; exact Nat.mod_lt _ (by decide)
theorem DL_snoc (ds : List Nat) (r : Nat) : DL (ds ++ [r]) = DL ds ++ [.v (.int .i64 (r : Int))] := by unfold DL; rw [List.map_append]; rfl
theorem DL_len (ds : List Nat) : (DL ds).length = ds.length := List.length_map _
theorem DL_take (ds : List Nat) (k : Nat) (h : ds.length = k) : (DL ds).take k = DL ds := List.take_of_length_le (by rw [DL_len]; omega)
theorem plus_ax (xs ys : List Nat) (hx : xs.length ≤ 1099511627776) (hy : ys.length ≤ 1099511627776) (dx : ∀ d ∈ xs, d < B) (dy : ∀ d ∈ ys, d < B) : PCall Tryz.prog 112 [DN xs, DN ys] (DN (digs B (val B xs + val B ys))) := by
  refine pcall_of fun s => ?_
  refine acall_of Tryz.func112 rfl rfl (by simp [Tryz.ntmps112]) ?_; rw [Tryz.ntmps112, Tryz.results112]
  unfold DN
  refine go @ti63 ?_
  refine aw_nil 5 1 rfl rfl ?_
  refine aw_loop (fun n e s' => ∃ (k cr id : Nat) (ds : List Nat), PlusI xs ys s n k cr id ds e s') (2 * max xs.length ys.length) ?_ ?_
  · exact ⟨0, 0, s.nx, [], by omega, by omega, by omega, by omega, rfl, rfl, rfl, rfl, rfl, rfl, St.push_same _ _, Nat.le_refl _, Nat.lt_succ_self _, fun i hi => St.push_ne _ _ _ (by omega), rfl, fun d hd => by simp at hd, by simp [val]⟩
  · rintro n e s' ⟨k, cr, id, ds, hI⟩
    obtain rfl := hI.ilen
    have h1 := hI.en
    have h2 := hI.e0
    have h3 := hI.e1
    have h4 := hI.e5
    have h5 := hI.e6
    have h6 := hI.e7
    have h7 := hI.iget
    have b1 := hI.icr
    have b2 := hI.ik
    have b3 := hI.ilo
    have b4 := hI.ihi
    have l1 := DL_len ds
    unfold DN at h2 h3
    by_cases hgo : ds.length < xs.length ∨ ds.length < ys.length ∨ 0 < cr
    · have bx : xs.getD ds.length 0 < 65536 := getD_lt B (by decide) xs dx _
      have by' : ys.getD ds.length 0 < 65536 := getD_lt B (by decide) ys dy _
      have ox := getD_out xs ds.length
      have oy := getD_out ys ds.length
      by_cases c1 : ds.length < xs.length <;> by_cases c2 : ds.length < ys.length
      · refine go (cj @ti63 (cj @h1 (cj @h2 (cj @h3 (cj @h4 (cj @h5 @h6)))))) ?_
        refine ifs ?_ ?_ <;> first | exact nope | intro hb
        refine go (cj @ti63 (cj @h1 (cj @h2 (cj @h3 (cj @h4 (cj @h5 @h6)))))) ?_
        refine ifs ?_ ?_ <;> first | exact nope | intro hb
        refine go (cj @ti63 (cj @ti3 (cj @h1 (cj @h2 (cj @h3 (cj @h4 (cj @h5 @h6))))))) ?_
        refine ifs ?_ ?_ <;> first | exact nope | intro hb
        refine go (cj @ti63 (cj @ti3 (cj @h1 (cj @h2 (cj @h3 (cj @h4 (cj @h5 (cj @h6 (cj @h7 @l1))))))))) ?_
        simp only [block_normal, loop_normal]
        refine hI.step hgo dx dy (z := cr + xs.getD ds.length 0 + ys.getD ds.length 0) rfl rfl rfl (id' := s'.nx + 1) ?_ ?_ ?_ ?_ ?_ ?_ ?_ (by omega) ?_ ?_ <;> (first | refine rn (cj @h1 (cj @h2 (cj @h3 @DN.eq_1))) ?_ | exact rn0 (cj @h1 (cj @h2 (cj @h3 @DN.eq_1))))
        all_goals (first | exact shz | (intro i hi; (first | refine rn (hI.ifr i hi) ?_ | exact rn0 (hI.ifr i hi))) | skip)
        all_goals (rw [DL_snoc]; refine congrArg (fun z : Int => some (DL ds ++ [.v (.int .i64 z)])) ?_; omega)
      · refine go (cj @ti63 (cj @h1 (cj @h2 (cj @h3 (cj @h4 (cj @h5 @h6)))))) ?_
        refine ifs ?_ ?_ <;> first | exact nope | intro hb
        refine go (cj @ti63 (cj @h1 (cj @h2 (cj @h3 (cj @h4 (cj @h5 @h6)))))) ?_
        refine ifs ?_ ?_ <;> first | exact nope | intro hb
        refine go (cj @ti63 (cj @ti3 (cj @h1 (cj @h2 (cj @h3 (cj @h4 (cj @h5 @h6))))))) ?_
        refine ifs ?_ ?_ <;> first | exact nope | intro hb
        refine go (cj @ti63 (cj @ti3 (cj @h1 (cj @h2 (cj @h3 (cj @h4 (cj @h5 (cj @h6 (cj @h7 @l1))))))))) ?_
        simp only [block_normal, loop_normal]
        refine hI.step hgo dx dy (z := cr + xs.getD ds.length 0 + ys.getD ds.length 0) rfl rfl rfl (id' := s'.nx + 1) ?_ ?_ ?_ ?_ ?_ ?_ ?_ (by omega) ?_ ?_ <;> (first | refine rn (cj @h1 (cj @h2 (cj @h3 @DN.eq_1))) ?_ | exact rn0 (cj @h1 (cj @h2 (cj @h3 @DN.eq_1))))
        all_goals (first | exact shz | (intro i hi; (first | refine rn (hI.ifr i hi) ?_ | exact rn0 (hI.ifr i hi))) | skip)
        all_goals (rw [DL_snoc]; refine congrArg (fun z : Int => some (DL ds ++ [.v (.int .i64 z)])) ?_; omega)
      · refine go (cj @ti63 (cj @h1 (cj @h2 (cj @h3 (cj @h4 (cj @h5 @h6)))))) ?_
        refine ifs ?_ ?_ <;> first | exact nope | intro hb
        refine go (cj @ti63 (cj @h1 (cj @h2 (cj @h3 (cj @h4 (cj @h5 @h6)))))) ?_
        refine ifs ?_ ?_ <;> first | exact nope | intro hb
        refine go (cj @ti63 (cj @ti3 (cj @h1 (cj @h2 (cj @h3 (cj @h4 (cj @h5 @h6))))))) ?_
        refine ifs ?_ ?_ <;> first | exact nope | intro hb
        refine go (cj @ti63 (cj @ti3 (cj @h1 (cj @h2 (cj @h3 (cj @h4 (cj @h5 (cj @h6 (cj @h7 @l1))))))))) ?_
        simp only [block_normal, loop_normal]
        refine hI.step hgo dx dy (z := cr + xs.getD ds.length 0 + ys.getD ds.length 0) rfl rfl rfl (id' := s'.nx + 1) ?_ ?_ ?_ ?_ ?_ ?_ ?_ (by omega) ?_ ?_ <;> (first | refine rn (cj @h1 (cj @h2 (cj @h3 @DN.eq_1))) ?_ | exact rn0 (cj @h1 (cj @h2 (cj @h3 @DN.eq_1))))
        all_goals (first | exact shz | (intro i hi; (first | refine rn (hI.ifr i hi) ?_ | exact rn0 (hI.ifr i hi))) | skip)
        all_goals (rw [DL_snoc]; refine congrArg (fun z : Int => some (DL ds ++ [.v (.int .i64 z)])) ?_; omega)
      · have c3 : 0 < cr := by omega
        refine go (cj @ti63 (cj @h1 (cj @h2 (cj @h3 (cj @h4 (cj @h5 @h6)))))) ?_
        refine ifs ?_ ?_ <;> first | exact nope | intro hb
        refine go (cj @ti63 (cj @h1 (cj @h2 (cj @h3 (cj @h4 (cj @h5 @h6)))))) ?_
        refine ifs ?_ ?_ <;> first | exact nope | intro hb
        refine go (cj @ti63 (cj @ti3 (cj @h1 (cj @h2 (cj @h3 (cj @h4 (cj @h5 @h6))))))) ?_
        refine ifs ?_ ?_ <;> first | exact nope | intro hb
        refine go (cj @ti63 (cj @ti3 (cj @h1 (cj @h2 (cj @h3 (cj @h4 (cj @h5 (cj @h6 (cj @h7 @l1))))))))) ?_
        simp only [block_normal, loop_normal]
        refine hI.step hgo dx dy (z := cr + xs.getD ds.length 0 + ys.getD ds.length 0) rfl rfl rfl (id' := s'.nx + 1) ?_ ?_ ?_ ?_ ?_ ?_ ?_ (by omega) ?_ ?_ <;> (first | refine rn (cj @h1 (cj @h2 (cj @h3 @DN.eq_1))) ?_ | exact rn0 (cj @h1 (cj @h2 (cj @h3 @DN.eq_1))))
        all_goals (first | exact shz | (intro i hi; (first | refine rn (hI.ifr i hi) ?_ | exact rn0 (hI.ifr i hi))) | skip)
        all_goals (rw [DL_snoc]; refine congrArg (fun z : Int => some (DL ds ++ [.v (.int .i64 z)])) ?_; omega)
    · have cr0 : cr = 0 := by omega
      have hv := hI.ival
      rw [List.take_of_length_le (by omega), List.take_of_length_le (by omega), cr0, Nat.mul_zero, Nat.add_zero] at hv
      have ht := digs_val B hB ds hI.ilt
      rw [hv] at ht
      have b5 : ds.length ≤ 140737488355328 := by omega
      clear b2 hv
      refine go (cj @ti63 (cj @h1 (cj @h2 (cj @h3 (cj @h4 (cj @h5 @h6)))))) ?_
      refine ifs ?_ ?_ <;> first | exact nope | intro hb
      refine go (cj @ti63 (cj @h1 (cj @h2 (cj @h3 (cj @h4 (cj @h5 @h6)))))) ?_
      refine aw_reg fun K hK => ?_; refine rn (cj @h1 @h4) ?_; refine acall_frz id (DL ds) h7 (fun _ => false) ?_; refine rn @DL.eq_1 ?_; refine cont_pure (trim_ax ds b5) ?_; refine rn (cj @h1 @h4) ?_; refine hK _ _ ?_; clear hK K
      refine go (cj @h1 @h4) ?_
      rw [ht]
      exact ⟨rfl, fun i hi => by rw [if_neg (by omega)]; exact hI.ifr i hi⟩
end Go.Proofs.YtfjelkjlfcafgaaGreatDoor.RefA
end
section
/- The document's whole numbers (layer 1): minus, and the numbers with a sign. -/
namespace Go.Proofs.YtfjelkjlfcafgaaGreatDoor.RefB
open Go Go.RowKit Go.Proofs.YtfjelkjlfcafgaaGreatDoor.Ax Go.Proofs.YtfjelkjlfcafgaaGreatDoor.Ti Go.Proofs.YtfjelkjlfcafgaaGreatDoor.BigM Go.Proofs.YtfjelkjlfcafgaaGreatDoor.RefA
set_option maxHeartbeats 2000000
set_option linter.unusedSimpArgs false
set_option linter.unusedVariables false

structure MinusI (xs ys : List Nat) (s : St) (n k cr id : Nat) (ds : List Nat) (e : Env) (s' : St) : Prop where
  imu : n = xs.length - k
  icr : cr ≤ 1
  ik : k ≤ xs.length
  en : e.n = 41
  e0 : e.m 0 = DN xs
  e1 : e.m 1 = DN ys
  e5 : e.m 5 = .own id 0 k 1
  e6 : e.m 6 = .v (.int .i64 cr)
  e7 : e.m 7 = .v (.int .i64 k)
  iget : s'.get id = some (DL ds)
  ilo : s.nx ≤ id
  ihi : id < s'.nx
  ifr : ∀ i, i < s.nx → s'.get i = s.get i
  ilen : ds.length = k
  ilt : ∀ d ∈ ds, d < B
  ival : val B ds + val B (ys.take k) = val B (xs.take k) + B ^ k * cr
theorem tk_snoc (l : List Nat) (k : Nat) : val B (l.take (k + 1)) = val B (l.take k) + B ^ k * l.getD k 0 := by
  by_cases hk : k < l.length
  · exact val_take_snoc B l k hk
  · rw [List.take_of_length_le (by omega), List.take_of_length_le (by omega), List.getD_eq_getElem?_getD, List.getElem?_eq_none (by omega)]
    simp
theorem MinusI.step {xs ys : List Nat} {s : St} {n k cr id : Nat} {ds : List Nat} {e : Env} {s' : St} (h : MinusI xs ys s n k cr id ds e s') (hgo : k < xs.length) (dx : ∀ d ∈ xs, d < B) (dy : ∀ d ∈ ys, d < B)
    {q r : Nat} (hq : q ≤ 1) (hr : r < 65536) (hz : (r : Int) = xs.getD k 0 - cr - ys.getD k 0 + 65536 * q) {e' : Env} {s2 : St} {id' : Nat} (q1 : e'.n = 41) (q2 : e'.m 0 = DN xs) (q3 : e'.m 1 = DN ys) (q4 : e'.m 5 = .own id' 0 (k + 1) 1)
    (q5 : e'.m 6 = .v (.int .i64 (q : Int))) (q6 : e'.m 7 = .v (.int .i64 ((k : Int) + 1))) (q7 : s2.get id' = some (DL (ds ++ [r]))) (q8 : s.nx ≤ id') (q9 : id' < s2.nx) (q10 : ∀ i, i < s.nx → s2.get i = s.get i) :
    ∃ n', n' < n ∧ ∃ (k cr id : Nat) (ds : List Nat), MinusI xs ys s n' k cr id ds e' s2 := by
  have hn := h.imu
  have hv := h.ival
  refine ⟨xs.length - (k + 1), by omega, k + 1, q, id', ds ++ [r], rfl, hq, by omega, q1, q2, q3, q4, q5, by rw [q6]; rfl, q7, q8, q9, q10, by simp [h.ilen], ?_, ?_⟩
  · intro d hd
    rcases List.mem_append.1 hd with hd | hd
    · exact h.ilt d hd
    · rw [List.mem_singleton.1 hd]; exact hr
  · rw [tk_snoc, tk_snoc, val_snoc, h.ilen, Nat.pow_succ]
    have e0 : r + cr + ys.getD k 0 = xs.getD k 0 + 65536 * q := by omega
    have e1 : B ^ k * (r + cr + ys.getD k 0) = B ^ k * (xs.getD k 0 + B * q) := by rw [e0]; rfl
    rw [Nat.mul_add, Nat.mul_add, Nat.mul_add, ← Nat.mul_assoc] at e1
    omega
theorem minus_ax (xs ys : List Nat) (hx : xs.length ≤ 1099511627776) (dx : ∀ d ∈ xs, d < B) (dy : ∀ d ∈ ys, d < B) (hyx : val B ys ≤ val B xs) (hyl : ys.length ≤ xs.length) : PCall Tryz.prog 114 [DN xs, DN ys] (DN (digs B (val B xs - val B ys))) := by
  refine pcall_of fun s => ?_
  refine acall_of Tryz.func114 rfl rfl (by simp [Tryz.ntmps114]) ?_; rw [Tryz.ntmps114, Tryz.results114]
  unfold DN
  refine go @ti63 ?_
  refine aw_nil 5 1 rfl rfl ?_
  refine aw_loop (fun n e s' => ∃ (k cr id : Nat) (ds : List Nat), MinusI xs ys s n k cr id ds e s') xs.length ?_ ?_
  · exact ⟨0, 0, s.nx, [], rfl, by omega, by omega, rfl, rfl, rfl, rfl, rfl, rfl, St.push_same _ _, Nat.le_refl _, Nat.lt_succ_self _, fun i hi => St.push_ne _ _ _ (by omega), rfl, fun d hd => by simp at hd, by simp [val]⟩
  · rintro n e s' ⟨k, cr, id, ds, hI⟩
    obtain rfl := hI.ilen
    have h1 := hI.en
    have h2 := hI.e0
    have h3 := hI.e1
    have h4 := hI.e5
    have h5 := hI.e6
    have h6 := hI.e7
    have h7 := hI.iget
    have b1 := hI.icr
    have b2 := hI.ik
    have b3 := hI.ilo
    have b4 := hI.ihi
    have l1 := DL_len ds
    unfold DN at h2 h3
    by_cases hgo : ds.length < xs.length
    · have bx : xs.getD ds.length 0 < 65536 := getD_lt B (by decide) xs dx _
      have by' : ys.getD ds.length 0 < 65536 := getD_lt B (by decide) ys dy _
      have oy := getD_out ys ds.length
      have fin : ∀ (y : Nat), ys.getD ds.length 0 = y → y < 65536 → (∃ q r : Nat, q ≤ 1 ∧ r < 65536 ∧ (r : Int) = xs.getD ds.length 0 - cr - y + 65536 * q) := by
        intro y hy hyb
        by_cases hneg : xs.getD ds.length 0 < cr + y
        · exact ⟨1, xs.getD ds.length 0 + 65536 - cr - y, by omega, by omega, by omega⟩
        · exact ⟨0, xs.getD ds.length 0 - cr - y, by omega, by omega, by omega⟩
      by_cases c2 : ds.length < ys.length
      · refine go (cj @ti63 (cj @h1 (cj @h2 (cj @h3 (cj @h4 (cj @h5 @h6)))))) ?_
        refine ifs ?_ ?_ <;> first | exact nope | intro hb
        refine go (cj @ti63 (cj @ti3 (cj @h1 (cj @h2 (cj @h3 (cj @h4 (cj @h5 @h6))))))) ?_
        refine ifs ?_ ?_ <;> first | exact nope | intro hb
        by_cases hneg : xs.getD ds.length 0 < cr + ys.getD ds.length 0
        · refine go (cj @ti63 (cj @ti3 (cj @h1 (cj @h2 (cj @h3 (cj @h4 (cj @h5 @h6))))))) ?_
          refine ifs ?_ ?_ <;> first | exact nope | intro hb
          refine go (cj @ti63 (cj @ti3 (cj @h1 (cj @h2 (cj @h3 (cj @h4 (cj @h5 (cj @h6 (cj @h7 @l1))))))))) ?_
          simp only [block_normal, loop_normal]
          refine hI.step hgo dx dy (q := 1) (r := xs.getD ds.length 0 + 65536 - cr - ys.getD ds.length 0) (by omega) (by omega) (by omega) (id' := s'.nx + 1) ?_ ?_ ?_ ?_ ?_ ?_ ?_ (by omega) ?_ ?_ <;> (first | refine rn (cj @h1 (cj @h2 (cj @h3 @DN.eq_1))) ?_ | exact rn0 (cj @h1 (cj @h2 (cj @h3 @DN.eq_1))))
          all_goals (first | exact shz | (intro i hi; (first | refine rn (hI.ifr i hi) ?_ | exact rn0 (hI.ifr i hi))) | skip)
          all_goals (rw [DL_snoc]; refine congrArg (fun z : Int => some (DL ds ++ [.v (.int .i64 z)])) ?_; omega)
        · refine go (cj @ti63 (cj @ti3 (cj @h1 (cj @h2 (cj @h3 (cj @h4 (cj @h5 @h6))))))) ?_
          refine ifs ?_ ?_ <;> first | exact nope | intro hb
          refine go (cj @ti63 (cj @ti3 (cj @h1 (cj @h2 (cj @h3 (cj @h4 (cj @h5 (cj @h6 (cj @h7 @l1))))))))) ?_
          simp only [block_normal, loop_normal]
          refine hI.step hgo dx dy (q := 0) (r := xs.getD ds.length 0 - cr - ys.getD ds.length 0) (by omega) (by omega) (by omega) (id' := s'.nx + 1) ?_ ?_ ?_ ?_ ?_ ?_ ?_ (by omega) ?_ ?_ <;> (first | refine rn (cj @h1 (cj @h2 (cj @h3 @DN.eq_1))) ?_ | exact rn0 (cj @h1 (cj @h2 (cj @h3 @DN.eq_1))))
          all_goals (first | exact shz | (intro i hi; (first | refine rn (hI.ifr i hi) ?_ | exact rn0 (hI.ifr i hi))) | skip)
          all_goals (rw [DL_snoc]; refine congrArg (fun z : Int => some (DL ds ++ [.v (.int .i64 z)])) ?_; omega)
      · refine go (cj @ti63 (cj @h1 (cj @h2 (cj @h3 (cj @h4 (cj @h5 @h6)))))) ?_
        refine ifs ?_ ?_ <;> first | exact nope | intro hb
        refine go (cj @ti63 (cj @ti3 (cj @h1 (cj @h2 (cj @h3 (cj @h4 (cj @h5 @h6))))))) ?_
        refine ifs ?_ ?_ <;> first | exact nope | intro hb
        by_cases hneg : xs.getD ds.length 0 < cr + ys.getD ds.length 0
        · refine go (cj @ti63 (cj @ti3 (cj @h1 (cj @h2 (cj @h3 (cj @h4 (cj @h5 @h6))))))) ?_
          refine ifs ?_ ?_ <;> first | exact nope | intro hb
          refine go (cj @ti63 (cj @ti3 (cj @h1 (cj @h2 (cj @h3 (cj @h4 (cj @h5 (cj @h6 (cj @h7 @l1))))))))) ?_
          simp only [block_normal, loop_normal]
          refine hI.step hgo dx dy (q := 1) (r := xs.getD ds.length 0 + 65536 - cr - ys.getD ds.length 0) (by omega) (by omega) (by omega) (id' := s'.nx + 1) ?_ ?_ ?_ ?_ ?_ ?_ ?_ (by omega) ?_ ?_ <;> (first | refine rn (cj @h1 (cj @h2 (cj @h3 @DN.eq_1))) ?_ | exact rn0 (cj @h1 (cj @h2 (cj @h3 @DN.eq_1))))
          all_goals (first | exact shz | (intro i hi; (first | refine rn (hI.ifr i hi) ?_ | exact rn0 (hI.ifr i hi))) | skip)
          all_goals (rw [DL_snoc]; refine congrArg (fun z : Int => some (DL ds ++ [.v (.int .i64 z)])) ?_; omega)
        · refine go (cj @ti63 (cj @ti3 (cj @h1 (cj @h2 (cj @h3 (cj @h4 (cj @h5 @h6))))))) ?_
          refine ifs ?_ ?_ <;> first | exact nope | intro hb
          refine go (cj @ti63 (cj @ti3 (cj @h1 (cj @h2 (cj @h3 (cj @h4 (cj @h5 (cj @h6 (cj @h7 @l1))))))))) ?_
          simp only [block_normal, loop_normal]
          refine hI.step hgo dx dy (q := 0) (r := xs.getD ds.length 0 - cr - ys.getD ds.length 0) (by omega) (by omega) (by omega) (id' := s'.nx + 1) ?_ ?_ ?_ ?_ ?_ ?_ ?_ (by omega) ?_ ?_ <;> (first | refine rn (cj @h1 (cj @h2 (cj @h3 @DN.eq_1))) ?_ | exact rn0 (cj @h1 (cj @h2 (cj @h3 @DN.eq_1))))
          all_goals (first | exact shz | (intro i hi; (first | refine rn (hI.ifr i hi) ?_ | exact rn0 (hI.ifr i hi))) | skip)
          all_goals (rw [DL_snoc]; refine congrArg (fun z : Int => some (DL ds ++ [.v (.int .i64 z)])) ?_; omega)
    · have hv := hI.ival
      rw [List.take_of_length_le (by omega), List.take_of_length_le (by omega)] at hv
      have hlt := val_lt B (by decide) ds hI.ilt
      have cr0 : cr = 0 := by
        rcases Nat.eq_zero_or_pos cr with h | h
        · exact h
        · obtain rfl : cr = 1 := by omega
          omega
      rw [cr0, Nat.mul_zero, Nat.add_zero] at hv
      have ht := digs_val B hB ds hI.ilt
      rw [show val B ds = val B xs - val B ys by omega] at ht
      have b5 : ds.length ≤ 140737488355328 := by omega
      clear hv hlt
      refine go (cj @ti63 (cj @h1 (cj @h2 (cj @h3 (cj @h4 (cj @h5 @h6)))))) ?_
      refine ifs ?_ ?_ <;> first | exact nope | intro hb
      refine go (cj @ti63 (cj @h1 (cj @h2 (cj @h3 (cj @h4 (cj @h5 @h6)))))) ?_
      refine aw_reg fun K hK => ?_; refine rn (cj @h1 @h4) ?_; refine acall_frz id (DL ds) h7 (fun _ => false) ?_; refine rn @DL.eq_1 ?_; refine cont_pure (trim_ax ds b5) ?_; refine rn (cj @h1 @h4) ?_; refine hK _ _ ?_; clear hK K
      refine go (cj @h1 @h4) ?_
      rw [ht]
      exact ⟨rfl, fun i hi => by rw [if_neg (by omega)]; exact hI.ifr i hi⟩
end Go.Proofs.YtfjelkjlfcafgaaGreatDoor.RefB
end
section
/- The document's whole numbers (layer 1): with a sign. -/
namespace Go.Proofs.YtfjelkjlfcafgaaGreatDoor.RefC
open Go Go.RowKit Go.Proofs.YtfjelkjlfcafgaaGreatDoor.Ax Go.Proofs.YtfjelkjlfcafgaaGreatDoor.Ti Go.Proofs.YtfjelkjlfcafgaaGreatDoor.BigM Go.Proofs.YtfjelkjlfcafgaaGreatDoor.RefA Go.Proofs.YtfjelkjlfcafgaaGreatDoor.RefB
set_option maxHeartbeats 2000000
set_option linter.unusedSimpArgs false
set_option linter.unusedVariables false
set_option maxRecDepth 4000
theorem rTI : type_of% (cj @ti105 (cj @ti63 (cj @ti3 @ti4))) := cj @ti105 (cj @ti63 (cj @ti3 @ti4))

def NS (b : Bool) (n : Nat) : AV := .ag [.v (.bool b), DN (digs B n)]
def NI (z : Int) : AV := NS (decide (z < 0)) z.natAbs
def ln (n : Nat) : Nat := (digs B n).length
def lz (z : Int) : Nat := ln z.natAbs
theorem dl_idf (l : List Nat) : idf.idfL (DL l) = true := by
  rw [idfL_iff]
  intro z hz
  obtain ⟨x, _, rfl⟩ := List.mem_map.1 hz
  rfl
theorem ln_zero (n : Nat) : ln n = 0 ↔ n = 0 := by unfold ln; rw [List.length_eq_zero_iff, digs_nil B hB]
theorem DN_ln (n : Nat) : DN (digs B n) = .sl (ln n) (DL (digs B n)) := rfl
theorem NS_eq (b : Bool) (n : Nat) : NS b n = .ag [.v (.bool b), .sl (ln n) (DL (digs B n))] := rfl
theorem ln_lt (n k : Nat) : n < B ^ k ↔ ln n ≤ k := (digs_length_le B hB k n).symm
theorem ln_mul (a b : Nat) : ln (a * b) ≤ ln a + ln b := by
  rw [← ln_lt, Nat.pow_add]
  have h1 := (ln_lt a _).2 (Nat.le_refl _)
  have h2 := (ln_lt b _).2 (Nat.le_refl _)
  exact Nat.mul_lt_mul'' h1 h2
theorem ln_mono {a b : Nat} (h : a ≤ b) : ln a ≤ ln b := (ln_lt _ _).1 (Nat.lt_of_le_of_lt h ((ln_lt b _).2 (Nat.le_refl _)))
theorem lz_mul (a b : Int) : lz (a * b) ≤ lz a + lz b := by unfold lz; rw [Int.natAbs_mul]; exact ln_mul _ _
theorem lz_neg (a : Int) : lz (-a) = lz a := by unfold lz; rw [Int.natAbs_neg]
def sgn (z : Int) : Int := if z < 0 then -1 else if z = 0 then 0 else 1

theorem sign_ax (z : Int) : PCall Tryz.prog 60 [NI z] (.v (.int .i64 (sgn z))) := by
  refine pcall_of fun s => ?_
  refine acall_of Tryz.func60 rfl rfl (by simp [Tryz.ntmps60]) ?_; rw [Tryz.ntmps60, Tryz.results60]
  have l0 := ln_zero z.natAbs
  unfold NI
  rw [NS_eq]
  refine go (cj rTI @dl_idf) ?_
  refine ifs ?_ ?_ <;> first | exact nope | intro hb
  · have h0 : z = 0 := by omega
    refine go (cj rTI @dl_idf) ?_
    (repeat' refine And.intro ?_ ?_) <;> (first | done | exact rfl | (intro i hi; simp (disch := omega) only [↓core, ↓List.getElem?_toArray, ↓List.getElem?_cons_succ, ↓List.getElem?_cons_zero, ↓onO_some, more, xbuild, if_pos, if_neg, onO_some, onO_none, onV_eq, xbuiltin, xlen, xload, loadA, xstore, spl, xfield, xindexAddr, xindex, xslice, bnd, xbin, xint, xshift, xstr, xeq, xun, xconv, xmake, xappend, xsrc, xbuildSlice, fillA, xminmax, gval, isK, mapM_nil_o, mapM_cons_o, AV.cells, AV.boxable, AV.one, TI.agg, resA, retA, zrow_one, eq_self, List.map, List.map_cons, List.map_nil, Option.map_some, Option.map_none, Option.bind_some, Option.bind_none, ↓reduceIte, Nat.reduceLT, Nat.reduceEqDiff, Nat.reduceAdd, Nat.reduceMul, Nat.mul_one, Nat.reduceLeDiff, decide_true, decide_false, true_and, and_true, if_true, if_false, List.toList_toArray, List.size_toArray, beq_self_eq_true, Bool.true_eq_false, Bool.false_eq_true, forall_const, false_implies, implies_true, undef, IntKind.bits, List.drop_zero, List.drop_succ_cons, List.take_succ_cons, List.take_zero, List.length_cons, List.length_nil, List.set_cons_zero, List.set_cons_succ, List.head?_cons, List.all_cons, List.all_nil, List.replicate_succ, List.replicate_zero, Bool.and_true, Bool.and_self, Value.oneCell', Bool.true_and, Bool.or_true, Bool.or_false, Bool.not_true, Bool.not_false, h0, sgn]; done) | (simp (disch := omega) only [↓core, ↓List.getElem?_toArray, ↓List.getElem?_cons_succ, ↓List.getElem?_cons_zero, ↓onO_some, more, xbuild, if_pos, if_neg, onO_some, onO_none, onV_eq, xbuiltin, xlen, xload, loadA, xstore, spl, xfield, xindexAddr, xindex, xslice, bnd, xbin, xint, xshift, xstr, xeq, xun, xconv, xmake, xappend, xsrc, xbuildSlice, fillA, xminmax, gval, isK, mapM_nil_o, mapM_cons_o, AV.cells, AV.boxable, AV.one, TI.agg, resA, retA, zrow_one, eq_self, List.map, List.map_cons, List.map_nil, Option.map_some, Option.map_none, Option.bind_some, Option.bind_none, ↓reduceIte, Nat.reduceLT, Nat.reduceEqDiff, Nat.reduceAdd, Nat.reduceMul, Nat.mul_one, Nat.reduceLeDiff, decide_true, decide_false, true_and, and_true, if_true, if_false, List.toList_toArray, List.size_toArray, beq_self_eq_true, Bool.true_eq_false, Bool.false_eq_true, forall_const, false_implies, implies_true, undef, IntKind.bits, List.drop_zero, List.drop_succ_cons, List.take_succ_cons, List.take_zero, List.length_cons, List.length_nil, List.set_cons_zero, List.set_cons_succ, List.head?_cons, List.all_cons, List.all_nil, List.replicate_succ, List.replicate_zero, Bool.and_true, Bool.and_self, Value.oneCell', Bool.true_and, Bool.or_true, Bool.or_false, Bool.not_true, Bool.not_false, h0, sgn]; done) | skip)
  · have h0 : z ≠ 0 := by omega
    refine go (cj rTI @dl_idf) ?_
    refine ifs ?_ ?_ <;> first | exact nope | intro hb
    · refine go (cj rTI @dl_idf) ?_
      (repeat' refine And.intro ?_ ?_) <;> first | exact rfl | exact fnz trivial | skip
      rw [sgn, if_pos hb]
    · refine go (cj rTI @dl_idf) ?_
      (repeat' refine And.intro ?_ ?_) <;> first | exact rfl | exact fnz trivial | skip
      rw [sgn, if_neg hb, if_neg h0]

theorem NS_zero (b : Bool) : NS b 0 = .ag [.v (.bool b), .sl 0 []] := by rw [NS_eq]; unfold ln; rw [digs_zero]; rfl
theorem NI_nn (z : Int) (h : 0 ≤ z) : NI z = NS false z.natAbs := by unfold NI; rw [decide_eq_false (by omega)]
theorem NI_neg (z : Int) (h : z < 0) : NI z = NS true z.natAbs := by unfold NI; rw [decide_eq_true h]
theorem minusN_ax (z : Int) : PCall Tryz.prog 165 [NI z] (NI (-z)) := by
  refine pcall_le fun s => ?_
  refine acall_of Tryz.func165 rfl rfl (by simp [Tryz.ntmps165]) ?_; rw [Tryz.ntmps165, Tryz.results165]
  have l0 := ln_zero z.natAbs
  rcases Int.lt_trichotomy z 0 with h | h | h
  · rw [NI_neg z h, NI_nn (-z) (by omega), Int.natAbs_neg, NS_eq, NS_eq]
    refine go (cj rTI @dl_idf) ?_
    refine ifs ?_ ?_ <;> first | exact nope | intro hb
    refine go (cj rTI @dl_idf) ?_
    (repeat' refine And.intro ?_ ?_) <;> first | exact rfl | exact fnz trivial | skip
    exact Le.refl _
  · subst h
    rw [NI_nn _ (by omega), NI_nn _ (by omega), Int.neg_zero, Int.natAbs_zero, NS_zero]
    refine go (cj rTI @dl_idf) ?_
    refine ifs ?_ ?_ <;> first | exact nope | intro hb
    refine go (cj rTI @dl_idf) ?_
    (repeat' refine And.intro ?_ ?_) <;> first | exact rfl | exact fnz trivial | skip
    exact Le.two (Le.refl _) (Le.nil _ _ rfl)
  · rw [NI_nn z (by omega), NI_neg (-z) (by omega), Int.natAbs_neg, NS_eq, NS_eq]
    refine go (cj rTI @dl_idf) ?_
    refine ifs ?_ ?_ <;> first | exact nope | intro hb
    refine go (cj rTI @dl_idf) ?_
    (repeat' refine And.intro ?_ ?_) <;> first | exact rfl | exact fnz trivial | skip
    exact Le.refl _
theorem abs_ax (z : Int) : PCall Tryz.prog 176 [NI z] (NI z.natAbs) := by
  refine pcall_of fun s => ?_
  refine acall_of Tryz.func176 rfl rfl (by simp [Tryz.ntmps176]) ?_; rw [Tryz.ntmps176, Tryz.results176]
  rw [NI_nn (z.natAbs : Int) (by omega), Int.natAbs_natCast]
  unfold NI
  rw [NS_eq, NS_eq]
  refine go (cj rTI @dl_idf) ?_
  (repeat' refine And.intro ?_ ?_) <;> first | exact rfl | exact fnz trivial | skip

theorem plusd_ax (m n : Nat) (hm : ln m ≤ 1099511627776) (hn : ln n ≤ 1099511627776) : PCall Tryz.prog 112 [DN (digs B m), DN (digs B n)] (DN (digs B (m + n))) := by
  have := plus_ax (digs B m) (digs B n) hm hn (digs_lt B hB m) (digs_lt B hB n)
  rwa [val_digs B hB, val_digs B hB] at this
theorem minusd_ax (m n : Nat) (hm : ln m ≤ 1099511627776) (h : n ≤ m) : PCall Tryz.prog 114 [DN (digs B m), DN (digs B n)] (DN (digs B (m - n))) := by
  have := minus_ax (digs B m) (digs B n) hm (digs_lt B hB m) (digs_lt B hB n) (by rw [val_digs B hB, val_digs B hB]; exact h) (ln_mono h)
  rwa [val_digs B hB, val_digs B hB] at this
def plusS (a b : Bool) (m n : Nat) : AV := if a = b then NS (a && decide (0 < m + n)) (m + n) else if n ≤ m then NS (a && decide (n < m)) (m - n) else NS b (n - m)
theorem plusS_ax (a b : Bool) (m n : Nat) (hm : ln m ≤ 1099511627776) (hn : ln n ≤ 1099511627776) : PCall Tryz.prog 57 [NS a m, NS b n] (plusS a b m n) := by
  refine pcall_of fun s => ?_
  refine acall_of Tryz.func57 rfl rfl (by simp [Tryz.ntmps57]) ?_; rw [Tryz.ntmps57, Tryz.results57]
  have p0 := plusd_ax m n hm hn
  have p1 := minusd_ax m n hm
  have p2 := minusd_ax n m hn
  have p3 := mags_ax m n (show ln m ≤ _ by omega) (show ln n ≤ _ by omega)
  unfold plusS
  have l0 := ln_zero (m + n)
  have l1 := ln_zero (m - n)
  simp only [NS_eq, DN_ln] at p0 p1 p2 p3 ⊢
  cases a <;> cases b
  · refine go (cj rTI @dl_idf) ?_
    refine ifs ?_ ?_ <;> first | exact nope | intro hb
    refine go (cj rTI @dl_idf) ?_
    refine aw_reg fun K hK => ?_; refine rn (cj rTI @dl_idf) ?_; refine cont_pure p0 ?_; refine rn (cj rTI @dl_idf) ?_; refine hK _ _ ?_; clear hK K
    refine go (cj rTI @dl_idf) ?_
    (repeat' refine And.intro ?_ ?_) <;> first | exact rfl | exact fnz trivial | skip
  · refine go (cj rTI @dl_idf) ?_
    refine ifs ?_ ?_ <;> first | exact nope | intro hb
    refine go (cj rTI @dl_idf) ?_
    refine aw_reg fun K hK => ?_; refine rn (cj rTI @dl_idf) ?_; refine cont_pure p3 ?_; refine rn (cj rTI @dl_idf) ?_; refine hK _ _ ?_; clear hK K
    by_cases h : n ≤ m
    · have h' : ¬ m < n := by omega
      by_cases h2 : n < m
      · have h3 : m ≠ n := by omega
        have h4 : 0 < ln (m - n) := by omega
        rw [cmpN_gt h2] at *
        refine ifs ?_ ?_ <;> first | exact nope | intro hb
        refine go (cj rTI @dl_idf) ?_
        refine aw_reg fun K hK => ?_; refine rn (cj rTI @dl_idf) ?_; refine cont_pure (p1 h) ?_; refine rn (cj rTI @dl_idf) ?_; refine hK _ _ ?_; clear hK K
        refine go (cj rTI @dl_idf) ?_
        (repeat' refine And.intro ?_ ?_) <;> first | exact rfl | exact fnz (cj rTI @dl_idf) | skip
      · obtain rfl : m = n := by omega
        have h4 : ln (m - m) = 0 := by omega
        rw [cmpN_eq rfl] at *
        refine ifs ?_ ?_ <;> first | exact nope | intro hb
        refine go (cj rTI @dl_idf) ?_
        refine aw_reg fun K hK => ?_; refine rn (cj rTI @dl_idf) ?_; refine cont_pure (p1 h) ?_; refine rn (cj rTI @dl_idf) ?_; refine hK _ _ ?_; clear hK K
        refine go (cj rTI @dl_idf) ?_
        (repeat' refine And.intro ?_ ?_) <;> first | exact rfl | exact fnz (cj rTI @dl_idf) | skip
    · have h' : m < n := by omega
      rw [cmpN_lt h'] at *
      refine ifs ?_ ?_ <;> first | exact nope | intro hb
      refine go (cj rTI @dl_idf) ?_
      refine aw_drw (.take 0 (.take 1 (.take 2 (.take 3 (.take 4 (.take 5 (.one 6 (.take 7 (.one 8 (.done)))))))))) [s.nx, s.nx + 1] (by kernel_rfl) (by kernel_rfl) fun K hK => ?_; refine dr (cj rTI @dl_idf) ?_; refine cont_pure (p2 (by omega)) ?_; refine dr (cj rTI @dl_idf) ?_; refine hK _ _ ?_; clear hK K
      refine go (cj rTI @dl_idf) ?_
      (repeat' refine And.intro ?_ ?_) <;> first | exact rfl | exact fnz (cj rTI @dl_idf) | skip
  · refine go (cj rTI @dl_idf) ?_
    refine ifs ?_ ?_ <;> first | exact nope | intro hb
    refine go (cj rTI @dl_idf) ?_
    refine aw_reg fun K hK => ?_; refine rn (cj rTI @dl_idf) ?_; refine cont_pure p3 ?_; refine rn (cj rTI @dl_idf) ?_; refine hK _ _ ?_; clear hK K
    by_cases h : n ≤ m
    · have h' : ¬ m < n := by omega
      by_cases h2 : n < m
      · have h3 : m ≠ n := by omega
        have h4 : 0 < ln (m - n) := by omega
        rw [cmpN_gt h2] at *
        refine ifs ?_ ?_ <;> first | exact nope | intro hb
        refine go (cj rTI @dl_idf) ?_
        refine aw_reg fun K hK => ?_; refine rn (cj rTI @dl_idf) ?_; refine cont_pure (p1 h) ?_; refine rn (cj rTI @dl_idf) ?_; refine hK _ _ ?_; clear hK K
        refine go (cj rTI @dl_idf) ?_
        (repeat' refine And.intro ?_ ?_) <;> first | exact rfl | exact fnz (cj rTI @dl_idf) | skip
      · obtain rfl : m = n := by omega
        have h4 : ln (m - m) = 0 := by omega
        rw [cmpN_eq rfl] at *
        refine ifs ?_ ?_ <;> first | exact nope | intro hb
        refine go (cj rTI @dl_idf) ?_
        refine aw_reg fun K hK => ?_; refine rn (cj rTI @dl_idf) ?_; refine cont_pure (p1 h) ?_; refine rn (cj rTI @dl_idf) ?_; refine hK _ _ ?_; clear hK K
        refine go (cj rTI @dl_idf) ?_
        (repeat' refine And.intro ?_ ?_) <;> first | exact rfl | exact fnz (cj rTI @dl_idf) | skip
    · have h' : m < n := by omega
      rw [cmpN_lt h'] at *
      refine ifs ?_ ?_ <;> first | exact nope | intro hb
      refine go (cj rTI @dl_idf) ?_
      refine aw_drw (.take 0 (.take 1 (.take 2 (.take 3 (.take 4 (.take 5 (.one 6 (.take 7 (.one 8 (.done)))))))))) [s.nx, s.nx + 1] (by kernel_rfl) (by kernel_rfl) fun K hK => ?_; refine dr (cj rTI @dl_idf) ?_; refine cont_pure (p2 (by omega)) ?_; refine dr (cj rTI @dl_idf) ?_; refine hK _ _ ?_; clear hK K
      refine go (cj rTI @dl_idf) ?_
      (repeat' refine And.intro ?_ ?_) <;> first | exact rfl | exact fnz (cj rTI @dl_idf) | skip
  · by_cases h : 0 < m + n
    · have h4 : 0 < ln (m + n) := by omega
      refine go (cj rTI @dl_idf) ?_
      refine ifs ?_ ?_ <;> first | exact nope | intro hb
      refine go (cj rTI @dl_idf) ?_
      refine aw_reg fun K hK => ?_; refine rn (cj rTI @dl_idf) ?_; refine cont_pure p0 ?_; refine rn (cj rTI @dl_idf) ?_; refine hK _ _ ?_; clear hK K
      refine go (cj rTI @dl_idf) ?_
      (repeat' refine And.intro ?_ ?_) <;> first | exact rfl | exact fnz (cj rTI @dl_idf) | skip
    · have h4 : ln (m + n) = 0 := by omega
      refine go (cj rTI @dl_idf) ?_
      refine ifs ?_ ?_ <;> first | exact nope | intro hb
      refine go (cj rTI @dl_idf) ?_
      refine aw_reg fun K hK => ?_; refine rn (cj rTI @dl_idf) ?_; refine cont_pure p0 ?_; refine rn (cj rTI @dl_idf) ?_; refine hK _ _ ?_; clear hK K
      refine go (cj rTI @dl_idf) ?_
      (repeat' refine And.intro ?_ ?_) <;> first | exact rfl | exact fnz (cj rTI @dl_idf) | skip

theorem plusN_ax (x y : Int) (hx : lz x ≤ 1099511627776) (hy : lz y ≤ 1099511627776) : PCall Tryz.prog 57 [NI x, NI y] (NI (x + y)) := by
  have h := plusS_ax (decide (x < 0)) (decide (y < 0)) x.natAbs y.natAbs hx hy
  have e : plusS (decide (x < 0)) (decide (y < 0)) x.natAbs y.natAbs = NI (x + y) := by
    unfold plusS NI
    by_cases h1 : x < 0 <;> by_cases h2 : y < 0
    · rw [if_pos (by simp [h1, h2]), show x.natAbs + y.natAbs = (x + y).natAbs by omega]
      congr 1
      rw [Bool.eq_iff_iff]; simp only [Bool.and_eq_true, decide_eq_true_eq]; omega
    · rw [if_neg (by simp [h1, h2])]
      split
      · rw [show x.natAbs - y.natAbs = (x + y).natAbs by omega]
        congr 1
        rw [Bool.eq_iff_iff]; simp only [Bool.and_eq_true, decide_eq_true_eq]; omega
      · rw [show y.natAbs - x.natAbs = (x + y).natAbs by omega]
        congr 1
        rw [Bool.eq_iff_iff]; simp only [decide_eq_true_eq]; omega
    · rw [if_neg (by simp [h1, h2])]
      split
      · rw [show x.natAbs - y.natAbs = (x + y).natAbs by omega]
        congr 1
        rw [Bool.eq_iff_iff]; simp only [Bool.and_eq_true, decide_eq_true_eq]; omega
      · rw [show y.natAbs - x.natAbs = (x + y).natAbs by omega]
        congr 1
        rw [Bool.eq_iff_iff]; simp only [decide_eq_true_eq]; omega
    · rw [if_pos (by simp [h1, h2]), show x.natAbs + y.natAbs = (x + y).natAbs by omega]
      congr 1
      rw [Bool.eq_iff_iff]; simp only [Bool.and_eq_true, decide_eq_true_eq]; omega
  rw [e] at h
  exact h
theorem lessN_ax (x y : Int) (hx : lz x ≤ 1099511627776) (hy : lz y ≤ 1099511627776) : PCall Tryz.prog 155 [NI x, NI y] (NI (x - y)) := by
  refine pcall_of fun s => ?_
  refine acall_of Tryz.func155 rfl rfl (by simp [Tryz.ntmps155]) ?_; rw [Tryz.ntmps155, Tryz.results155]
  have p0 := minusN_ax y
  have p1 := plusN_ax x (-y) hx (by rw [lz_neg]; exact hy)
  rw [show x + -y = x - y by omega] at p1
  unfold NI at p0 p1 ⊢
  simp only [NS_eq, DN_ln] at p0 p1 ⊢
  refine go (cj rTI @dl_idf) ?_
  refine aw_drw (.take 0 (.take 1 (.one 2 (.one 3 (.one 4 (.done)))))) [s.nx, s.nx + 1] (by kernel_rfl) (by kernel_rfl) fun K hK => ?_; refine dr (cj rTI @dl_idf) ?_; refine cont_pure p0 ?_; refine dr (cj rTI @dl_idf) ?_; refine cont_pure p1 ?_; refine dr (cj rTI @dl_idf) ?_; refine hK _ _ ?_; clear hK K
  refine go (cj rTI @dl_idf) ?_
  (repeat' refine And.intro ?_ ?_) <;> first | exact rfl | exact fnz (cj rTI @dl_idf) | skip
theorem heldN_ax (x y : Int) (hx : lz x ≤ 1099511627776) (hy : lz y ≤ 1099511627776) : PCall Tryz.prog 117 [NI x, NI y] (.v (.int .i64 (sgn (x - y)))) := by
  refine pcall_of fun s => ?_
  refine acall_of Tryz.func117 rfl rfl (by simp [Tryz.ntmps117]) ?_; rw [Tryz.ntmps117, Tryz.results117]
  have p0 := lessN_ax x y hx hy
  have p1 := sign_ax (x - y)
  unfold NI at p0 p1 ⊢
  simp only [NS_eq, DN_ln] at p0 p1 ⊢
  refine go (cj rTI @dl_idf) ?_
  refine aw_reg fun K hK => ?_; refine rn (cj rTI @dl_idf) ?_; refine cont_pure p0 ?_; refine rn (cj rTI @dl_idf) ?_; refine cont_pure p1 ?_; refine rn (cj rTI @dl_idf) ?_; refine hK _ _ ?_; clear hK K
  refine go (cj rTI @dl_idf) ?_
  (repeat' refine And.intro ?_ ?_) <;> first | exact rfl | exact fnz (cj rTI @dl_idf) | skip
end Go.Proofs.YtfjelkjlfcafgaaGreatDoor.RefC
end
section
/- The document's whole numbers (layer 1): made from a machine's number. -/
namespace Go.Proofs.YtfjelkjlfcafgaaGreatDoor.RefD
open Go Go.RowKit Go.Proofs.YtfjelkjlfcafgaaGreatDoor.Ax Go.Proofs.YtfjelkjlfcafgaaGreatDoor.Ti Go.Proofs.YtfjelkjlfcafgaaGreatDoor.BigM Go.Proofs.YtfjelkjlfcafgaaGreatDoor.RefA Go.Proofs.YtfjelkjlfcafgaaGreatDoor.RefB Go.Proofs.YtfjelkjlfcafgaaGreatDoor.RefC
set_option maxHeartbeats 2000000
set_option linter.unusedSimpArgs false
set_option linter.unusedVariables false
set_option maxRecDepth 4000
theorem rTU : type_of% (cj @ti105 (cj @ti63 (cj @ti3 (cj @ti4 (cj @ti2 @ti165))))) := cj @ti105 (cj @ti63 (cj @ti3 (cj @ti4 (cj @ti2 @ti165))))
theorem rTI : type_of% (cj @ti105 (cj @ti63 (cj @ti3 @ti4))) := cj @ti105 (cj @ti63 (cj @ti3 @ti4))

structure SmallI (m sl : Nat) (kd : IntKind) (s : St) (N : Nat) (b : Bool) (n id : Nat) (ds : List Nat) (e : Env) (s' : St) : Prop where
  en : e.n = m
  e0 : e.m sl = .v (.int kd n)
  e2 : e.m 2 = .ptr s.nx 0
  e3 : e.m 3 = .ptr (s.nx + 1) 0
  g0 : s'.get s.nx = some [.v (.bool false), .v (.slice none 0 0)]
  g1 : s'.get (s.nx + 1) = some [.v (.bool b), .own id 0 ds.length 1]
  gi : s'.get id = some (DL ds)
  lo : s.nx + 1 < id
  hi : id < s'.nx
  fr : ∀ i, i < s.nx → s'.get i = s.get i
  all : digs B N = ds ++ digs B n
  sz : n ≤ N
theorem small_ax (z : Int) (h1 : -9223372036854775808 < z) (h2 : z < 9223372036854775808) : PCall Tryz.prog 55 [.v (.int .i64 z)] (NI z) := by
  have l0 : ln z.natAbs ≤ 4 := (ln_lt _ 4).1 (by unfold B; omega)
  refine pcall_of fun s => ?_
  refine acall_of Tryz.func55 rfl rfl (by simp [Tryz.ntmps55]) ?_; rw [Tryz.ntmps55, Tryz.results55]
  by_cases hz : z < 0
  · rw [NI_neg z hz, NS_eq]
    refine go (cj rTI @dl_idf) ?_
    refine ifs ?_ ?_ <;> first | exact nope | intro hb
    refine go (cj rTI @dl_idf) ?_
    refine aw_nil_box (s.nx + 1) 1 1 _ (by refine rn (cj rTI @dl_idf) ?_; rfl) rfl ?_
    refine aw_loop (fun n e s' => ∃ (id : Nat) (ds : List Nat), SmallI 21 0 .i64 s z.natAbs true n id ds e s') z.natAbs ?_ ?_
    · refine ⟨s.nx + 2, [], ?_⟩
      constructor <;> (try (first | refine rn trivial ?_ | exact rn0 trivial))
      all_goals (first | exact shz | (intro i hi; (first | refine rn trivial ?_ | exact rn0 trivial)) | skip)
    · rintro n e s' ⟨id, ds, hI⟩
      have k0 := hI.en
      have k9 := hI.sz
      have k1 := hI.e0
      have k2 := hI.e2
      have k3 := hI.e3
      have k4 := hI.g0
      have k5 := hI.g1
      have k6 := hI.gi
      have k7 := hI.lo
      have k8 := hI.hi
      have l1 := DL_len ds
      have l2 := congrArg List.length hI.all
      rw [List.length_append] at l2
      change ln _ = _ + ln _ at l2
      by_cases hn : 0 < n
      · refine go (cj rTI (cj @dl_idf (cj @k0 (cj @k1 (cj @k2 (cj @k3 (cj @k4 (cj @k5 (cj @k6 @l1))))))))) ?_
        refine ifs ?_ ?_ <;> first | exact nope | intro hb
        refine go (cj rTI (cj @dl_idf (cj @k0 (cj @k1 (cj @k2 (cj @k3 (cj @k4 (cj @k5 (cj @k6 @l1))))))))) ?_
        have hst := digs_pos B n hB hn
        simp only [block_normal, loop_normal]; refine ⟨n / 65536, by omega, ?_⟩
        refine ⟨s'.nx + 1, ds ++ [n % B], ?_⟩
        constructor <;> (try (first | refine rn (cj rTI (cj @dl_idf (cj @k0 (cj @k1 (cj @k2 (cj @k3 (cj @k4 (cj @k5 (cj @k6 (cj @l1 (cj @DL_snoc rla))))))))))) ?_ | exact rn0 (cj rTI (cj @dl_idf (cj @k0 (cj @k1 (cj @k2 (cj @k3 (cj @k4 (cj @k5 (cj @k6 (cj @l1 (cj @DL_snoc rla)))))))))))))
        all_goals (first | exact shz | (intro i hi; (first | refine rn (hI.fr i hi) ?_ | exact rn0 (hI.fr i hi))) | skip)
        rw [hI.all, hst]; simp; rfl
      · refine go (cj rTI (cj @dl_idf (cj @k0 (cj @k1 (cj @k2 (cj @k3 (cj @k4 (cj @k5 (cj @k6 @l1))))))))) ?_
        refine ifs ?_ ?_ <;> first | exact nope | intro hb
        have ha := hI.all
        rw [show n = 0 by omega, digs_zero, List.append_nil] at ha
        have hb2 : ln z.natAbs = ds.length := congrArg List.length ha
        refine aw_freeze2 id (DL ds) k6 (fun i => i == s.nx + 1) fun e' s'' f1 f2 f3 f4 => ?_
        refine go (cj rTI (cj @dl_idf (cj @k0 (cj @k1 (cj @k2 (cj @k3 (cj @k4 (cj @k5 (cj @k6 (cj @l1 (cj @f1 (cj @f2 (cj @f3 (cj @f4 (cj frw (cj @DL_take rbe)))))))))))))))) ?_
        (repeat' refine And.intro ?_ ?_) <;> first | exact rfl | exact fnz trivial | skip
        · rw [ha, hb2]
        · intro i hi
          exact rn0 (hI.fr i hi)
  · rw [NI_nn z (by omega), NS_eq]
    refine go (cj rTI @dl_idf) ?_
    refine ifs ?_ ?_ <;> first | exact nope | intro hb
    refine go (cj rTI @dl_idf) ?_
    refine aw_nil_box (s.nx + 1) 1 1 _ (by refine rn (cj rTI @dl_idf) ?_; rfl) rfl ?_
    refine aw_loop (fun n e s' => ∃ (id : Nat) (ds : List Nat), SmallI 21 0 .i64 s z.natAbs false n id ds e s') z.natAbs ?_ ?_
    · refine ⟨s.nx + 2, [], ?_⟩
      constructor <;> (try (first | refine rn trivial ?_ | exact rn0 trivial))
      all_goals (first | exact shz | (intro i hi; (first | refine rn trivial ?_ | exact rn0 trivial)) | skip)
    · rintro n e s' ⟨id, ds, hI⟩
      have k0 := hI.en
      have k9 := hI.sz
      have k1 := hI.e0
      have k2 := hI.e2
      have k3 := hI.e3
      have k4 := hI.g0
      have k5 := hI.g1
      have k6 := hI.gi
      have k7 := hI.lo
      have k8 := hI.hi
      have l1 := DL_len ds
      have l2 := congrArg List.length hI.all
      rw [List.length_append] at l2
      change ln _ = _ + ln _ at l2
      by_cases hn : 0 < n
      · refine go (cj rTI (cj @dl_idf (cj @k0 (cj @k1 (cj @k2 (cj @k3 (cj @k4 (cj @k5 (cj @k6 @l1))))))))) ?_
        refine ifs ?_ ?_ <;> first | exact nope | intro hb
        refine go (cj rTI (cj @dl_idf (cj @k0 (cj @k1 (cj @k2 (cj @k3 (cj @k4 (cj @k5 (cj @k6 @l1))))))))) ?_
        have hst := digs_pos B n hB hn
        simp only [block_normal, loop_normal]; refine ⟨n / 65536, by omega, ?_⟩
        refine ⟨s'.nx + 1, ds ++ [n % B], ?_⟩
        constructor <;> (try (first | refine rn (cj rTI (cj @dl_idf (cj @k0 (cj @k1 (cj @k2 (cj @k3 (cj @k4 (cj @k5 (cj @k6 (cj @l1 (cj @DL_snoc rla))))))))))) ?_ | exact rn0 (cj rTI (cj @dl_idf (cj @k0 (cj @k1 (cj @k2 (cj @k3 (cj @k4 (cj @k5 (cj @k6 (cj @l1 (cj @DL_snoc rla)))))))))))))
        all_goals (first | exact shz | (intro i hi; (first | refine rn (hI.fr i hi) ?_ | exact rn0 (hI.fr i hi))) | skip)
        rw [hI.all, hst]; simp; rfl
      · refine go (cj rTI (cj @dl_idf (cj @k0 (cj @k1 (cj @k2 (cj @k3 (cj @k4 (cj @k5 (cj @k6 @l1))))))))) ?_
        refine ifs ?_ ?_ <;> first | exact nope | intro hb
        have ha := hI.all
        rw [show n = 0 by omega, digs_zero, List.append_nil] at ha
        have hb2 : ln z.natAbs = ds.length := congrArg List.length ha
        refine aw_freeze2 id (DL ds) k6 (fun i => i == s.nx + 1) fun e' s'' f1 f2 f3 f4 => ?_
        refine go (cj rTI (cj @dl_idf (cj @k0 (cj @k1 (cj @k2 (cj @k3 (cj @k4 (cj @k5 (cj @k6 (cj @l1 (cj @f1 (cj @f2 (cj @f3 (cj @f4 (cj frw (cj @DL_take rbe)))))))))))))))) ?_
        (repeat' refine And.intro ?_ ?_) <;> first | exact rfl | exact fnz trivial | skip
        · rw [ha, hb2]
        · intro i hi
          exact rn0 (hI.fr i hi)
theorem wide_ax (z : Int) (h1 : -9223372036854775808 ≤ z) (h2 : z < 9223372036854775808) : PCall Tryz.prog 66 [.v (.int .i64 z)] (NI z) := by
  have l0 : ln z.natAbs ≤ 4 := (ln_lt _ 4).1 (by unfold B; omega)
  refine pcall_of fun s => ?_
  refine acall_of Tryz.func66 rfl rfl (by simp [Tryz.ntmps66]) ?_; rw [Tryz.ntmps66, Tryz.results66]
  by_cases hz : z < 0
  · rw [NI_neg z hz, NS_eq]
    refine go (cj rTU @dl_idf) ?_
    refine ifs ?_ ?_ <;> first | exact nope | intro hb
    refine go (cj rTU @dl_idf) ?_
    refine aw_nil_box (s.nx + 1) 1 1 _ (by refine rn (cj rTU @dl_idf) ?_; rfl) rfl ?_
    refine aw_loop (fun n e s' => ∃ (id : Nat) (ds : List Nat), SmallI 25 4 .u64 s z.natAbs true n id ds e s') z.natAbs ?_ ?_
    · refine ⟨s.nx + 2, [], ?_⟩
      constructor <;> (try (first | refine rn trivial ?_ | exact rn0 trivial))
      all_goals (first | exact shz | (intro i hi; (first | refine rn trivial ?_ | exact rn0 trivial)) | skip)
      all_goals (refine congrArg (fun z : Int => AV.v (.int .u64 z)) ?_; (try simp only [wrap_u64]); omega)
    · rintro n e s' ⟨id, ds, hI⟩
      have k0 := hI.en
      have k9 := hI.sz
      have k1 := hI.e0
      have k2 := hI.e2
      have k3 := hI.e3
      have k4 := hI.g0
      have k5 := hI.g1
      have k6 := hI.gi
      have k7 := hI.lo
      have k8 := hI.hi
      have l1 := DL_len ds
      have l2 := congrArg List.length hI.all
      rw [List.length_append] at l2
      change ln _ = _ + ln _ at l2
      by_cases hn : 0 < n
      · refine go (cj rTU (cj @dl_idf (cj @k0 (cj @k1 (cj @k2 (cj @k3 (cj @k4 (cj @k5 (cj @k6 @l1))))))))) ?_
        refine ifs ?_ ?_ <;> first | exact nope | intro hb
        refine go (cj rTU (cj @dl_idf (cj @k0 (cj @k1 (cj @k2 (cj @k3 (cj @k4 (cj @k5 (cj @k6 @l1))))))))) ?_
        have hst := digs_pos B n hB hn
        simp only [block_normal, loop_normal]; refine ⟨n / 65536, by omega, ?_⟩
        refine ⟨s'.nx + 1, ds ++ [n % B], ?_⟩
        constructor <;> (try (first | refine rn (cj rTU (cj @dl_idf (cj @k0 (cj @k1 (cj @k2 (cj @k3 (cj @k4 (cj @k5 (cj @k6 (cj @l1 (cj @DL_snoc rla))))))))))) ?_ | exact rn0 (cj rTU (cj @dl_idf (cj @k0 (cj @k1 (cj @k2 (cj @k3 (cj @k4 (cj @k5 (cj @k6 (cj @l1 (cj @DL_snoc rla)))))))))))))
        all_goals (first | exact shz | (intro i hi; (first | refine rn (hI.fr i hi) ?_ | exact rn0 (hI.fr i hi))) | skip)
        rw [hI.all, hst]; simp; rfl
      · refine go (cj rTU (cj @dl_idf (cj @k0 (cj @k1 (cj @k2 (cj @k3 (cj @k4 (cj @k5 (cj @k6 @l1))))))))) ?_
        refine ifs ?_ ?_ <;> first | exact nope | intro hb
        have ha := hI.all
        rw [show n = 0 by omega, digs_zero, List.append_nil] at ha
        have hb2 : ln z.natAbs = ds.length := congrArg List.length ha
        refine aw_freeze2 id (DL ds) k6 (fun i => i == s.nx + 1) fun e' s'' f1 f2 f3 f4 => ?_
        refine go (cj rTU (cj @dl_idf (cj @k0 (cj @k1 (cj @k2 (cj @k3 (cj @k4 (cj @k5 (cj @k6 (cj @l1 (cj @f1 (cj @f2 (cj @f3 (cj @f4 (cj frw (cj @DL_take rbe)))))))))))))))) ?_
        (repeat' refine And.intro ?_ ?_) <;> first | exact rfl | exact fnz trivial | skip
        · rw [ha, hb2]
        · intro i hi
          exact rn0 (hI.fr i hi)
  · rw [NI_nn z (by omega), NS_eq]
    refine go (cj rTU @dl_idf) ?_
    refine ifs ?_ ?_ <;> first | exact nope | intro hb
    refine go (cj rTU @dl_idf) ?_
    refine aw_nil_box (s.nx + 1) 1 1 _ (by refine rn (cj rTU @dl_idf) ?_; rfl) rfl ?_
    refine aw_loop (fun n e s' => ∃ (id : Nat) (ds : List Nat), SmallI 25 4 .u64 s z.natAbs false n id ds e s') z.natAbs ?_ ?_
    · refine ⟨s.nx + 2, [], ?_⟩
      constructor <;> (try (first | refine rn trivial ?_ | exact rn0 trivial))
      all_goals (first | exact shz | (intro i hi; (first | refine rn trivial ?_ | exact rn0 trivial)) | skip)
      all_goals (refine congrArg (fun z : Int => AV.v (.int .u64 z)) ?_; (try simp only [wrap_u64]); omega)
    · rintro n e s' ⟨id, ds, hI⟩
      have k0 := hI.en
      have k9 := hI.sz
      have k1 := hI.e0
      have k2 := hI.e2
      have k3 := hI.e3
      have k4 := hI.g0
      have k5 := hI.g1
      have k6 := hI.gi
      have k7 := hI.lo
      have k8 := hI.hi
      have l1 := DL_len ds
      have l2 := congrArg List.length hI.all
      rw [List.length_append] at l2
      change ln _ = _ + ln _ at l2
      by_cases hn : 0 < n
      · refine go (cj rTU (cj @dl_idf (cj @k0 (cj @k1 (cj @k2 (cj @k3 (cj @k4 (cj @k5 (cj @k6 @l1))))))))) ?_
        refine ifs ?_ ?_ <;> first | exact nope | intro hb
        refine go (cj rTU (cj @dl_idf (cj @k0 (cj @k1 (cj @k2 (cj @k3 (cj @k4 (cj @k5 (cj @k6 @l1))))))))) ?_
        have hst := digs_pos B n hB hn
        simp only [block_normal, loop_normal]; refine ⟨n / 65536, by omega, ?_⟩
        refine ⟨s'.nx + 1, ds ++ [n % B], ?_⟩
        constructor <;> (try (first | refine rn (cj rTU (cj @dl_idf (cj @k0 (cj @k1 (cj @k2 (cj @k3 (cj @k4 (cj @k5 (cj @k6 (cj @l1 (cj @DL_snoc rla))))))))))) ?_ | exact rn0 (cj rTU (cj @dl_idf (cj @k0 (cj @k1 (cj @k2 (cj @k3 (cj @k4 (cj @k5 (cj @k6 (cj @l1 (cj @DL_snoc rla)))))))))))))
        all_goals (first | exact shz | (intro i hi; (first | refine rn (hI.fr i hi) ?_ | exact rn0 (hI.fr i hi))) | skip)
        rw [hI.all, hst]; simp; rfl
      · refine go (cj rTU (cj @dl_idf (cj @k0 (cj @k1 (cj @k2 (cj @k3 (cj @k4 (cj @k5 (cj @k6 @l1))))))))) ?_
        refine ifs ?_ ?_ <;> first | exact nope | intro hb
        have ha := hI.all
        rw [show n = 0 by omega, digs_zero, List.append_nil] at ha
        have hb2 : ln z.natAbs = ds.length := congrArg List.length ha
        refine aw_freeze2 id (DL ds) k6 (fun i => i == s.nx + 1) fun e' s'' f1 f2 f3 f4 => ?_
        refine go (cj rTU (cj @dl_idf (cj @k0 (cj @k1 (cj @k2 (cj @k3 (cj @k4 (cj @k5 (cj @k6 (cj @l1 (cj @f1 (cj @f2 (cj @f3 (cj @f4 (cj frw (cj @DL_take rbe)))))))))))))))) ?_
        (repeat' refine And.intro ?_ ?_) <;> first | exact rfl | exact fnz trivial | skip
        · rw [ha, hb2]
        · intro i hi
          exact rn0 (hI.fr i hi)
end Go.Proofs.YtfjelkjlfcafgaaGreatDoor.RefD
end
section
/- The document's whole numbers (layer 1): the product. -/
namespace Go.Proofs.YtfjelkjlfcafgaaGreatDoor.RefE
open Go Go.RowKit Go.Proofs.YtfjelkjlfcafgaaGreatDoor.Ax Go.Proofs.YtfjelkjlfcafgaaGreatDoor.Ti Go.Proofs.YtfjelkjlfcafgaaGreatDoor.BigM Go.Proofs.YtfjelkjlfcafgaaGreatDoor.RefA Go.Proofs.YtfjelkjlfcafgaaGreatDoor.RefB Go.Proofs.YtfjelkjlfcafgaaGreatDoor.RefC Go.Proofs.YtfjelkjlfcafgaaGreatDoor.RefD
set_option maxHeartbeats 2000000
set_option linter.unusedSimpArgs false
set_option linter.unusedVariables false
set_option maxRecDepth 4000
theorem rTI : type_of% (cj @ti105 (cj @ti63 (cj @ti3 @ti4))) := cj @ti105 (cj @ti63 (cj @ti3 @ti4))

theorem val_set : ∀ (ds : List Nat) (k v : Nat), k < ds.length → val B (ds.set k v) + B ^ k * ds.getD k 0 = val B ds + B ^ k * v
  | [], _, _, h => by simp at h
  | d :: l, 0, v, _ => by
    rw [List.set_cons_zero, val, val, Nat.pow_zero, List.getD_cons_zero]
    omega
  | d :: l, k + 1, v, h => by
    have ih := val_set l k v (by simpa using h)
    rw [List.set_cons_succ, val, val, List.getD_cons_succ, Nat.pow_succ]
    have e1 : B * (val B (l.set k v) + B ^ k * l.getD k 0) = B * (val B l + B ^ k * v) := by rw [ih]
    rw [Nat.mul_add, Nat.mul_add, ← Nat.mul_assoc, ← Nat.mul_assoc, Nat.mul_comm B (B ^ k)] at e1
    omega
theorem hd_DL (ds : List Nat) (k : Nat) (h : k < ds.length) : ((DL ds).drop k).head? = some (.v (.int .i64 (ds.getD k 0 : Nat))) := hd_nat (fun x : Nat => AV.v (.int .i64 (x : Int))) ds k h
theorem DL_set (ds : List Nat) (k v : Nat) : (DL ds).set k (.v (.int .i64 (v : Int))) = DL (ds.set k v) := by unfold DL; rw [List.map_set]
theorem DL_zero (n : Nat) : List.replicate n (AV.v (.int .i64 0)) = DL (List.replicate n 0) := by unfold DL; rw [List.map_replicate]; rfl
theorem getD_set (ds : List Nat) (k v j : Nat) (h : k < ds.length) : (ds.set k v).getD j 0 = if j = k then v else ds.getD j 0 := by
  rw [List.getD_eq_getElem?_getD, List.getD_eq_getElem?_getD, List.getElem?_set]
  by_cases e : j = k
  · subst e; simp [h]
  · rw [if_neg (fun q => e q.symm), if_neg e]
theorem set_lt (ds : List Nat) (k v : Nat) (h : ∀ d ∈ ds, d < B) (hv : v < B) : ∀ d ∈ ds.set k v, d < B := by
  intro d hd
  rcases List.mem_or_eq_of_mem_set hd with q | q
  · exact h d q
  · rw [q]; exact hv

structure TimesM (a b : Bool) (xs ys : List Nat) (s : St) (i : Nat) (ds : List Nat) (e : Env) (s' : St) : Prop where
  en : e.n = 92
  e2 : e.m 2 = .ptr s.nx 0
  e3 : e.m 3 = .ptr (s.nx + 1) 0
  e4 : e.m 4 = .ptr (s.nx + 2) 0
  e5 : e.m 5 = .own (s.nx + 3) 0 (xs.length + ys.length) 1
  e6 : e.m 6 = .v (.int .i64 i)
  g0 : s'.get s.nx = some [.v (.bool a), .sl xs.length (DL xs)]
  g1 : s'.get (s.nx + 1) = some [.v (.bool b), .sl ys.length (DL ys)]
  g2 : s'.get (s.nx + 2) = some [.v (.bool false), .v (.slice none 0 0)]
  gi : s'.get (s.nx + 3) = some (DL ds)
  hi : s'.nx = s.nx + 4
  fr : ∀ i, i < s.nx → s'.get i = s.get i
  len : ds.length = xs.length + ys.length
  lt : ∀ d ∈ ds, d < B
structure TimesO (a b : Bool) (xs ys : List Nat) (s : St) (n i : Nat) (ds : List Nat) (e : Env) (s' : St) : Prop extends TimesM a b xs ys s i ds e s' where
  on : n = xs.length - i
  oi : i ≤ xs.length
  oz : ∀ k, i + ys.length ≤ k → ds.getD k 0 = 0
  ov : val B ds = val B (xs.take i) * val B ys
structure TimesJ (a b : Bool) (xs ys : List Nat) (s : St) (i : Nat) (n j cr : Nat) (ds : List Nat) (e : Env) (s' : St) : Prop extends TimesM a b xs ys s i ds e s' where
  e7 : e.m 7 = .v (.int .i64 cr)
  e8 : e.m 8 = .v (.int .i64 j)
  jc : cr < B
  jn : n = ys.length - j
  ji : i < xs.length
  jj : j ≤ ys.length
  jz : ∀ k, i + ys.length ≤ k → ds.getD k 0 = 0
  jv : val B ds + B ^ (i + j) * cr = val B (xs.take i) * val B ys + B ^ i * xs.getD i 0 * val B (ys.take j)
theorem times_step (xs ys ds : List Nat) (i j cr : Nat) (h : val B ds + B ^ (i + j) * cr = val B (xs.take i) * val B ys + B ^ i * xs.getD i 0 * val B (ys.take j)) (hk : i + j < ds.length) (z : Nat) (hz : z = ds.getD (i + j) 0 + xs.getD i 0 * ys.getD j 0 + cr) :
    val B (ds.set (i + j) (z % B)) + B ^ (i + (j + 1)) * (z / B) = val B (xs.take i) * val B ys + B ^ i * xs.getD i 0 * val B (ys.take (j + 1)) := by
  have h1 := val_set ds (i + j) (z % B) hk
  have h2 : B ^ (i + j) * z = B ^ (i + j) * (z % B) + B ^ (i + (j + 1)) * (z / B) := by
    conv => lhs; rw [← Nat.mod_add_div z B]
    rw [Nat.mul_add, ← Nat.mul_assoc, ← Nat.pow_succ]
    rfl
  have h3 : B ^ (i + j) * z = B ^ (i + j) * ds.getD (i + j) 0 + B ^ i * xs.getD i 0 * (B ^ j * ys.getD j 0) + B ^ (i + j) * cr := by
    rw [hz, Nat.mul_add, Nat.mul_add, Nat.pow_add]
    congr 2
    ac_rfl
  rw [tk_snoc, Nat.mul_add]
  omega
theorem times_row (xs ys ds : List Nat) (i cr : Nat) (h : val B ds + B ^ (i + ys.length) * cr = val B (xs.take i) * val B ys + B ^ i * xs.getD i 0 * val B (ys.take ys.length)) (hk : i + ys.length < ds.length) (h0 : ds.getD (i + ys.length) 0 = 0) :
    val B (ds.set (i + ys.length) cr) = val B (xs.take (i + 1)) * val B ys := by
  have h1 := val_set ds (i + ys.length) cr hk
  rw [h0] at h1
  rw [tk_snoc, Nat.add_mul]
  rw [List.take_length] at h
  omega
theorem timesS_ax (a b : Bool) (xs ys : List Nat) (dx : ∀ d ∈ xs, d < B) (dy : ∀ d ∈ ys, d < B) (hl : xs.length + ys.length ≤ 1099511627776) : PCall Tryz.prog 58 [.ag [.v (.bool a), .sl xs.length (DL xs)], .ag [.v (.bool b), .sl ys.length (DL ys)]] (NS ((a != b) && decide (0 < val B xs * val B ys)) (val B xs * val B ys)) := by
  refine pcall_of fun s => ?_
  refine acall_of Tryz.func58 rfl rfl (by simp [Tryz.ntmps58]) ?_; rw [Tryz.ntmps58, Tryz.results58]
  refine go (cj rTI @dl_idf) ?_
  refine aw_loop (fun n e s' => ∃ (i : Nat) (ds : List Nat), TimesO a b xs ys s n i ds e s') xs.length ?_ ?_
  · refine ⟨0, List.replicate (xs.length + ys.length) 0, ?_⟩
    constructor
    · constructor <;> (try (first | refine rn @DL_zero ?_ | exact rn0 @DL_zero))
      all_goals (first | exact shz | (intro i hi; (first | refine rn @DL_zero ?_ | exact rn0 @DL_zero)) | skip)
      · simp
      · intro d hd
        rw [List.eq_of_mem_replicate hd]; decide
    · omega
    · omega
    · intro k hk
      simp [List.getD_eq_getElem?_getD, List.getElem?_replicate]
      try (split <;> rfl)
    · rw [val_replicate]; simp [val]
  · rintro n e s' ⟨i, ds, hO⟩
    have k0 := hO.en
    have k2 := hO.e2
    have k3 := hO.e3
    have k4 := hO.e4
    have k5 := hO.e5
    have k6 := hO.e6
    have g0 := hO.g0
    have g1 := hO.g1
    have g2 := hO.g2
    have g3 := hO.gi
    have g4 := hO.hi
    have b1 := hO.on
    have b2 := hO.oi
    have l1 := DL_len ds
    have l2 := DL_len xs
    have l3 := DL_len ys
    have l4 := hO.len
    by_cases hn : i < xs.length
    · refine go (cj rTI (cj @dl_idf (cj @k0 (cj @k2 (cj @k3 (cj @k4 (cj @k5 (cj @k6 (cj @g0 (cj @g1 (cj @g2 @g3))))))))))) ?_
      refine ifs ?_ ?_ <;> first | exact nope | intro hb
      refine go (cj rTI (cj @dl_idf (cj @k0 (cj @k2 (cj @k3 (cj @k4 (cj @k5 (cj @k6 (cj @g0 (cj @g1 (cj @g2 @g3))))))))))) ?_
      refine aw_loop (fun n e s' => ∃ (j cr : Nat) (ds : List Nat), TimesJ a b xs ys s i n j cr ds e s') ys.length ?_ ?_
      · refine ⟨0, 0, ds, ?_⟩
        constructor
        · constructor <;> (try exact rn0 (cj @k0 (cj @k2 (cj @k3 (cj @k4 (cj @k5 (cj @k6 (cj @g0 (cj @g1 (cj @g2 (cj @g3 (cj @g4 @hO.len))))))))))))
          all_goals (first | exact shz | (intro i hi; (first | refine rn (hO.fr i hi) ?_ | exact rn0 (hO.fr i hi))) | skip)
          exact hO.lt
        · refine rn trivial ?_
          rfl
        · refine rn trivial ?_
          rfl
        · decide
        · omega
        · exact hn
        · omega
        · exact hO.oz
        · rw [hO.ov]; simp [val]
      · clear k0 k2 k3 k4 k5 k6 g0 g1 g2 g3 g4 b1 b2 l1 l4
        rintro n2 e2 s2 ⟨j, cr, ds, hJ⟩
        have k0 := hJ.en
        have k2 := hJ.e2
        have k3 := hJ.e3
        have k4 := hJ.e4
        have k5 := hJ.e5
        have k6 := hJ.e6
        have k7 := hJ.e7
        have k8 := hJ.e8
        have g0 := hJ.g0
        have g1 := hJ.g1
        have g2 := hJ.g2
        have g3 := hJ.gi
        have g4 := hJ.hi
        have b1 := hJ.jn
        have b2 := hJ.jj
        have l1 := DL_len ds
        have l4 := hJ.len
        by_cases hj : j < ys.length
        · refine go (cj rTI (cj @dl_idf (cj @k0 (cj @k2 (cj @k3 (cj @k4 (cj @k5 (cj @k6 (cj @k7 (cj @k8 (cj @g0 (cj @g1 (cj @g2 @g3))))))))))))) ?_
          refine ifs ?_ ?_ <;> first | exact nope | intro hb
          refine go (cj rTI (cj @dl_idf (cj @k0 (cj @k2 (cj @k3 (cj @k4 (cj @k5 (cj @k6 (cj @k7 (cj @k8 (cj @g0 (cj @g1 (cj @g2 @g3))))))))))))) ?_
          have p1 : ds.getD (i + j) 0 < 65536 := getD_lt B (by decide) ds hJ.lt _
          have p2 : xs.getD i 0 < 65536 := getD_lt B (by decide) xs dx _
          have p3 : ys.getD j 0 < 65536 := getD_lt B (by decide) ys dy _
          have p4 : cr < 65536 := hJ.jc
          have p5 : xs.getD i 0 * ys.getD j 0 ≤ 65535 * 65535 := Nat.mul_le_mul (by omega) (by omega)
          have p6 : ((xs.getD i 0 : Nat) : Int) * ((ys.getD j 0 : Nat) : Int) ≤ 4294836225 := by rw [← Int.natCast_mul]; omega
          have p7 : 0 ≤ ((xs.getD i 0 : Nat) : Int) * ((ys.getD j 0 : Nat) : Int) := by rw [← Int.natCast_mul]; omega
          have p8 : ((i : Int) + (j : Int)).toNat = i + j := by omega
          refine aw_drw (.take 0 (.take 1 (.take 2 (.take 3 (.take 4 (.take 5 (.take 6 (.take 7 (.take 8 (.take 9 (.take 10 (.take 11 (.take 12 (.take 13 (.take 14 (.take 15 (.take 16 (.take 17 (.take 18 (.take 19 (.take 20 (.done)))))))))))))))))))))) [s.nx, s.nx + 1, s.nx + 3] (by kernel_rfl) (by kernel_rfl) fun K hK => ?_; refine dr (cj rTI (cj @dl_idf (cj @k0 (cj @k2 (cj @k3 (cj @k4 (cj @k5 (cj @k6 (cj @k7 (cj @k8 (cj @g0 (cj @g1 (cj @g2 (cj @g3 (cj @hd_DL (cj @p8 @l4)))))))))))))))) ?_; refine hK _ _ ?_; clear hK K
          refine go (cj rTI (cj @dl_idf (cj @k0 (cj @k2 (cj @k3 (cj @k4 (cj @k5 (cj @k6 (cj @k7 (cj @k8 (cj @g0 (cj @g1 (cj @g2 (cj @g3 (cj @p8 (cj @l1 @l4)))))))))))))))) ?_
          have hst := times_step xs ys ds i j cr hJ.jv (by omega) _ rfl
          have q3 : ds.getD (i + j) 0 + xs.getD i 0 * ys.getD j 0 + cr < 65536 * 65536 := by omega
          have q5 : (ds.getD (i + j) 0 + xs.getD i 0 * ys.getD j 0 + cr) / 65536 < 65536 := Nat.div_lt_of_lt_mul q3
          have e1 : (((ds.getD (i + j) 0 : Nat) : Int) + ((xs.getD i 0 : Nat) : Int) * ((ys.getD j 0 : Nat) : Int) + (cr : Int)) = ((ds.getD (i + j) 0 + xs.getD i 0 * ys.getD j 0 + cr : Nat) : Int) := by
            rw [Int.natCast_add, Int.natCast_add, Int.natCast_mul]
          have e2 : ∀ z : Nat, ((z : Int) % 65536) = ((z % 65536 : Nat) : Int) := fun z => by omega
          have e3 : ∀ z : Nat, ((z : Int) / 65536) = ((z / 65536 : Nat) : Int) := fun z => by omega
          simp only [block_normal, loop_normal]; refine ⟨ys.length - (j + 1), by omega, ?_⟩
          refine ⟨j + 1, (ds.getD (i + j) 0 + xs.getD i 0 * ys.getD j 0 + cr) / B, ds.set (i + j) ((ds.getD (i + j) 0 + xs.getD i 0 * ys.getD j 0 + cr) % B), ?_⟩
          constructor
          · constructor <;> (try (first | refine rn (cj @k0 (cj @k2 (cj @k3 (cj @k4 (cj @k5 (cj @k6 (cj @k7 (cj @k8 (cj @g0 (cj @g1 (cj @g2 (cj @g3 (cj @g4 (cj @hJ.len (cj rls (cj @Nat.zero_add (cj @e1 (cj @e2 (cj @e3 @DL_set))))))))))))))))))) ?_ | exact rn0 (cj @k0 (cj @k2 (cj @k3 (cj @k4 (cj @k5 (cj @k6 (cj @k7 (cj @k8 (cj @g0 (cj @g1 (cj @g2 (cj @g3 (cj @g4 (cj @hJ.len (cj rls (cj @Nat.zero_add (cj @e1 (cj @e2 (cj @e3 @DL_set)))))))))))))))))))))
            all_goals (first | exact shz | (intro i hi; (first | refine rn (hJ.fr i hi) ?_ | exact rn0 (hJ.fr i hi))) | skip)
            exact set_lt _ _ _ hJ.lt (Nat.mod_lt _ (by decide))
          · refine rn (cj @Nat.zero_add (cj @e1 (cj @e2 @e3))) ?_
            rfl
          · refine rn trivial ?_
            rfl
          · exact q5
          · omega
          · exact hJ.ji
          · omega
          · intro k hk
            rw [getD_set _ _ _ _ (by omega), if_neg (by omega)]
            exact hJ.jz k hk
          · exact hst
        · refine go (cj rTI (cj @dl_idf (cj @k0 (cj @k2 (cj @k3 (cj @k4 (cj @k5 (cj @k6 (cj @k7 (cj @k8 (cj @g0 (cj @g1 (cj @g2 @g3))))))))))))) ?_
          refine ifs ?_ ?_ <;> first | exact nope | intro hb
          refine go (cj rTI (cj @dl_idf (cj @k0 (cj @k2 (cj @k3 (cj @k4 (cj @k5 (cj @k6 (cj @k7 (cj @k8 (cj @g0 (cj @g1 (cj @g2 @g3))))))))))))) ?_
          have p8 : ((i : Int) + (ys.length : Int)).toNat = i + ys.length := by omega
          have p9 := hJ.jz (i + ys.length) (Nat.le_refl _)
          have p4 : cr < 65536 := hJ.jc
          refine aw_drw (.take 0 (.take 1 (.take 2 (.take 3 (.take 4 (.take 5 (.take 6 (.take 7 (.take 8 (.take 9 (.take 10 (.take 11 (.take 12 (.take 14 (.one 13 (.take 15 (.take 16 (.one 17 (.done))))))))))))))))))) [s.nx, s.nx + 1] (by kernel_rfl) (by kernel_rfl) fun K hK => ?_; refine dr (cj rTI (cj @dl_idf (cj @k0 (cj @k2 (cj @k3 (cj @k4 (cj @k5 (cj @k6 (cj @k7 (cj @k8 (cj @g0 (cj @g1 (cj @g2 (cj @g3 (cj @hd_DL (cj @p8 (cj @l1 (cj @l4 @p9)))))))))))))))))) ?_; refine hK _ _ ?_; clear hK K
          refine go (cj rTI (cj @dl_idf (cj @k0 (cj @k2 (cj @k3 (cj @k4 (cj @k5 (cj @k6 (cj @k7 (cj @k8 (cj @g0 (cj @g1 (cj @g2 (cj @g3 (cj @p8 (cj @l1 @l4)))))))))))))))) ?_
          obtain rfl : j = ys.length := by omega
          have b3 := hO.on
          have e0 : ((0 : Nat) : Int) + (cr : Int) = cr := by omega
          have hst := times_row xs ys ds i cr hJ.jv (by omega) p9
          simp only [block_normal, loop_normal]; refine ⟨xs.length - (i + 1), by omega, ?_⟩
          refine ⟨i + 1, ds.set (i + ys.length) cr, ?_⟩
          constructor
          · constructor <;> (try (first | refine rn (cj @k0 (cj @k2 (cj @k3 (cj @k4 (cj @k5 (cj @k6 (cj @k7 (cj @k8 (cj @g0 (cj @g1 (cj @g2 (cj @g3 (cj @g4 (cj @hJ.len (cj rls (cj @Nat.zero_add (cj @DL_set (cj @p9 @e0)))))))))))))))))) ?_ | exact rn0 (cj @k0 (cj @k2 (cj @k3 (cj @k4 (cj @k5 (cj @k6 (cj @k7 (cj @k8 (cj @g0 (cj @g1 (cj @g2 (cj @g3 (cj @g4 (cj @hJ.len (cj rls (cj @Nat.zero_add (cj @DL_set (cj @p9 @e0))))))))))))))))))))
            all_goals (first | exact shz | (intro i hi; (first | refine rn (hJ.fr i hi) ?_ | exact rn0 (hJ.fr i hi))) | skip)
            exact set_lt _ _ _ hJ.lt p4
          · omega
          · omega
          · intro k hk
            rw [getD_set _ _ _ _ (by omega), if_neg (by omega)]
            exact hJ.jz k (by omega)
          · exact hst
    · refine go (cj rTI (cj @dl_idf (cj @k0 (cj @k2 (cj @k3 (cj @k4 (cj @k5 (cj @k6 (cj @g0 (cj @g1 (cj @g2 @g3))))))))))) ?_
      refine ifs ?_ ?_ <;> first | exact nope | intro hb
      refine go (cj rTI (cj @dl_idf (cj @k0 (cj @k2 (cj @k3 (cj @k4 (cj @k5 (cj @k6 (cj @g0 (cj @g1 (cj @g2 @g3))))))))))) ?_
      refine aw_reg fun K hK => ?_; refine rn (cj rTI (cj @dl_idf (cj @k0 @k5))) ?_; refine acall_frz (s.nx + 3) (DL ds) g3 (fun _ => false) ?_; refine rn @DL_take ?_; rw [show AV.sl (xs.length + ys.length) (DL ds) = DN ds by rw [← l4]; rfl]; refine cont_pure (trim_ax ds (by omega)) ?_; refine rn (cj rTI (cj @dl_idf (cj @k0 @k5))) ?_; refine hK _ _ ?_; clear hK K
      have hv := hO.ov
      rw [List.take_of_length_le (by omega)] at hv
      have ht := digs_val B hB ds hO.lt
      rw [hv] at ht
      rw [← ht, DN_ln]
      have l0 := ln_zero (val B xs * val B ys)
      rw [NS_eq]
      by_cases hp : 0 < val B xs * val B ys
      · have h4 : 0 < ln (val B xs * val B ys) := by omega
        cases a <;> cases b <;> (refine go (cj rTI (cj @dl_idf (cj @k0 (cj @k2 (cj @k3 (cj @k4 (cj @k5 (cj @k6 (cj @g0 (cj @g1 (cj @g2 @g3))))))))))) ?_; (repeat' refine And.intro ?_ ?_) <;> first | exact rfl | (intro i hi; exact rn0 (hO.fr i hi)) | skip)
      · have h4 : ln (val B xs * val B ys) = 0 := by omega
        cases a <;> cases b <;> (refine go (cj rTI (cj @dl_idf (cj @k0 (cj @k2 (cj @k3 (cj @k4 (cj @k5 (cj @k6 (cj @g0 (cj @g1 (cj @g2 @g3))))))))))) ?_; (repeat' refine And.intro ?_ ?_) <;> first | exact rfl | (intro i hi; exact rn0 (hO.fr i hi)) | skip)
end Go.Proofs.YtfjelkjlfcafgaaGreatDoor.RefE
end
section
/- The document's whole numbers (layer 1): the quotient. -/
namespace Go.Proofs.YtfjelkjlfcafgaaGreatDoor.RefF
open Go Go.RowKit Go.Proofs.YtfjelkjlfcafgaaGreatDoor.Ax Go.Proofs.YtfjelkjlfcafgaaGreatDoor.Ti Go.Proofs.YtfjelkjlfcafgaaGreatDoor.BigM Go.Proofs.YtfjelkjlfcafgaaGreatDoor.RefA Go.Proofs.YtfjelkjlfcafgaaGreatDoor.RefB Go.Proofs.YtfjelkjlfcafgaaGreatDoor.RefC Go.Proofs.YtfjelkjlfcafgaaGreatDoor.RefD Go.Proofs.YtfjelkjlfcafgaaGreatDoor.RefE
set_option linter.unusedSimpArgs false
set_option linter.unusedVariables false
set_option maxRecDepth 4000
theorem rTI : type_of% (cj @ti105 (cj @ti63 (cj @ti3 @ti4))) := cj @ti105 (cj @ti63 (cj @ti3 @ti4))

theorem dl_ln (n : Nat) : (DL (digs B n)).length = ln n := DL_len _
theorem dl_one (l : List Nat) : (DL l).all AV.one = true := by
  rw [List.all_eq_true]
  intro z hz
  obtain ⟨x, _, rfl⟩ := List.mem_map.1 hz
  rfl
theorem mul_neg_iff' (x y : Int) : x * y < 0 ↔ (x < 0 ∧ 0 < y) ∨ (0 < x ∧ y < 0) := by
  rcases Int.lt_trichotomy x 0 with h | rfl | h <;> rcases Int.lt_trichotomy y 0 with g | rfl | g
  · have := Int.mul_pos_of_neg_of_neg h g; omega
  · simp
  · have := Int.mul_neg_of_neg_of_pos h g; omega
  · simp
  · simp
  · simp
  · have := Int.mul_neg_of_pos_of_neg h g; omega
  · simp
  · have := Int.mul_pos h g; omega
theorem timesN_ax (x y : Int) (h : lz x + lz y ≤ 1099511627776) : PCall Tryz.prog 58 [NI x, NI y] (NI (x * y)) := by
  have h1 := timesS_ax (decide (x < 0)) (decide (y < 0)) (digs B x.natAbs) (digs B y.natAbs) (digs_lt B hB _) (digs_lt B hB _) h
  rw [val_digs B hB, val_digs B hB] at h1
  have e : NS ((decide (x < 0) != decide (y < 0)) && decide (0 < x.natAbs * y.natAbs)) (x.natAbs * y.natAbs) = NI (x * y) := by
    unfold NI
    rw [Int.natAbs_mul]
    congr 1
    have h2 : 0 < x.natAbs * y.natAbs ↔ x ≠ 0 ∧ y ≠ 0 := by rw [Nat.pos_iff_ne_zero, Nat.mul_ne_zero_iff]; omega
    rw [Bool.eq_iff_iff]
    simp only [Bool.and_eq_true, decide_eq_true_eq, h2, bne_iff_ne, ne_eq, decide_eq_decide]
    rw [mul_neg_iff']
    omega
  rw [e] at h1
  exact h1
theorem timesP_ax (m n : Nat) (h : ln m + ln n ≤ 1099511627776) : PCall Tryz.prog 58 [NS false m, NS false n] (NS false (m * n)) := by
  have := timesN_ax m n h
  rwa [NI_nn _ (by omega), NI_nn _ (by omega), NI_nn _ (by rw [← Int.natCast_mul]; omega), ← Int.natCast_mul] at this

theorem digit_ax (r b : Nat) (hb0 : 0 < b) (hq : r < b * 65536) (lr : ln r ≤ 549755813888) (lb : ln b ≤ 549755813888) : PCall Tryz.prog 116 [DN (digs B r), DN (digs B b)] (.v (.int .i64 (r / b : Nat))) := by
  refine pcall_of fun s => ?_
  refine acall_of Tryz.func116 rfl rfl (by simp [Tryz.ntmps116]) ?_; rw [Tryz.ntmps116, Tryz.results116]
  have p0 := mags_ax r b (show ln r ≤ _ by omega) (show ln b ≤ _ by omega)
  have hq2 : r / b < 65536 := Nat.div_lt_of_lt_mul hq
  have p1 : ∀ m : Nat, m < 65536 → PCall Tryz.prog 55 [.v (.int .i64 (m : Int))] (NS false m) := fun m hm => by
    have := small_ax (m : Int) (by omega) (by omega)
    rwa [NI_nn _ (by omega)] at this
  have lm : ∀ m : Nat, m < 65536 → ln m ≤ 1 := fun m hm => (ln_lt m 1).1 (by unfold B; omega)
  have p2 : ∀ m : Nat, m < 65536 → PCall Tryz.prog 58 [NS false b, NS false m] (NS false (b * m)) := fun m hm => timesP_ax b m (by have := lm m hm; omega)
  have p3 : ∀ m : Nat, m < 65536 → PCall Tryz.prog 113 [DN (digs B (b * m)), DN (digs B r)] (.v (.int .i64 (cmpN (b * m) r))) := fun m hm => mags_ax _ _ (show ln _ ≤ _ by have := lm m hm; have := ln_mul b m; omega) (show ln r ≤ _ by omega)
  simp only [NS_eq, DN_ln] at p0 p1 p2 p3 ⊢
  refine go (cj rTI (cj @dl_idf (cj @dl_ln @dl_one))) ?_
  refine aw_reg fun K hK => ?_; refine rn (cj rTI (cj @dl_idf (cj @dl_ln @dl_one))) ?_; refine cont_pure p0 ?_; refine rn (cj rTI (cj @dl_idf (cj @dl_ln @dl_one))) ?_; refine hK _ _ ?_; clear hK K
  by_cases h0 : r < b
  · rw [cmpN_lt h0]
    refine ifs ?_ ?_ <;> first | exact nope | intro hb
    refine go (cj rTI (cj @dl_idf (cj @dl_ln @dl_one))) ?_
    (repeat' refine And.intro ?_ ?_) <;> first | exact rfl | exact fnz trivial | skip
    rw [Nat.div_eq_of_lt h0]
    rfl
  · have c0 : 0 ≤ cmpN r b := by unfold cmpN; rw [if_neg h0]; split <;> decide
    refine ifs ?_ ?_ <;> first | exact nope | intro hb
    refine go (cj rTI (cj @dl_idf (cj @dl_ln @dl_one))) ?_
    refine aw_loop (fun n e s' => ∃ (lo hi : Nat), n = hi - lo ∧ lo ≤ r / b ∧ r / b ≤ hi ∧ hi < 65536 ∧ e.n = 33 ∧ e.m 0 = DN (digs B r) ∧ e.m 1 = DN (digs B b) ∧ e.m 5 = .v (.int .i64 lo) ∧ e.m 6 = .v (.int .i64 hi) ∧ s' = s) 65535 ?_ ?_
    · refine ⟨0, 65535, by omega, Nat.zero_le _, by omega, by omega, ?_, ?_, ?_, ?_, ?_, rfl⟩ <;> (first | refine rn trivial ?_ | exact rn0 trivial) <;> rfl
    · rintro n e s' ⟨lo, hi, a1, a2, a3, a4, k0, k1, k2, k3, k4, rfl⟩
      rw [DN_ln] at k1 k2
      by_cases h1 : lo < hi
      · have h2 : ((lo : Int) + hi + 1) / 2 = ((lo + hi + 1) / 2 : Nat) := by omega
        have h3 : (lo + hi + 1) / 2 < 65536 := by omega
        have h8 : lo < (lo + hi + 1) / 2 := by omega
        have h9 : (lo + hi + 1) / 2 ≤ hi := by omega
        refine go (cj rTI (cj @dl_idf (cj @dl_ln (cj @dl_one (cj @k0 (cj @k1 (cj @k2 (cj @k3 @k4)))))))) ?_
        refine ifs ?_ ?_ <;> first | exact nope | intro hb
        refine go (cj rTI (cj @dl_idf (cj @dl_ln (cj @dl_one (cj @k0 (cj @k1 (cj @k2 (cj @k3 (cj @k4 @h2))))))))) ?_
        refine aw_reg fun K hK => ?_; refine rn (cj rTI (cj @dl_idf (cj @dl_ln (cj @dl_one (cj @k0 (cj @k1 (cj @k2 (cj @k3 (cj @k4 @h2))))))))) ?_; refine cont_pure (p1 _ h3) ?_; refine rn (cj rTI (cj @dl_idf (cj @dl_ln (cj @dl_one (cj @k0 (cj @k1 (cj @k2 (cj @k3 @k4)))))))) ?_; refine cont_pure (p2 _ h3) ?_; refine rn (cj rTI (cj @dl_idf (cj @dl_ln (cj @dl_one (cj @k0 (cj @k1 (cj @k2 (cj @k3 @k4)))))))) ?_; refine cont_pure (p3 _ h3) ?_; refine rn (cj rTI (cj @dl_idf (cj @dl_ln (cj @dl_one (cj @k0 (cj @k1 (cj @k2 (cj @k3 (cj @k4 @h2))))))))) ?_; refine hK _ _ ?_; clear hK K
        have h6 : (lo + hi + 1) / 2 ≤ r / b ↔ b * ((lo + hi + 1) / 2) ≤ r := by rw [Nat.le_div_iff_mul_le hb0, Nat.mul_comm]
        generalize (lo + hi + 1) / 2 = mid at *
        by_cases h5 : b * mid ≤ r
        · have c1 : cmpN (b * mid) r ≤ 0 := by unfold cmpN; split <;> (try split) <;> omega
          refine ifs ?_ ?_ <;> first | exact nope | intro hb
          refine go (cj rTI (cj @dl_idf (cj @dl_ln (cj @dl_one (cj @k0 (cj @k1 (cj @k2 (cj @k3 @k4)))))))) ?_
          simp only [block_normal, loop_normal]; refine ⟨hi - mid, by omega, mid, hi, rfl, h6.2 h5, a3, a4, ?_⟩
          exact rn0 (cj rTI (cj @dl_idf (cj @dl_ln (cj @dl_one (cj @k0 (cj @k1 (cj @k2 (cj @k3 (cj @k4 @DN_ln)))))))))
        · have c1 : ¬ cmpN (b * mid) r ≤ 0 := by unfold cmpN; rw [if_neg (by omega), if_neg (by omega)]; decide
          have h7 : ¬ mid ≤ r / b := fun q => h5 (h6.1 q)
          refine ifs ?_ ?_ <;> first | exact nope | intro hb
          refine go (cj rTI (cj @dl_idf (cj @dl_ln (cj @dl_one (cj @k0 (cj @k1 (cj @k2 (cj @k3 @k4)))))))) ?_
          simp only [block_normal, loop_normal]; refine ⟨mid - 1 - lo, by omega, lo, mid - 1, rfl, a2, by omega, by omega, ?_⟩
          refine rn (cj rTI (cj @dl_idf (cj @dl_ln (cj @dl_one (cj @k0 (cj @k1 (cj @k2 (cj @k3 (cj @k4 @DN_ln))))))))) ?_
          all_goals (first | exact shz | (intro i hi; (first | refine rn trivial ?_ | exact rn0 trivial)) | skip)
      · refine go (cj rTI (cj @dl_idf (cj @dl_ln (cj @dl_one (cj @k0 (cj @k1 (cj @k2 (cj @k3 @k4)))))))) ?_
        refine ifs ?_ ?_ <;> first | exact nope | intro hb
        refine go (cj rTI (cj @dl_idf (cj @dl_ln (cj @dl_one (cj @k0 (cj @k1 (cj @k2 (cj @k3 @k4)))))))) ?_
        (repeat' refine And.intro ?_ ?_) <;> first | exact rfl | exact fnz trivial | skip
        rw [show r / b = lo by omega]

def divideS (a b : Bool) (m n : Nat) : AV := .tp [NS ((a != b) && decide (0 < m / n)) (m / n), NS (a && decide (0 < m % n)) (m % n)]
structure DivI (a b : Bool) (xs : List Nat) (y : Nat) (s : St) (k : Nat) (ds : List Nat) (e : Env) (s' : St) : Prop where
  en : e.n = 75
  e2 : e.m 2 = .ptr s.nx 0
  e3 : e.m 3 = .ptr (s.nx + 1) 0
  e4 : e.m 4 = .ptr (s.nx + 2) 0
  e5 : e.m 5 = .ptr (s.nx + 3) 0
  e6 : e.m 6 = .own (s.nx + 4) 0 xs.length 1
  e7 : e.m 7 = .sl (ln (val B (xs.drop k) % y)) (DL (digs B (val B (xs.drop k) % y)))
  e8 : e.m 8 = .v (.int .i64 ((k : Int) - 1))
  g0 : s'.get s.nx = some [.v (.bool a), .sl xs.length (DL xs)]
  g1 : s'.get (s.nx + 1) = some [.v (.bool b), .sl (ln y) (DL (digs B y))]
  g2 : s'.get (s.nx + 2) = some [.v (.bool false), .v (.slice none 0 0)]
  g3 : s'.get (s.nx + 3) = some [.v (.bool false), .v (.slice none 0 0)]
  gi : s'.get (s.nx + 4) = some (DL ds)
  hi : s.nx + 5 ≤ s'.nx
  fr : ∀ i, i < s.nx → s'.get i = s.get i
  len : ds.length = xs.length
  lt : ∀ d ∈ ds, d < B
  kl : k ≤ xs.length
  vq : val B (ds.drop k) = val B (xs.drop k) / y
theorem divide_step (x y V : Nat) (hy : 0 < y) : (x + B * V) / y = (x + B * (V % y)) / y + B * (V / y) ∧ (x + B * V) % y = (x + B * (V % y)) % y := by
  have e : x + B * V = x + B * (V % y) + y * (B * (V / y)) := by
    conv => lhs; rw [← Nat.mod_add_div V y]
    rw [Nat.mul_add, ← Nat.mul_assoc, ← Nat.mul_assoc, Nat.mul_comm B y, Nat.add_assoc]
  rw [e, Nat.add_mul_div_left _ _ hy, Nat.add_mul_mod_self_left]
  exact ⟨rfl, rfl⟩
theorem divide_lt (x y r : Nat) (hx : x < B) (hr : r < y) : x + B * r < y * B := by
  have : B * (r + 1) ≤ B * y := Nat.mul_le_mul_left _ hr
  rw [Nat.mul_add] at this
  rw [Nat.mul_comm y]
  omega
set_option maxHeartbeats 2000000 in
theorem divideS_ax (a b : Bool) (xs : List Nat) (y : Nat) (dx : ∀ d ∈ xs, d < B) (hy : 0 < y) (lx : xs.length ≤ 1099511627776) (ly : ln y ≤ 274877906944) : PCall Tryz.prog 61 [.ag [.v (.bool a), .sl xs.length (DL xs)], .ag [.v (.bool b), .sl (ln y) (DL (digs B y))]] (divideS a b (val B xs) y) := by
  refine pcall_of fun s => ?_
  refine acall_of Tryz.func61 rfl rfl (by simp [Tryz.ntmps61]) ?_; rw [Tryz.ntmps61, Tryz.results61]
  refine go (cj rTI (cj @dl_idf (cj @dl_ln @dl_one))) ?_
  refine aw_slot 7 (.v (.slice none 0 0)) (.sl 0 []) (by exact rn0 trivial) (Le.nil _ _ rfl) (by exact rn0 trivial) ?_
  refine aw_loop (fun n e s' => ∃ (ds : List Nat), DivI a b xs y s n ds e s') xs.length ?_ ?_
  · refine ⟨List.replicate xs.length 0, ?_⟩
    constructor <;> (try (first | refine rn @DL_zero ?_ | exact rn0 @DL_zero))
    all_goals (first | exact shz | (intro i hi; (first | refine rn @DL_zero ?_ | exact rn0 @DL_zero)) | skip)
    · rw [List.drop_length, val, Nat.zero_mod, digs_zero, ln, digs_zero]; rfl
    · simp
    · intro d hd
      rw [List.eq_of_mem_replicate hd]; decide
    · rw [List.drop_length, val, Nat.zero_div, List.drop_of_length_le (by simp)]; rfl
  · rintro k e s' ⟨ds, hI⟩
    have k0 := hI.en
    have k2 := hI.e2
    have k3 := hI.e3
    have k4 := hI.e4
    have k5 := hI.e5
    have k6 := hI.e6
    have k7 := hI.e7
    have k8 := hI.e8
    have g0 := hI.g0
    have g1 := hI.g1
    have g2 := hI.g2
    have g3 := hI.g3
    have gi := hI.gi
    have hi := hI.hi
    have l1 := DL_len ds
    have l2 := DL_len xs
    have l4 := hI.len
    have b1 := hI.kl
    by_cases hn : 0 < k
    · refine go (cj rTI (cj @dl_idf (cj @dl_ln (cj @dl_one (cj @k0 (cj @k2 (cj @k3 (cj @k4 (cj @k5 (cj @k6 (cj @k7 (cj @k8 (cj @g0 (cj @g1 (cj @g2 (cj @g3 (cj @gi @hd_DL))))))))))))))))) ?_
      refine ifs ?_ ?_ <;> first | exact nope | intro hb
      refine go (cj rTI (cj @dl_idf (cj @dl_ln (cj @dl_one (cj @k0 (cj @k2 (cj @k3 (cj @k4 (cj @k5 (cj @k6 (cj @k7 (cj @k8 (cj @g0 (cj @g1 (cj @g2 (cj @g3 (cj @gi @hd_DL))))))))))))))))) ?_
      have dp := drop_pred xs k hn hI.kl
      have hv : val B (xs.drop (k - 1)) = xs.getD (k - 1) 0 + B * val B (xs.drop k) := by rw [dp, val]
      have hst := divide_step (xs.getD (k - 1) 0) y (val B (xs.drop k)) hy
      rw [← hv] at hst
      have hx : xs.getD (k - 1) 0 < B := getD_lt B (by decide) xs dx _
      have hr : val B (xs.drop k) % y < y := Nat.mod_lt _ hy
      generalize hrr : val B (xs.drop k) % y = r at *
      have hlt := divide_lt _ _ _ hx hr
      have lr : ln r ≤ ln y := ln_mono (by omega)
      have ht := trim_ax (xs.getD (k - 1) 0 :: digs B r) (by rw [List.length_cons]; change ln r + 1 ≤ _; omega)
      rw [← digs_val B hB _ (by
        intro d hd
        rcases List.mem_cons.1 hd with h | h
        · rw [h]; exact hx
        · exact digs_lt B hB r d h), val, val_digs B hB] at ht
      have lB : ln B ≤ 2 := (ln_lt B 2).1 (by decide)
      have lr2 : ln (xs.getD (k - 1) 0 + B * r) ≤ ln y + 2 := Nat.le_trans (ln_mono (Nat.le_of_lt hlt)) (by
        have := ln_mul y B
        omega)
      generalize hrs : xs.getD (k - 1) 0 + B * r = r' at *
      have p1 := digit_ax r' y hy hlt (by omega) (by omega)
      have hq2 : r' / y < 65536 := Nat.div_lt_of_lt_mul hlt
      have hmod := Nat.mod_add_div r' y
      have hmul := Nat.mul_div_le r' y
      have hm : r' % y < y := Nat.mod_lt _ hy
      generalize hqq : r' / y = q at *
      generalize hmm : r' % y = m at *
      have lq : ln q ≤ 1 := (ln_lt _ 1).1 (by unfold B; omega)
      have p2 := small_ax (q : Int) (by omega) (by omega)
      rw [NI_nn _ (by omega), Int.natAbs_natCast] at p2
      have p3 := timesP_ax y q (by omega)
      have p4 := minusd_ax r' (y * q) (by omega) hmul
      rw [show r' - y * q = m by omega] at p4
      simp only [NS_eq, DN_ln] at p1 p2 p3 p4 ht
      have tke : ∀ x : Nat, (DL (x :: digs B r)).take (1 + ln r) = DL (x :: digs B r) := fun x => List.take_of_length_le (by rw [DL_len, List.length_cons]; change ln r + 1 ≤ _; omega)
      have ht2 : PCall Tryz.prog 115 [AV.sl (1 + ln r) (DL (xs.getD (k - 1) 0 :: digs B r))] (AV.sl (ln r') (DL (digs B r'))) := by
        rw [show AV.sl (1 + ln r) (DL (xs.getD (k - 1) 0 :: digs B r)) = DN (xs.getD (k - 1) 0 :: digs B r) by rw [Nat.add_comm]; rfl]
        exact ht
      refine aw_reg fun K hK => ?_; refine rn (cj rTI (cj @dl_idf (cj @dl_ln (cj @dl_one (cj @k0 @k7))))) ?_; refine acall_frz (s'.nx + 1) (DL (xs.getD (k - 1) 0 :: digs B r)) (by refine rn trivial ?_; rfl) (fun _ => false) ?_; refine rn @tke ?_; refine cont_pure ht2 ?_; refine rn (cj rTI (cj @dl_idf (cj @dl_ln (cj @dl_one (cj @k0 @k7))))) ?_; refine hK _ _ ?_; clear hK K
      refine go (cj rTI (cj @dl_idf (cj @dl_ln @dl_one))) ?_
      refine aw_reg fun K hK => ?_; refine rn (cj rTI (cj @dl_idf (cj @dl_ln (cj @dl_one (cj @k0 (cj @k3 @g1)))))) ?_; refine cont_pure p1 ?_; refine rn (cj rTI (cj @dl_idf (cj @dl_ln (cj @dl_one (cj @k0 (cj @k3 @g1)))))) ?_; refine hK _ _ ?_; clear hK K
      refine go (cj rTI (cj @dl_idf (cj @dl_ln @dl_one))) ?_
      by_cases hq0 : 0 < q
      · refine ifs ?_ ?_ <;> first | exact nope | intro hb
        refine aw_drw (.take 0 (.take 1 (.take 2 (.take 3 (.take 4 (.one 5 (.one 6 (.take 7 (.one 8 (.take 9 (.done))))))))))) [s.nx + 1] (by kernel_rfl) (by kernel_rfl) fun K hK => ?_; refine dr (cj rTI (cj @dl_idf (cj @dl_ln (cj @dl_one (cj @k0 (cj @k3 (cj @k7 @g1))))))) ?_; refine cont_pure p2 ?_; refine dr (cj rTI (cj @dl_idf (cj @dl_ln (cj @dl_one (cj @k0 (cj @k3 (cj @k7 @g1))))))) ?_; refine cont_pure p3 ?_; refine dr (cj rTI (cj @dl_idf (cj @dl_ln (cj @dl_one (cj @k0 (cj @k3 (cj @k7 @g1))))))) ?_; refine cont_pure p4 ?_; refine dr (cj rTI (cj @dl_idf (cj @dl_ln (cj @dl_one (cj @k0 (cj @k3 (cj @k7 @g1))))))) ?_; refine hK _ _ ?_; clear hK K
        refine go (cj rTI (cj @dl_idf (cj @dl_ln (cj @dl_one (cj @k0 (cj @k2 (cj @k3 (cj @k4 (cj @k5 (cj @k6 (cj @k7 (cj @k8 (cj @g0 (cj @g1 (cj @g2 (cj @g3 @gi)))))))))))))))) ?_
        simp only [block_normal, loop_normal]; refine ⟨k - 1, by omega, ds.set (k - 1) q, ?_⟩
        have hdr : (ds.set (k - 1) q).drop (k - 1) = q :: ds.drop k := by
          rw [drop_pred _ k hn (by rw [List.length_set]; omega), getD_set _ _ _ _ (by omega), if_pos rfl, List.drop_set_of_lt (by omega)]
        constructor <;> (try (first | refine rn (cj rTI (cj @dl_idf (cj @dl_ln (cj @dl_one (cj @k0 (cj @k2 (cj @k3 (cj @k4 (cj @k5 (cj @k6 (cj @k7 (cj @k8 (cj @g0 (cj @g1 (cj @g2 (cj @g3 (cj @gi (cj @hst.2 (cj @DL_set (cj rls @Nat.zero_add)))))))))))))))))))) ?_ | exact rn0 (cj rTI (cj @dl_idf (cj @dl_ln (cj @dl_one (cj @k0 (cj @k2 (cj @k3 (cj @k4 (cj @k5 (cj @k6 (cj @k7 (cj @k8 (cj @g0 (cj @g1 (cj @g2 (cj @g3 (cj @gi (cj @hst.2 (cj @DL_set (cj rls @Nat.zero_add))))))))))))))))))))))
        all_goals (first | exact shz | (intro i hi; (first | refine rn (hI.fr i hi) ?_ | exact rn0 (hI.fr i hi))) | skip)
        · exact set_lt _ _ _ hI.lt hq2
        · rw [hdr, val, hI.vq, hst.1]
      · refine ifs ?_ ?_ <;> first | exact nope | intro hb
        have hm2 : r' = m := by
          rw [show q = 0 by omega, Nat.mul_zero] at hmod
          omega
        refine go (cj rTI (cj @dl_idf (cj @dl_ln (cj @dl_one (cj @k0 (cj @k2 (cj @k3 (cj @k4 (cj @k5 (cj @k6 (cj @k7 (cj @k8 (cj @g0 (cj @g1 (cj @g2 (cj @g3 @gi)))))))))))))))) ?_
        simp only [block_normal, loop_normal]; refine ⟨k - 1, by omega, ds.set (k - 1) q, ?_⟩
        have hdr : (ds.set (k - 1) q).drop (k - 1) = q :: ds.drop k := by
          rw [drop_pred _ k hn (by rw [List.length_set]; omega), getD_set _ _ _ _ (by omega), if_pos rfl, List.drop_set_of_lt (by omega)]
        constructor <;> (try (first | refine rn (cj rTI (cj @dl_idf (cj @dl_ln (cj @dl_one (cj @k0 (cj @k2 (cj @k3 (cj @k4 (cj @k5 (cj @k6 (cj @k7 (cj @k8 (cj @g0 (cj @g1 (cj @g2 (cj @g3 (cj @gi (cj @hst.2 (cj @hm2 (cj @DL_set (cj rls @Nat.zero_add))))))))))))))))))))) ?_ | exact rn0 (cj rTI (cj @dl_idf (cj @dl_ln (cj @dl_one (cj @k0 (cj @k2 (cj @k3 (cj @k4 (cj @k5 (cj @k6 (cj @k7 (cj @k8 (cj @g0 (cj @g1 (cj @g2 (cj @g3 (cj @gi (cj @hst.2 (cj @hm2 (cj @DL_set (cj rls @Nat.zero_add)))))))))))))))))))))))
        all_goals (first | exact shz | (intro i hi; (first | refine rn (hI.fr i hi) ?_ | exact rn0 (hI.fr i hi))) | skip)
        · exact set_lt _ _ _ hI.lt hq2
        · rw [hdr, val, hI.vq, hst.1]
    · refine go (cj rTI (cj @dl_idf (cj @dl_ln (cj @dl_one (cj @k0 (cj @k2 (cj @k3 (cj @k4 (cj @k5 (cj @k6 (cj @k7 (cj @k8 (cj @g0 (cj @g1 (cj @g2 (cj @g3 (cj @gi @hd_DL))))))))))))))))) ?_
      refine ifs ?_ ?_ <;> first | exact nope | intro hb
      refine go (cj rTI (cj @dl_idf (cj @dl_ln (cj @dl_one (cj @k0 (cj @k2 (cj @k3 (cj @k4 (cj @k5 (cj @k6 (cj @k7 (cj @k8 (cj @g0 (cj @g1 (cj @g2 (cj @g3 (cj @gi @hd_DL))))))))))))))))) ?_
      refine aw_reg fun K hK => ?_; refine rn (cj rTI (cj @dl_idf (cj @dl_ln (cj @dl_one (cj @k0 @k6))))) ?_; refine acall_frz (s.nx + 4) (DL ds) gi (fun _ => false) ?_; refine rn @DL_take ?_; rw [show AV.sl xs.length (DL ds) = DN ds by rw [← l4]; rfl]; refine cont_pure (trim_ax ds (by omega)) ?_; refine rn (cj rTI (cj @dl_idf (cj @dl_ln (cj @dl_one (cj @k0 @k6))))) ?_; refine hK _ _ ?_; clear hK K
      obtain rfl : k = 0 := by omega
      have hv := hI.vq
      rw [List.drop_zero, List.drop_zero] at hv
      rw [List.drop_zero] at k7
      have ht := digs_val B hB ds hI.lt
      rw [hv] at ht
      rw [← ht, DN_ln]
      unfold divideS
      have l0 := ln_zero (val B xs / y)
      have l5 := ln_zero (val B xs % y)
      rw [NS_eq, NS_eq]
      generalize val B xs / y = q at *
      generalize val B xs % y = r at *
      by_cases hp : 0 < q <;> by_cases hp2 : 0 < r
      · have h4 : 0 < ln q := by omega
        have h5 : 0 < ln r := by omega
        cases a <;> cases b <;> (refine go (cj rTI (cj @dl_idf (cj @dl_ln (cj @dl_one (cj @k0 (cj @k2 (cj @k3 (cj @k4 (cj @k5 (cj @k6 (cj @k7 (cj @g0 (cj @g1 (cj @g2 @g3)))))))))))))) ?_; (repeat' refine And.intro ?_ ?_) <;> first | exact rfl | (intro i hi; exact rn0 (hI.fr i hi)) | skip)
      · have h4 : 0 < ln q := by omega
        have h5 : ln r = 0 := by omega
        cases a <;> cases b <;> (refine go (cj rTI (cj @dl_idf (cj @dl_ln (cj @dl_one (cj @k0 (cj @k2 (cj @k3 (cj @k4 (cj @k5 (cj @k6 (cj @k7 (cj @g0 (cj @g1 (cj @g2 @g3)))))))))))))) ?_; (repeat' refine And.intro ?_ ?_) <;> first | exact rfl | (intro i hi; exact rn0 (hI.fr i hi)) | skip)
      · have h4 : ln q = 0 := by omega
        have h5 : 0 < ln r := by omega
        cases a <;> cases b <;> (refine go (cj rTI (cj @dl_idf (cj @dl_ln (cj @dl_one (cj @k0 (cj @k2 (cj @k3 (cj @k4 (cj @k5 (cj @k6 (cj @k7 (cj @g0 (cj @g1 (cj @g2 @g3)))))))))))))) ?_; (repeat' refine And.intro ?_ ?_) <;> first | exact rfl | (intro i hi; exact rn0 (hI.fr i hi)) | skip)
      · have h4 : ln q = 0 := by omega
        have h5 : ln r = 0 := by omega
        cases a <;> cases b <;> (refine go (cj rTI (cj @dl_idf (cj @dl_ln (cj @dl_one (cj @k0 (cj @k2 (cj @k3 (cj @k4 (cj @k5 (cj @k6 (cj @k7 (cj @g0 (cj @g1 (cj @g2 @g3)))))))))))))) ?_; (repeat' refine And.intro ?_ ?_) <;> first | exact rfl | (intro i hi; exact rn0 (hI.fr i hi)) | skip)
end Go.Proofs.YtfjelkjlfcafgaaGreatDoor.RefF
end
section
/- The document's whole numbers (layer 1): the common divisor. -/
namespace Go.Proofs.YtfjelkjlfcafgaaGreatDoor.RefG
open Go Go.RowKit Go.Proofs.YtfjelkjlfcafgaaGreatDoor.Ax Go.Proofs.YtfjelkjlfcafgaaGreatDoor.Ti Go.Proofs.YtfjelkjlfcafgaaGreatDoor.BigM Go.Proofs.YtfjelkjlfcafgaaGreatDoor.RefA Go.Proofs.YtfjelkjlfcafgaaGreatDoor.RefB Go.Proofs.YtfjelkjlfcafgaaGreatDoor.RefC Go.Proofs.YtfjelkjlfcafgaaGreatDoor.RefD Go.Proofs.YtfjelkjlfcafgaaGreatDoor.RefE Go.Proofs.YtfjelkjlfcafgaaGreatDoor.RefF
set_option maxHeartbeats 2000000
set_option linter.unusedSimpArgs false
set_option linter.unusedVariables false
set_option maxRecDepth 4000
theorem rTI : type_of% (cj @ti105 (cj @ti63 (cj @ti3 @ti4))) := cj @ti105 (cj @ti63 (cj @ti3 @ti4))

def sg (b : Bool) (n : Nat) : Int := if b then -(n : Int) else n
theorem sg_self (x : Int) : sg (decide (x < 0)) x.natAbs = x := by unfold sg; split <;> simp_all <;> omega
theorem NS_sg (b : Bool) (n : Nat) : NS (b && decide (0 < n)) n = NI (sg b n) := by
  unfold NI sg
  cases b
  · rw [show decide ((if false = true then -(n : Int) else (n : Int)) < 0) = false from decide_eq_false (by simp)]
    simp
  · simp only [Bool.true_and, if_true, Int.natAbs_neg, Int.natAbs_natCast]
    congr 1
    rw [decide_eq_decide]
    omega
theorem sg_tdiv (a b : Bool) (m n : Nat) : (sg a m).tdiv (sg b n) = sg (a != b) (m / n) := by
  cases a <;> cases b <;> simp [sg, Int.neg_tdiv, Int.tdiv_neg, Int.ofNat_tdiv]
theorem sg_tmod (a b : Bool) (m n : Nat) : (sg a m).tmod (sg b n) = sg a (m % n) := by
  cases a <;> cases b <;> simp only [sg, if_true, if_false, Bool.false_eq_true, Int.neg_tmod, Int.tmod_neg, Int.ofNat_tmod]
theorem divideN_ax (x y : Int) (hy : y ≠ 0) (lx : lz x ≤ 1099511627776) (ly : lz y ≤ 274877906944) : PCall Tryz.prog 61 [NI x, NI y] (.tp [NI (x.tdiv y), NI (x.tmod y)]) := by
  have h := divideS_ax (decide (x < 0)) (decide (y < 0)) (digs B x.natAbs) y.natAbs (digs_lt B hB _) (by omega) lx ly
  rw [val_digs B hB, divideS, NS_sg, NS_sg, ← sg_tdiv, ← sg_tmod _ (decide (y < 0)), sg_self, sg_self] at h
  exact h
theorem NI_nat (n : Nat) : NI (n : Int) = NS false n := NI_nn _ (Int.natCast_nonneg n)
theorem divideP_ax (m n : Nat) (hn : 0 < n) (lm : ln m ≤ 1099511627776) (l : ln n ≤ 274877906944) : PCall Tryz.prog 61 [NS false m, NS false n] (.tp [NS false (m / n), NS false (m % n)]) := by
  have := divideN_ax m n (by omega) lm l
  rw [← Int.ofNat_tdiv, ← Int.ofNat_tmod] at this
  rwa [NI_nat, NI_nat, NI_nat, NI_nat] at this

structure CommonI (G L : Nat) (s : St) (n m : Nat) (e : Env) (s' : St) : Prop where
  en : e.n = 24
  e2 : e.m 2 = .ptr s.nx 0
  e3 : e.m 3 = .ptr (s.nx + 1) 0
  e4 : e.m 4 = .ptr (s.nx + 2) 0
  g0 : s'.get s.nx = some [.v (.bool false), .sl (ln m) (DL (digs B m))]
  g1 : s'.get (s.nx + 1) = some [.v (.bool false), .sl (ln n) (DL (digs B n))]
  g2 : s'.get (s.nx + 2) = some [.v (.bool false), .v (.slice none 0 0)]
  hi : s.nx + 3 ≤ s'.nx
  fr : ∀ i, i < s.nx → s'.get i = s.get i
  lm : ln m ≤ L
  l : ln n ≤ L
  gc : Nat.gcd m n = G
theorem commonN_ax (x y : Int) (lx : lz x ≤ 274877906944) (ly : lz y ≤ 274877906944) : PCall Tryz.prog 166 [NI x, NI y] (NI (Nat.gcd x.natAbs y.natAbs)) := by
  refine pcall_of fun s => ?_
  refine acall_of Tryz.func166 rfl rfl (by simp [Tryz.ntmps166]) ?_; rw [Tryz.ntmps166, Tryz.results166]
  have p0 := abs_ax x
  have p1 := abs_ax y
  rw [NI_nn (x.natAbs : Int) (by omega), Int.natAbs_natCast] at p0
  rw [NI_nn (y.natAbs : Int) (by omega), Int.natAbs_natCast] at p1
  rw [NI_nn (Nat.gcd x.natAbs y.natAbs : Int) (by omega), Int.natAbs_natCast]
  unfold NI at p0 p1 ⊢
  simp only [NS_eq] at p0 p1 ⊢
  change ln x.natAbs ≤ _ at lx
  change ln y.natAbs ≤ _ at ly
  generalize decide (x < 0) = a at *
  generalize decide (y < 0) = b at *
  generalize x.natAbs = m0 at *
  generalize y.natAbs = n0 at *
  refine go (cj rTI (cj @dl_idf (cj @dl_ln @dl_one))) ?_
  refine aw_drw (.two 0 (.two 1 (.one 2 (.one 3 (.one 4 (.one 5 (.done))))) 2 (.one 1 (.one 3 (.one 4 (.one 5 (.done)))))) 2 (.one 0 (.one 1 (.one 3 (.one 4 (.one 5 (.done))))))) [] (by kernel_rfl) (by kernel_rfl) fun K hK => ?_; refine dr (cj rTI (cj @dl_idf (cj @dl_ln @dl_one))) ?_; skip
  have hK2 : ∀ (e : Env) (s' : St), CommonI (Nat.gcd m0 n0) 274877906944 s n0 m0 e s' → K e s' := by
    intro e s' hI0
    refine hK e s' ?_
    clear hK
    refine rn trivial ?_
    refine go trivial ?_
    refine aw_loop (fun n e s' => ∃ (m : Nat), CommonI (Nat.gcd m0 n0) 274877906944 s n m e s') n0 ⟨m0, hI0⟩ ?_
    clear hI0 e s'
    rintro n e s' ⟨m, hI⟩
    have k0 := hI.en
    have k2 := hI.e2
    have k3 := hI.e3
    have k4 := hI.e4
    have g0 := hI.g0
    have g1 := hI.g1
    have g2 := hI.g2
    have hi := hI.hi
    have l0 := ln_zero n
    by_cases hn : 0 < n
    · refine go (cj rTI (cj @dl_idf (cj @dl_ln (cj @dl_one (cj @k0 (cj @k2 (cj @k3 (cj @k4 (cj @g0 (cj @g1 @g2)))))))))) ?_
      refine ifs ?_ ?_ <;> first | exact nope | intro hb
      refine go (cj rTI (cj @dl_idf (cj @dl_ln (cj @dl_one (cj @k0 (cj @k2 (cj @k3 (cj @k4 (cj @g0 (cj @g1 @g2)))))))))) ?_
      have p2 := divideP_ax m n hn (by have := hI.lm; omega) hI.l
      simp only [NS_eq] at p2
      refine aw_reg fun K hK => ?_; refine rn (cj rTI (cj @dl_idf (cj @dl_ln (cj @dl_one (cj @k0 (cj @k2 (cj @k3 (cj @k4 (cj @g0 (cj @g1 @g2)))))))))) ?_; refine cont_pure p2 ?_; refine rn (cj rTI (cj @dl_idf (cj @dl_ln (cj @dl_one (cj @k0 (cj @k2 (cj @k3 (cj @k4 (cj @g0 (cj @g1 @g2)))))))))) ?_; refine hK _ _ ?_; clear hK K
      refine go (cj rTI (cj @dl_idf (cj @dl_ln @dl_one))) ?_
      refine aw_drw (.take 1 (.one 0 (.one 2 (.one 3 (.done))))) [s'.nx + 1] (by kernel_rfl) (by kernel_rfl) fun K hK => ?_; refine dr (cj rTI (cj @dl_idf (cj @dl_ln (cj @dl_one (cj @k0 (cj @k2 (cj @k3 (cj @k4 (cj @g0 (cj @g1 @g2)))))))))) ?_; refine hK _ _ ?_; clear hK K
      refine go (cj rTI (cj @dl_idf (cj @dl_ln @dl_one))) ?_
      simp only [block_normal, loop_normal]; refine ⟨m % n, Nat.mod_lt _ hn, n, ?_⟩
      constructor <;> (try (first | refine rn (cj rTI (cj @dl_idf (cj @dl_ln (cj @dl_one (cj @k0 (cj @k2 (cj @k3 (cj @k4 (cj @g0 (cj @g1 @g2)))))))))) ?_ | exact rn0 (cj rTI (cj @dl_idf (cj @dl_ln (cj @dl_one (cj @k0 (cj @k2 (cj @k3 (cj @k4 (cj @g0 (cj @g1 @g2))))))))))))
      all_goals (first | exact shz | (intro i hi; (first | refine rn (hI.fr i hi) ?_ | exact rn0 (hI.fr i hi))) | skip)
      · exact hI.l
      · exact Nat.le_trans (ln_mono (Nat.le_of_lt (Nat.mod_lt _ hn))) hI.l
      · rw [← hI.gc, Nat.gcd_comm n, ← Nat.gcd_rec, Nat.gcd_comm]
    · refine go (cj rTI (cj @dl_idf (cj @dl_ln (cj @dl_one (cj @k0 (cj @k2 (cj @k3 (cj @k4 (cj @g0 (cj @g1 @g2)))))))))) ?_
      refine ifs ?_ ?_ <;> first | exact nope | intro hb
      have hg := hI.gc
      rw [show n = 0 by omega, Nat.gcd_zero_right] at hg
      rw [← hg]
      refine go (cj rTI (cj @dl_idf (cj @dl_ln (cj @dl_one (cj @k0 (cj @k2 (cj @k3 (cj @k4 (cj @g0 (cj @g1 @g2)))))))))) ?_
      (repeat' refine And.intro ?_ ?_) <;> first | exact rfl | (intro i hi; exact rn0 (hI.fr i hi)) | skip
  have fin : ∀ (e : Env) (s' : St), e.n = 24 → e.m 2 = .ptr s.nx 0 → e.m 3 = .ptr (s.nx + 1) 0 → e.m 4 = .ptr (s.nx + 2) 0 → s'.get s.nx = some [.v (.bool false), .sl (ln m0) (DL (digs B m0))] →
      s'.get (s.nx + 1) = some [.v (.bool false), .sl (ln n0) (DL (digs B n0))] → s'.get (s.nx + 2) = some [.v (.bool false), .v (.slice none 0 0)] → s.nx + 3 ≤ s'.nx → (∀ i, i < s.nx → s'.get i = s.get i) → K e s' :=
    fun e s' q0 q1 q2 q3 q4 q5 q6 q7 q8 => hK2 e s' ⟨q0, q1, q2, q3, q4, q5, q6, q7, q8, lx, ly, rfl⟩
  refine ⟨⟨?_, ?_⟩, ?_⟩ <;> (refine cont_pure p0 ?_; refine dr (cj rTI (cj @dl_idf (cj @dl_ln @dl_one))) ?_; refine cont_pure p1 ?_; refine dr (cj rTI (cj @dl_idf (cj @dl_ln @dl_one))) ?_; apply fin <;> (try (first | refine rn trivial ?_ | exact rn0 trivial)))
  all_goals (all_goals (first | exact shz | (intro i hi; (first | refine rn trivial ?_ | exact rn0 trivial)) | skip))
end Go.Proofs.YtfjelkjlfcafgaaGreatDoor.RefG
end
section
/- The document's whole numbers (layer 1): words of 32 bits, and the whole of 64. -/
namespace Go.Proofs.YtfjelkjlfcafgaaGreatDoor.RefH
open Go Go.RowKit Go.Proofs.YtfjelkjlfcafgaaGreatDoor.Ax Go.Proofs.YtfjelkjlfcafgaaGreatDoor.Ti Go.Proofs.YtfjelkjlfcafgaaGreatDoor.BigM Go.Proofs.YtfjelkjlfcafgaaGreatDoor.RefA Go.Proofs.YtfjelkjlfcafgaaGreatDoor.RefB Go.Proofs.YtfjelkjlfcafgaaGreatDoor.RefC Go.Proofs.YtfjelkjlfcafgaaGreatDoor.RefD Go.Proofs.YtfjelkjlfcafgaaGreatDoor.RefE Go.Proofs.YtfjelkjlfcafgaaGreatDoor.RefF Go.Proofs.YtfjelkjlfcafgaaGreatDoor.RefG
set_option maxHeartbeats 2000000
set_option linter.unusedSimpArgs false
set_option linter.unusedVariables false
set_option maxRecDepth 4000
theorem rTI : type_of% (cj @ti105 (cj @ti63 (cj @ti3 @ti4))) := cj @ti105 (cj @ti63 (cj @ti3 @ti4))
theorem val_drop (n k : Nat) (h : k ≤ ln n) : val B ((digs B n).drop k) = n / B ^ k := by
  have h1 := val_split (digs B n) k h
  rw [val_digs B hB] at h1
  have h2 := val_lt B (by decide) ((digs B n).take k) (fun d hd => digs_lt B hB n d (List.mem_of_mem_take hd))
  rw [List.length_take, Nat.min_eq_left (show k ≤ (digs B n).length from h)] at h2
  have h3 : 0 < B ^ k := Nat.pow_pos (by decide)
  generalize val B ((digs B n).take k) = u at *
  generalize val B ((digs B n).drop k) = v at *
  rw [h1, Nat.add_mul_div_left _ _ h3, Nat.div_eq_of_lt h2, Nat.zero_add]
end Go.Proofs.YtfjelkjlfcafgaaGreatDoor.RefH
end
section
/- The document's whole numbers (layer 1): the whole of 64 bits. -/
namespace Go.Proofs.YtfjelkjlfcafgaaGreatDoor.RefI
open Go Go.RowKit Go.Proofs.YtfjelkjlfcafgaaGreatDoor.Ax Go.Proofs.YtfjelkjlfcafgaaGreatDoor.Ti Go.Proofs.YtfjelkjlfcafgaaGreatDoor.BigM Go.Proofs.YtfjelkjlfcafgaaGreatDoor.RefA Go.Proofs.YtfjelkjlfcafgaaGreatDoor.RefB Go.Proofs.YtfjelkjlfcafgaaGreatDoor.RefC Go.Proofs.YtfjelkjlfcafgaaGreatDoor.RefD Go.Proofs.YtfjelkjlfcafgaaGreatDoor.RefE Go.Proofs.YtfjelkjlfcafgaaGreatDoor.RefF Go.Proofs.YtfjelkjlfcafgaaGreatDoor.RefG Go.Proofs.YtfjelkjlfcafgaaGreatDoor.RefH
set_option maxHeartbeats 2000000
set_option linter.unusedSimpArgs false
set_option linter.unusedVariables false
set_option maxRecDepth 4000
theorem rTI : type_of% (cj @ti105 (cj @ti63 (cj @ti3 @ti4))) := cj @ti105 (cj @ti63 (cj @ti3 @ti4))
theorem rTU : type_of% (cj @ti105 (cj @ti63 (cj @ti3 (cj @ti4 (cj @ti2 @ti165))))) := cj @ti105 (cj @ti63 (cj @ti3 (cj @ti4 (cj @ti2 @ti165))))

def fits (x : Int) : Prop := -9223372036854775808 ≤ x ∧ x ≤ 9223372036854775807
instance (x : Int) : Decidable (fits x) := by unfold fits; exact inferInstance
theorem whole_ax (x : Int) (l : lz x ≤ 1099511627776) : PCall Tryz.prog 62 [NI x] (if fits x then .tp [.v (.int .i64 x), .v (.bool true)] else .tp [.v (.int .i64 0), .v (.bool false)]) := by
  have lc : ∀ c : Int, -9223372036854775808 ≤ c → c ≤ 9223372036854775807 → lz c ≤ 4 := fun c h1 h2 => (ln_lt _ 4).1 (by unfold B; omega)
  have p0 := wide_ax (-9223372036854775808) (by omega) (by omega)
  have p1 := wide_ax 9223372036854775807 (by omega) (by omega)
  have p2 := heldN_ax x (-9223372036854775808) (by omega) (by have := lc (-9223372036854775808) (by omega) (by omega); omega)
  have p3 := heldN_ax x 9223372036854775807 (by omega) (by have := lc 9223372036854775807 (by omega) (by omega); omega)
  have hs : ∀ y : Int, (sgn y < 0 ↔ y < 0) ∧ (0 < sgn y ↔ 0 < y) := fun y => by unfold sgn; split <;> (try split) <;> omega
  have h2 := hs (x - -9223372036854775808)
  have h3 := hs (x - 9223372036854775807)
  refine pcall_of fun s => ?_
  refine acall_of Tryz.func62 rfl rfl (by simp [Tryz.ntmps62]) ?_; rw [Tryz.ntmps62, Tryz.results62]
  unfold NI at p0 p1 p2 p3 ⊢
  simp only [NS_eq, DN_ln] at p0 p1 p2 p3 ⊢
  change ln x.natAbs ≤ _ at l
  generalize hbb : decide (x < 0) = b at *
  generalize sgn (x - -9223372036854775808) = c2 at *
  generalize sgn (x - 9223372036854775807) = c3 at *
  by_cases hf : fits x
  · rw [if_pos hf]
    obtain ⟨f1, f2⟩ := hf
    refine go (cj rTU (cj @dl_idf (cj @dl_ln @dl_one))) ?_
    refine aw_drw (.take 0 (.one 1 (.one 2 (.take 3 (.take 4 (.take 5 (.one 6 (.one 7 (.take 8 (.take 9 (.done))))))))))) [s.nx] (by kernel_rfl) (by kernel_rfl) fun K hK => ?_; refine dr (cj rTU (cj @dl_idf (cj @dl_ln @dl_one))) ?_; refine cont_pure p0 ?_; refine dr (cj rTU (cj @dl_idf (cj @dl_ln @dl_one))) ?_; refine cont_pure p2 ?_; refine dr (cj rTU (cj @dl_idf (cj @dl_ln @dl_one))) ?_; refine cont_pure p1 ?_; refine dr (cj rTU (cj @dl_idf (cj @dl_ln @dl_one))) ?_; refine cont_pure p3 ?_; refine dr (cj rTU (cj @dl_idf (cj @dl_ln @dl_one))) ?_; refine hK _ _ ?_; clear hK K
    refine ifs ?_ ?_ <;> first | exact nope | intro hb
    refine go (cj rTU (cj @dl_idf (cj @dl_ln @dl_one))) ?_
    have hN : x.natAbs ≤ 9223372036854775808 := by omega
    refine aw_loop (fun n e s' => n ≤ ln x.natAbs ∧ e.n = 39 ∧ e.m 1 = .ptr s.nx 0 ∧ e.m 2 = .v (.int .i64 0) ∧ e.m 3 = .v (.bool false) ∧ e.m 4 = .v (.int .u64 (val B ((digs B x.natAbs).drop n) : Nat)) ∧ e.m 5 = .v (.int .i64 ((n : Int) - 1)) ∧ s' = s.push [.v (.bool b), .sl (ln x.natAbs) (DL (digs B x.natAbs))]) (ln x.natAbs) ?_ ?_
    · refine ⟨Nat.le_refl _, ?_⟩
      rw [List.drop_of_length_le (show (digs B x.natAbs).length ≤ ln x.natAbs from Nat.le_refl _), val]
      refine rn trivial ?_
      (repeat' refine And.intro ?_ ?_) <;> first | exact rfl | exact fnz trivial | skip
    · rintro n e s' ⟨a1, k0, k1, k2, k3, k4, k5, rfl⟩
      have hv := val_drop x.natAbs n a1
      have hle : val B ((digs B x.natAbs).drop n) ≤ 9223372036854775808 := by rw [hv]; exact Nat.le_trans (Nat.div_le_self _ _) hN
      have l2 : (digs B x.natAbs).length = ln x.natAbs := rfl
      by_cases hn : 0 < n
      · have hv2 := val_drop x.natAbs (n - 1) (by omega)
        have hle2 : val B ((digs B x.natAbs).drop (n - 1)) ≤ 9223372036854775808 := by rw [hv2]; exact Nat.le_trans (Nat.div_le_self _ _) hN
        have dp := drop_pred (digs B x.natAbs) n hn a1
        have hd : (digs B x.natAbs).getD (n - 1) 0 < 65536 := getD_lt B (by decide) _ (digs_lt B hB _) _
        have hv3 : val B ((digs B x.natAbs).drop (n - 1)) = (digs B x.natAbs).getD (n - 1) 0 + 65536 * val B ((digs B x.natAbs).drop n) := by rw [dp, val]; rfl
        generalize val B ((digs B x.natAbs).drop n) = V at *
        refine go (cj rTU (cj @dl_idf (cj @dl_ln (cj @dl_one (cj @k0 (cj @k1 (cj @k2 (cj @k3 (cj @k4 @k5))))))))) ?_
        refine ifs ?_ ?_ <;> first | exact nope | intro hb
        refine go (cj rTU (cj @dl_idf (cj @dl_ln (cj @dl_one (cj @k0 (cj @k1 (cj @k2 (cj @k3 (cj @k4 (cj @k5 @hd_DL)))))))))) ?_
        simp only [block_normal, loop_normal]; refine ⟨n - 1, by omega, by omega, ?_⟩
        refine rn (cj rTU (cj @dl_idf (cj @dl_ln (cj @dl_one (cj @k0 (cj @k1 (cj @k2 (cj @k3 (cj @k4 @k5))))))))) ?_
        constructor
        · refine congrArg (fun z : Int => AV.v (.int .u64 z)) ?_
          omega
        · refine congrArg (fun z : Int => AV.v (.int .i64 z)) ?_
          omega
      · refine go (cj rTU (cj @dl_idf (cj @dl_ln (cj @dl_one (cj @k0 (cj @k1 (cj @k2 (cj @k3 (cj @k4 @k5))))))))) ?_
        refine ifs ?_ ?_ <;> first | exact nope | intro hb
        obtain rfl : n = 0 := by omega
        rw [List.drop_zero, val_digs B hB] at k4
        refine go (cj rTU (cj @dl_idf (cj @dl_ln (cj @dl_one (cj @k0 (cj @k1 (cj @k2 (cj @k3 (cj @k4 @k5))))))))) ?_
        cases b
        · have hb2 := of_decide_eq_false hbb
          refine ifs ?_ ?_ <;> first | exact nope | intro hb
          refine go (cj rTU (cj @dl_idf (cj @dl_ln (cj @dl_one (cj @k0 (cj @k1 (cj @k2 (cj @k3 (cj @k4 @k5))))))))) ?_
          (repeat' refine And.intro ?_ ?_) <;> first | exact rfl | exact fnz trivial | skip
          rw [show (x.natAbs : Int) = x by omega]
        · have hb2 := of_decide_eq_true hbb
          refine ifs ?_ ?_ <;> first | exact nope | intro hb
          refine go (cj rTU (cj @dl_idf (cj @dl_ln (cj @dl_one (cj @k0 (cj @k1 (cj @k2 (cj @k3 (cj @k4 @k5))))))))) ?_
          (repeat' refine And.intro ?_ ?_) <;> first | exact rfl | exact fnz trivial | skip
          rw [wrap_u64, IntKind.wrap_i64]
          refine congrArg (fun z : Int => AV.tp [.v (.int .i64 z), .v (.bool true)]) ?_
          omega
  · rw [if_neg hf]
    by_cases f1 : -9223372036854775808 ≤ x
    · have f2 : ¬ x ≤ 9223372036854775807 := fun q => hf ⟨f1, q⟩
      refine go (cj rTU (cj @dl_idf (cj @dl_ln @dl_one))) ?_
      refine aw_drw (.take 0 (.one 1 (.one 2 (.take 3 (.take 4 (.take 5 (.one 6 (.one 7 (.take 8 (.take 9 (.done))))))))))) [s.nx] (by kernel_rfl) (by kernel_rfl) fun K hK => ?_; refine dr (cj rTU (cj @dl_idf (cj @dl_ln @dl_one))) ?_; refine cont_pure p0 ?_; refine dr (cj rTU (cj @dl_idf (cj @dl_ln @dl_one))) ?_; refine cont_pure p2 ?_; refine dr (cj rTU (cj @dl_idf (cj @dl_ln @dl_one))) ?_; refine cont_pure p1 ?_; refine dr (cj rTU (cj @dl_idf (cj @dl_ln @dl_one))) ?_; refine cont_pure p3 ?_; refine dr (cj rTU (cj @dl_idf (cj @dl_ln @dl_one))) ?_; refine hK _ _ ?_; clear hK K
      refine ifs ?_ ?_ <;> first | exact nope | intro hb
      refine go (cj rTU (cj @dl_idf (cj @dl_ln @dl_one))) ?_
      (repeat' refine And.intro ?_ ?_) <;> first | exact rfl | exact fnz trivial | skip
    · refine go (cj rTU (cj @dl_idf (cj @dl_ln @dl_one))) ?_
      refine aw_drw (.take 0 (.one 1 (.one 2 (.take 3 (.take 4 (.take 5 (.one 6 (.one 7 (.take 8 (.take 9 (.done))))))))))) [s.nx] (by kernel_rfl) (by kernel_rfl) fun K hK => ?_; refine dr (cj rTU (cj @dl_idf (cj @dl_ln @dl_one))) ?_; refine cont_pure p0 ?_; refine dr (cj rTU (cj @dl_idf (cj @dl_ln @dl_one))) ?_; refine cont_pure p2 ?_; refine dr (cj rTU (cj @dl_idf (cj @dl_ln @dl_one))) ?_; refine hK _ _ ?_; clear hK K
      refine ifs ?_ ?_ <;> first | exact nope | intro hb
      refine go (cj rTU (cj @dl_idf (cj @dl_ln @dl_one))) ?_
      (repeat' refine And.intro ?_ ?_) <;> first | exact rfl | exact fnz trivial | skip
end Go.Proofs.YtfjelkjlfcafgaaGreatDoor.RefI
end
section
/- The document's whole numbers (layer 1): in decimal digits. -/
namespace Go.Proofs.YtfjelkjlfcafgaaGreatDoor.RefJ
open Go Go.RowKit Go.Proofs.YtfjelkjlfcafgaaGreatDoor.Ax Go.Proofs.YtfjelkjlfcafgaaGreatDoor.Ti Go.Proofs.YtfjelkjlfcafgaaGreatDoor.BigM Go.Proofs.YtfjelkjlfcafgaaGreatDoor.RefA Go.Proofs.YtfjelkjlfcafgaaGreatDoor.RefB Go.Proofs.YtfjelkjlfcafgaaGreatDoor.RefC Go.Proofs.YtfjelkjlfcafgaaGreatDoor.RefD Go.Proofs.YtfjelkjlfcafgaaGreatDoor.RefE Go.Proofs.YtfjelkjlfcafgaaGreatDoor.RefF Go.Proofs.YtfjelkjlfcafgaaGreatDoor.RefG Go.Proofs.YtfjelkjlfcafgaaGreatDoor.RefH Go.Proofs.YtfjelkjlfcafgaaGreatDoor.RefI
set_option maxHeartbeats 2000000
set_option linter.unusedSimpArgs false
set_option linter.unusedVariables false
set_option maxRecDepth 4000
theorem rTI : type_of% (cj @ti105 (cj @ti63 (cj @ti3 (cj @ti4 (cj @ti9 (cj @ti116 @ti5)))))) := cj @ti105 (cj @ti63 (cj @ti3 (cj @ti4 (cj @ti9 (cj @ti116 @ti5)))))

def bs (l : List Nat) : ByteArray := ⟨(l.map UInt8.ofNat).toArray⟩
theorem bs_append (a b : List Nat) : bs a ++ bs b = bs (a ++ b) := by
  apply ByteArray.ext
  rw [ByteArray.data_append]
  simp [bs]
theorem bs_size (l : List Nat) : (bs l).size = l.length := by simp [bs, ByteArray.size]
theorem trimZ_take : ∀ (l : List Nat), l.take (trimZ l).length = trimZ l
  | [] => rfl
  | d :: l => by
    rw [trimZ]
    split
    · rfl
    · rw [List.length_cons, List.take_succ_cons, trimZ_take l]
theorem trim_own (es : List Nat) (n id : Nat) (s : St) (hn : n ≤ es.length) (hl : es.length ≤ 140737488355328) (hg : s.get id = some (DL es)) :
    ACall Tryz.prog 115 [.own id 0 n 1] s fun r s' => r = .own id 0 (trimZ (es.take n)).length 1 ∧ s' = s := by
  refine acall_of Tryz.func115 rfl rfl (by simp [Tryz.ntmps115]) ?_; rw [Tryz.ntmps115, Tryz.results115]
  refine go (cj rTI (cj @dl_idf (cj @dl_ln @dl_one))) ?_
  refine aw_loop (fun k e s' => k ≤ n ∧ e.n = 21 ∧ e.m 0 = .own id 0 n 1 ∧ e.m 3 = .v (.int .i64 k) ∧ s' = s ∧ trimZ (es.take k) = trimZ (es.take n)) n ?_ ?_
  · exact rn0 @Nat.le_refl
  · rintro k e s' ⟨hk, h1, h2, h3, rfl, h4⟩
    have l1 := DL_len es
    have z : ∀ i : Nat, 0 + i = i := Nat.zero_add
    by_cases h0 : 0 < k
    · by_cases hz : es.getD (k - 1) 0 = 0
      · refine go (cj rTI (cj @dl_idf (cj @dl_ln (cj @dl_one (cj @h1 (cj @h2 (cj @h3 (cj @hg (cj @hd_DL @z))))))))) ?_
        refine ifs ?_ ?_ <;> first | exact nope | intro hb
        refine go (cj rTI (cj @dl_idf (cj @dl_ln (cj @dl_one (cj @h1 (cj @h2 (cj @h3 (cj @hg (cj @hd_DL @z))))))))) ?_
        have h5 := trimZ_last es k h0 (by omega) hz
        simp only [block_normal, loop_normal]; refine ⟨k - 1, by omega, ?_⟩; (first | refine rn (cj @h1 @h2) ?_ | exact rn0 (cj @h1 @h2))
        exact ⟨by omega, by congr 2; omega, by rw [h5, h4]⟩
      · refine go (cj rTI (cj @dl_idf (cj @dl_ln (cj @dl_one (cj @h1 (cj @h2 (cj @h3 (cj @hg (cj @hd_DL @z))))))))) ?_
        refine ifs ?_ ?_ <;> first | exact nope | intro hb
        have h5 := trimZ_stop es k (by omega) (.inr hz)
        rw [h4] at h5
        refine go (cj rTI (cj @dl_idf (cj @dl_ln (cj @dl_one (cj @h1 (cj @h2 (cj @h3 (cj @hg (cj @hd_DL @z))))))))) ?_
        rw [h5, List.length_take, Nat.min_eq_left (by omega)]
        simp
    · have h5 := trimZ_stop es k (by omega) (.inl (by omega))
      rw [h4] at h5
      refine go (cj rTI (cj @dl_idf (cj @dl_ln (cj @dl_one (cj @h1 (cj @h2 @h3)))))) ?_
      refine ifs ?_ ?_ <;> first | exact nope | intro hb
      refine go (cj rTI (cj @dl_idf (cj @dl_ln (cj @dl_one (cj @h1 (cj @h2 @h3)))))) ?_
      rw [h5, List.length_take, Nat.min_eq_left (by omega)]
      simp

def dec (n : Nat) : List Nat := ((digs 10 n).reverse).map fun d => 48 + d
def decZ (z : Int) : List Nat := if z = 0 then [48] else (if z < 0 then [45] else []) ++ dec z.natAbs
theorem dec_len (n : Nat) : (digs 10 n).length ≤ 5 * ln n := by
  rw [digs_length_le 10 (by decide)]
  have h1 := (ln_lt n _).2 (Nat.le_refl _)
  have h2 : B ^ ln n ≤ (10 ^ 5) ^ ln n := Nat.pow_le_pow_left (by decide) _
  rw [← Nat.pow_mul] at h2
  omega
structure DigM (b : Bool) (N : Nat) (s : St) (V : Nat) (dn : List Nat) (es : List Nat) (e : Env) (s' : St) : Prop where
  en : e.n = 53
  e1 : e.m 1 = .ptr s.nx 0
  e3 : e.m 3 = .v (.string (bs (dn.reverse.map fun d => 48 + d)))
  e4 : e.m 4 = .own (s.nx + 2) 0 (ln V) 1
  g0 : s'.get s.nx = some [.v (.bool b), .sl (ln N) (DL (digs B N))]
  gi : s'.get (s.nx + 2) = some (DL es)
  hi : s.nx + 3 ≤ s'.nx
  fr : ∀ i, i < s.nx → s'.get i = s.get i
  len : es.length = ln N
  lv : ln V ≤ ln N
  all : digs 10 N = dn ++ digs 10 V
structure DigO (b : Bool) (N : Nat) (s : St) (V : Nat) (dn : List Nat) (es : List Nat) (e : Env) (s' : St) : Prop extends DigM b N s V dn es e s' where
  ov : es.take (ln V) = digs B V
structure DigJ (b : Bool) (N : Nat) (s : St) (V : Nat) (dn : List Nat) (k : Nat) (es : List Nat) (e : Env) (s' : St) : Prop extends DigM b N s V dn es e s' where
  e5 : e.m 5 = .v (.int .i64 (val B ((digs B V).drop k) % 10 : Nat))
  e6 : e.m 6 = .v (.int .i64 ((k : Int) - 1))
  kl : k ≤ ln V
  jt : es.take k = (digs B V).take k
  jv : val B ((es.take (ln V)).drop k) = val B ((digs B V).drop k) / 10
  lt : ∀ d ∈ es.take (ln V), d < B
theorem getD_take (l : List Nat) (k i : Nat) (h : i < k) : (l.take k).getD i 0 = l.getD i 0 := by
  rw [List.getD_eq_getElem?_getD, List.getD_eq_getElem?_getD, List.getElem?_take_of_lt h]
theorem dig_step (D es : List Nat) (L k : Nat) (hk : 0 < k) (hkl : k ≤ L) (hL : L ≤ es.length) (hD : D.length = L) (hd : ∀ d ∈ D, d < B) (jt : es.take k = D.take k) (jv : val B ((es.take L).drop k) = val B (D.drop k) / 10) (lt : ∀ d ∈ es.take L, d < B) (z : Nat) (hz : z = es.getD (k - 1) 0 + B * (val B (D.drop k) % 10)) :
    z < 10 * B ∧ z % 10 = val B (D.drop (k - 1)) % 10 ∧ (es.set (k - 1) (z / 10)).take (k - 1) = D.take (k - 1) ∧ val B (((es.set (k - 1) (z / 10)).take L).drop (k - 1)) = val B (D.drop (k - 1)) / 10 ∧ ∀ d ∈ (es.set (k - 1) (z / 10)).take L, d < B := by
  have e0 : es.getD (k - 1) 0 = D.getD (k - 1) 0 := by rw [← getD_take es k _ (by omega), jt, getD_take D k _ (by omega)]
  have hx : D.getD (k - 1) 0 < B := getD_lt B (by decide) D hd _
  have dp := drop_pred D k hk (by omega)
  have st := divide_step (D.getD (k - 1) 0) 10 (val B (D.drop k)) (by decide)
  have hv : val B (D.drop (k - 1)) = D.getD (k - 1) 0 + B * val B (D.drop k) := by rw [dp, val]
  rw [← hv, ← e0, ← hz] at st
  have hzl : z < 10 * B := by rw [hz, e0]; exact divide_lt _ 10 _ hx (Nat.mod_lt _ (by decide))
  refine ⟨hzl, st.2.symm, ?_, ?_, ?_⟩
  · rw [List.take_set_of_le (Nat.le_refl _)]
    have := congrArg (List.take (k - 1)) jt
    rwa [List.take_take, List.take_take, Nat.min_eq_left (by omega)] at this
  · rw [List.take_set, drop_pred _ k hk (by rw [List.length_set, List.length_take]; omega), getD_set _ _ _ _ (by rw [List.length_take]; omega), if_pos rfl, List.drop_set_of_lt (by omega), val, jv, st.1]
  · rw [List.take_set]
    exact set_lt _ _ _ lt (Nat.div_lt_of_lt_mul hzl)
theorem bs_dig (c : Nat) : ByteArray.mk #[unbyte (AV.v (.int .u8 (48 + (c : Int))))] = bs [48 + c] := by
  have : (48 + (c : Int)).toNat = 48 + c := by omega
  simp [bs, unbyte, this]
theorem digits_ax (x : Int) (l : lz x ≤ 1099511627776) : PCall Tryz.prog 65 [NI x] (.v (.string (bs (decZ x)))) := by
  have p0 := sign_ax x
  refine pcall_of fun s => ?_
  refine acall_of Tryz.func65 rfl rfl (by simp [Tryz.ntmps65]) ?_; rw [Tryz.ntmps65, Tryz.results65]
  unfold NI at p0 ⊢
  simp only [NS_eq, DN_ln] at p0 ⊢
  change ln x.natAbs ≤ _ at l
  by_cases h0 : x = 0
  · subst h0
    refine go (cj rTI (cj @dl_idf (cj @dl_ln @dl_one))) ?_
    refine aw_reg fun K hK => ?_; refine rn (cj rTI (cj @dl_idf (cj @dl_ln @dl_one))) ?_; refine cont_pure p0 ?_; refine rn (cj rTI (cj @dl_idf (cj @dl_ln @dl_one))) ?_; refine hK _ _ ?_; clear hK K
    refine ifs ?_ ?_ <;> first | exact nope | intro hb
    refine go (cj rTI (cj @dl_idf (cj @dl_ln @dl_one))) ?_
    (repeat' refine And.intro ?_ ?_) <;> first | exact rfl | exact fnz trivial | skip
  · have hs : sgn x ≠ 0 := by unfold sgn; split <;> (try split) <;> omega
    generalize hbb : decide (x < 0) = b at *
    generalize sgn x = c at *
    have hdz : decZ x = (if b = true then [45] else []) ++ dec x.natAbs := by unfold decZ; rw [if_neg h0, ← hbb]; simp
    have h1 : 0 < x.natAbs := by omega
    generalize x.natAbs = N at *
    refine go (cj rTI (cj @dl_idf (cj @dl_ln @dl_one))) ?_
    refine aw_reg fun K hK => ?_; refine rn (cj rTI (cj @dl_idf (cj @dl_ln @dl_one))) ?_; refine cont_pure p0 ?_; refine rn (cj rTI (cj @dl_idf (cj @dl_ln @dl_one))) ?_; refine hK _ _ ?_; clear hK K
    refine ifs ?_ ?_ <;> first | exact nope | intro hb
    refine go (cj rTI (cj @dl_idf (cj @dl_ln @dl_one))) ?_
    have z : ∀ i : Nat, 0 + i = i := Nat.zero_add
    refine aw_loop (fun V e s' => ∃ dn es : List Nat, DigO b N s V dn es e s') N ?_ ?_
    · refine ⟨[], digs B N, ?_⟩
      constructor
      · constructor <;> (try (first | refine rn (cj rTI (cj @dl_idf (cj @dl_ln (cj @dl_one @z)))) ?_ | exact rn0 (cj rTI (cj @dl_idf (cj @dl_ln (cj @dl_one @z))))))
        all_goals (first | exact shz | (intro i hi; (first | refine rn trivial ?_ | exact rn0 trivial)) | skip)
      · exact List.take_of_length_le (Nat.le_refl _)
    · rintro V e s' ⟨dn, es, hO⟩
      have k0 := hO.en
      have k1 := hO.e1
      have k3 := hO.e3
      have k4 := hO.e4
      have g0 := hO.g0
      have gi := hO.gi
      have hi := hO.hi
      have l1 := DL_len es
      have l2 := hO.len
      have l3 := hO.lv
      have l4 := ln_zero V
      have l5 := congrArg List.length hO.all
      rw [List.length_append] at l5
      have l6 := dec_len N
      by_cases hV : 0 < V
      · refine go (cj rTI (cj @dl_idf (cj @dl_ln (cj @dl_one (cj @k0 (cj @k1 (cj @k3 (cj @k4 (cj @g0 (cj @gi @z)))))))))) ?_
        refine ifs ?_ ?_ <;> first | exact nope | intro hb
        refine go (cj rTI (cj @dl_idf (cj @dl_ln (cj @dl_one (cj @k0 (cj @k1 (cj @k3 (cj @k4 (cj @g0 (cj @gi @z)))))))))) ?_
        refine aw_loop (fun k e s' => ∃ es : List Nat, DigJ b N s V dn k es e s') (ln V) ?_ ?_
        · refine ⟨es, ?_⟩
          constructor
          · constructor <;> (try exact rn0 (cj rTI (cj @dl_idf (cj @dl_ln (cj @dl_one (cj @k0 (cj @k1 (cj @k3 (cj @k4 (cj @g0 (cj @gi @z)))))))))))
            all_goals (first | exact shz | (intro i hi; (first | refine rn (hO.fr i hi) ?_ | exact rn0 (hO.fr i hi))) | skip)
            exact hO.all
          · rw [List.drop_of_length_le (show (digs B V).length ≤ ln V from Nat.le_refl _), val]
            refine rn trivial ?_
            rfl
          · exact rn0 trivial
            all_goals (first | exact shz | (intro i hi; (first | refine rn trivial ?_ | exact rn0 trivial)) | skip)
          · omega
          · exact hO.ov.trans (List.take_of_length_le (Nat.le_refl _)).symm
          · rw [List.drop_of_length_le (by rw [List.length_take]; omega), List.drop_of_length_le (show (digs B V).length ≤ ln V from Nat.le_refl _)]; rfl
          · rw [hO.ov]; exact digs_lt B hB V
        · clear k0 k1 k3 k4 g0 gi hi l1 l2
          rintro k e2 s2 ⟨es, hJ⟩
          have k0 := hJ.en
          have k1 := hJ.e1
          have k3 := hJ.e3
          have k4 := hJ.e4
          have k5 := hJ.e5
          have k6 := hJ.e6
          have g0 := hJ.g0
          have gi := hJ.gi
          have hi := hJ.hi
          have l1 := DL_len es
          have l2 := hJ.len
          have b1 := hJ.kl
          by_cases hk : 0 < k
          · refine go (cj rTI (cj @dl_idf (cj @dl_ln (cj @dl_one (cj @k0 (cj @k1 (cj @k3 (cj @k4 (cj @k5 (cj @k6 (cj @g0 (cj @gi (cj @z @hd_DL))))))))))))) ?_
            refine ifs ?_ ?_ <;> first | exact nope | intro hb
            obtain ⟨q1, q2, q3, q4, q5⟩ := dig_step (digs B V) es (ln V) k hk b1 (by omega) rfl (digs_lt B hB V) hJ.jt hJ.jv hJ.lt _ rfl
            have hx : es.getD (k - 1) 0 < 65536 := by
              rw [← getD_take es (ln V) _ (by omega)]
              exact getD_lt B (by decide) _ hJ.lt _
            have hc : val B ((digs B V).drop k) % 10 < 10 := Nat.mod_lt _ (by decide)
            generalize hcc : val B ((digs B V).drop k) % 10 = c at *
            refine go (cj rTI (cj @dl_idf (cj @dl_ln (cj @dl_one (cj @k0 (cj @k1 (cj @k3 (cj @k4 (cj @k5 (cj @k6 (cj @g0 (cj @gi (cj @z @hd_DL))))))))))))) ?_
            have e1 : (c : Int) * 65536 + ((es.getD (k - 1) 0 : Nat) : Int) = ((es.getD (k - 1) 0 + B * c : Nat) : Int) := by unfold B; omega
            have e2 : ∀ z : Nat, ((z : Int) % 10) = ((z % 10 : Nat) : Int) := fun z => by omega
            have e3 : ∀ z : Nat, ((z : Int) / 10) = ((z / 10 : Nat) : Int) := fun z => by omega
            have q6 : es.getD (k - 1) 0 + B * c < 10 * 65536 := q1
            simp only [block_normal, loop_normal]; refine ⟨k - 1, by omega, es.set (k - 1) ((es.getD (k - 1) 0 + B * c) / 10), ?_⟩
            constructor
            · constructor <;> (try (first | refine rn (cj rTI (cj @dl_idf (cj @dl_ln (cj @dl_one (cj @k0 (cj @k1 (cj @k3 (cj @k4 (cj @k5 (cj @k6 (cj @g0 (cj @gi (cj @z (cj @e1 (cj @e2 (cj @e3 (cj @DL_set rls))))))))))))))))) ?_ | exact rn0 (cj rTI (cj @dl_idf (cj @dl_ln (cj @dl_one (cj @k0 (cj @k1 (cj @k3 (cj @k4 (cj @k5 (cj @k6 (cj @g0 (cj @gi (cj @z (cj @e1 (cj @e2 (cj @e3 (cj @DL_set rls)))))))))))))))))))
              all_goals (first | exact shz | (intro i hi; (first | refine rn (hJ.fr i hi) ?_ | exact rn0 (hJ.fr i hi))) | skip)
              exact hJ.all
            · refine rn (cj rTI (cj @dl_idf (cj @dl_ln (cj @dl_one (cj @k0 (cj @k1 (cj @k3 (cj @k4 (cj @k5 (cj @k6 (cj @g0 (cj @gi (cj @z (cj @e1 (cj @e2 @e3))))))))))))))) ?_
              all_goals (first | exact shz | (intro i hi; (first | refine rn trivial ?_ | exact rn0 trivial)) | skip)
            · refine rn trivial ?_
              all_goals (first | exact shz | (intro i hi; (first | refine rn trivial ?_ | exact rn0 trivial)) | skip)
            · omega
            · exact q3
            · exact q4
            · exact q5
          · refine go (cj rTI (cj @dl_idf (cj @dl_ln (cj @dl_one (cj @k0 (cj @k1 (cj @k3 (cj @k4 (cj @k5 (cj @k6 (cj @g0 (cj @gi @z)))))))))))) ?_
            refine ifs ?_ ?_ <;> first | exact nope | intro hb
            obtain rfl : k = 0 := by omega
            have hv := hJ.jv
            rw [List.drop_zero, List.drop_zero, val_digs B hB] at hv
            rw [List.drop_zero, val_digs B hB] at k5
            have ht := digs_val B hB _ hJ.lt
            rw [hv] at ht
            have hlen : (trimZ (es.take (ln V))).length = ln (V / 10) := by rw [← ht]; rfl
            have htk : es.take (ln (V / 10)) = digs B (V / 10) := by
              have h7 := trimZ_take (es.take (ln V))
              rw [hlen, List.take_take, Nat.min_eq_left (ln_mono (Nat.div_le_self _ _)), ← ht] at h7
              exact h7
            have ha := hJ.all
            rw [digs_pos 10 V (by decide) hV] at ha
            have hc : V % 10 < 10 := Nat.mod_lt _ (by decide)
            generalize V % 10 = c at *
            refine go (cj rTI (cj @dl_idf (cj @dl_ln (cj @dl_one (cj @k0 (cj @k1 (cj @k3 (cj @k4 (cj @k5 (cj @k6 (cj @g0 (cj @gi @z)))))))))))) ?_
            refine aw_reg fun K hK => ?_; refine rn (cj rTI (cj @dl_idf (cj @dl_ln (cj @dl_one (cj @k0 @k4))))) ?_; refine cont_go (trim_own es (ln V) (s.nx + 2) s2 (by omega) (by omega) gi) ?_; rintro _ s3 ⟨rfl, hs3⟩; rw [hlen, hs3]; clear hs3 s3; refine rn (cj rTI (cj @dl_idf (cj @dl_ln (cj @dl_one (cj @k0 @k4))))) ?_; refine hK _ _ ?_; clear hK K
            repeat (first | refine aw_seq ?_ | refine aw_block ?_ | (refine aw_reg fun K hK => ?_; simp (disch := omega) only [↓core, ↓List.getElem?_toArray, ↓List.getElem?_cons_succ, ↓List.getElem?_cons_zero, ↓onO_some, more, xbuild, if_pos, if_neg, onO_some, onO_none, onV_eq, xbuiltin, xlen, xload, loadA, xstore, spl, xfield, xindexAddr, xindex, xslice, bnd, xbin, xint, xshift, xstr, xeq, xun, xconv, xmake, xappend, xsrc, xbuildSlice, fillA, xminmax, gval, isK, mapM_nil_o, mapM_cons_o, AV.cells, AV.boxable, AV.one, TI.agg, resA, retA, zrow_one, eq_self, List.map, List.map_cons, List.map_nil, Option.map_some, Option.map_none, Option.bind_some, Option.bind_none, ↓reduceIte, Nat.reduceLT, Nat.reduceEqDiff, Nat.reduceAdd, Nat.reduceMul, Nat.mul_one, Nat.reduceLeDiff, decide_true, decide_false, true_and, and_true, if_true, if_false, List.toList_toArray, List.size_toArray, beq_self_eq_true, Bool.true_eq_false, Bool.false_eq_true, forall_const, false_implies, implies_true, undef, IntKind.bits, List.drop_zero, List.drop_succ_cons, List.take_succ_cons, List.take_zero, List.length_cons, List.length_nil, List.set_cons_zero, List.set_cons_succ, List.head?_cons, List.all_cons, List.all_nil, List.replicate_succ, List.replicate_zero, Bool.and_true, Bool.and_self, Value.oneCell', Bool.true_and, Bool.or_true, Bool.or_false, Bool.not_true, Bool.not_false, ti105, ti63, ti3, ti4, ti9, ti116, ti5, dl_idf, dl_ln, dl_one, k0, k1, k3, k4, k5, k6, g0, gi, z, isByte, bs_dig, bs_append, bs_size, List.length_map, List.length_reverse]; refine hK _ _ ?_; clear hK K) | (refine aw_skip ?_; try simp (disch := omega) only [↓core, ↓List.getElem?_toArray, ↓List.getElem?_cons_succ, ↓List.getElem?_cons_zero, ↓onO_some, more, xbuild, if_pos, if_neg, onO_some, onO_none, onV_eq, xbuiltin, xlen, xload, loadA, xstore, spl, xfield, xindexAddr, xindex, xslice, bnd, xbin, xint, xshift, xstr, xeq, xun, xconv, xmake, xappend, xsrc, xbuildSlice, fillA, xminmax, gval, isK, mapM_nil_o, mapM_cons_o, AV.cells, AV.boxable, AV.one, TI.agg, resA, retA, zrow_one, eq_self, List.map, List.map_cons, List.map_nil, Option.map_some, Option.map_none, Option.bind_some, Option.bind_none, ↓reduceIte, Nat.reduceLT, Nat.reduceEqDiff, Nat.reduceAdd, Nat.reduceMul, Nat.mul_one, Nat.reduceLeDiff, decide_true, decide_false, true_and, and_true, if_true, if_false, List.toList_toArray, List.size_toArray, beq_self_eq_true, Bool.true_eq_false, Bool.false_eq_true, forall_const, false_implies, implies_true, undef, IntKind.bits, List.drop_zero, List.drop_succ_cons, List.take_succ_cons, List.take_zero, List.length_cons, List.length_nil, List.set_cons_zero, List.set_cons_succ, List.head?_cons, List.all_cons, List.all_nil, List.replicate_succ, List.replicate_zero, Bool.and_true, Bool.and_self, Value.oneCell', Bool.true_and, Bool.or_true, Bool.or_false, Bool.not_true, Bool.not_false, ti105, ti63, ti3, ti4, ti9, ti116, ti5, dl_idf, dl_ln, dl_one, k0, k1, k3, k4, k5, k6, g0, gi, z, isByte, bs_dig, bs_append, bs_size, List.length_map, List.length_reverse]) | (refine aw_exit ?_; try simp (disch := omega) only [↓core, ↓List.getElem?_toArray, ↓List.getElem?_cons_succ, ↓List.getElem?_cons_zero, ↓onO_some, more, xbuild, if_pos, if_neg, onO_some, onO_none, onV_eq, xbuiltin, xlen, xload, loadA, xstore, spl, xfield, xindexAddr, xindex, xslice, bnd, xbin, xint, xshift, xstr, xeq, xun, xconv, xmake, xappend, xsrc, xbuildSlice, fillA, xminmax, gval, isK, mapM_nil_o, mapM_cons_o, AV.cells, AV.boxable, AV.one, TI.agg, resA, retA, zrow_one, eq_self, List.map, List.map_cons, List.map_nil, Option.map_some, Option.map_none, Option.bind_some, Option.bind_none, ↓reduceIte, Nat.reduceLT, Nat.reduceEqDiff, Nat.reduceAdd, Nat.reduceMul, Nat.mul_one, Nat.reduceLeDiff, decide_true, decide_false, true_and, and_true, if_true, if_false, List.toList_toArray, List.size_toArray, beq_self_eq_true, Bool.true_eq_false, Bool.false_eq_true, forall_const, false_implies, implies_true, undef, IntKind.bits, List.drop_zero, List.drop_succ_cons, List.take_succ_cons, List.take_zero, List.length_cons, List.length_nil, List.set_cons_zero, List.set_cons_succ, List.head?_cons, List.all_cons, List.all_nil, List.replicate_succ, List.replicate_zero, Bool.and_true, Bool.and_self, Value.oneCell', Bool.true_and, Bool.or_true, Bool.or_false, Bool.not_true, Bool.not_false, ti105, ti63, ti3, ti4, ti9, ti116, ti5, dl_idf, dl_ln, dl_one, k0, k1, k3, k4, k5, k6, g0, gi, z, isByte, bs_dig, bs_append, bs_size, List.length_map, List.length_reverse]) | (refine aw_ret ?_; try simp (disch := omega) only [↓core, ↓List.getElem?_toArray, ↓List.getElem?_cons_succ, ↓List.getElem?_cons_zero, ↓onO_some, more, xbuild, if_pos, if_neg, onO_some, onO_none, onV_eq, xbuiltin, xlen, xload, loadA, xstore, spl, xfield, xindexAddr, xindex, xslice, bnd, xbin, xint, xshift, xstr, xeq, xun, xconv, xmake, xappend, xsrc, xbuildSlice, fillA, xminmax, gval, isK, mapM_nil_o, mapM_cons_o, AV.cells, AV.boxable, AV.one, TI.agg, resA, retA, zrow_one, eq_self, List.map, List.map_cons, List.map_nil, Option.map_some, Option.map_none, Option.bind_some, Option.bind_none, ↓reduceIte, Nat.reduceLT, Nat.reduceEqDiff, Nat.reduceAdd, Nat.reduceMul, Nat.mul_one, Nat.reduceLeDiff, decide_true, decide_false, true_and, and_true, if_true, if_false, List.toList_toArray, List.size_toArray, beq_self_eq_true, Bool.true_eq_false, Bool.false_eq_true, forall_const, false_implies, implies_true, undef, IntKind.bits, List.drop_zero, List.drop_succ_cons, List.take_succ_cons, List.take_zero, List.length_cons, List.length_nil, List.set_cons_zero, List.set_cons_succ, List.head?_cons, List.all_cons, List.all_nil, List.replicate_succ, List.replicate_zero, Bool.and_true, Bool.and_self, Value.oneCell', Bool.true_and, Bool.or_true, Bool.or_false, Bool.not_true, Bool.not_false, ti105, ti63, ti3, ti4, ti9, ti116, ti5, dl_idf, dl_ln, dl_one, k0, k1, k3, k4, k5, k6, g0, gi, z, isByte, bs_dig, bs_append, bs_size, List.length_map, List.length_reverse]))
            simp only [block_normal, loop_normal]; refine ⟨V / 10, Nat.div_lt_self hV (by decide), dn ++ [c], es, ?_⟩
            constructor
            · constructor <;> (try (first | refine rn (cj rTI (cj @dl_idf (cj @dl_ln (cj @dl_one (cj @k0 (cj @k1 (cj @k3 (cj @k4 (cj @k5 (cj @k6 (cj @g0 (cj @gi @z)))))))))))) ?_ | exact rn0 (cj rTI (cj @dl_idf (cj @dl_ln (cj @dl_one (cj @k0 (cj @k1 (cj @k3 (cj @k4 (cj @k5 (cj @k6 (cj @g0 (cj @gi @z))))))))))))))
              all_goals (first | exact shz | (intro i hi; (first | refine rn (hJ.fr i hi) ?_ | exact rn0 (hJ.fr i hi))) | skip)
              · simp
              · exact Nat.le_trans (ln_mono (Nat.div_le_self _ _)) hJ.lv
              · rw [ha, List.append_assoc]; rfl
            · exact htk
      · refine go (cj rTI (cj @dl_idf (cj @dl_ln (cj @dl_one (cj @k0 (cj @k1 (cj @k3 (cj @k4 (cj @g0 (cj @gi @z)))))))))) ?_
        refine ifs ?_ ?_ <;> first | exact nope | intro hb
        refine go (cj rTI (cj @dl_idf (cj @dl_ln (cj @dl_one (cj @k0 (cj @k1 (cj @k3 (cj @k4 (cj @g0 (cj @gi @z)))))))))) ?_
        have ha := hO.all
        rw [show V = 0 by omega, digs_zero, List.append_nil] at ha
        have hdz2 : decZ x = (if b = true then [45] else []) ++ dn.reverse.map fun d => 48 + d := by rw [hdz, dec, ha]
        have hsz : dn.length ≤ 5 * ln N := by rw [← ha]; exact l6
        rw [hdz2]
        cases b
        · refine ifs ?_ ?_ <;> first | exact nope | intro hb
          refine go (cj rTI (cj @dl_idf (cj @dl_ln (cj @dl_one (cj @k0 (cj @k1 (cj @k3 (cj @k4 (cj @g0 (cj @gi @z)))))))))) ?_
          (repeat' refine And.intro ?_ ?_) <;> first | exact rfl | (intro i hi; exact rn0 (hO.fr i hi)) | skip
        · refine ifs ?_ ?_ <;> first | exact nope | intro hb
          refine go (cj rTI (cj @dl_idf (cj @dl_ln (cj @dl_one (cj @k0 (cj @k1 (cj @k3 (cj @k4 (cj @g0 (cj @gi (cj @z (cj (show ByteArray.mk #[45] = bs [45] from rfl) (cj @bs_append (cj @bs_size (cj rlm rlr))))))))))))))) ?_
          (repeat' refine And.intro ?_ ?_) <;> first | exact rfl | (intro i hi; exact rn0 (hO.fr i hi)) | skip
end Go.Proofs.YtfjelkjlfcafgaaGreatDoor.RefJ
end
section
/- The document's fractions (layer 2). -/
namespace Go.Proofs.YtfjelkjlfcafgaaGreatDoor.RefK
open Go Go.RowKit Go.Proofs.YtfjelkjlfcafgaaGreatDoor.Ax Go.Proofs.YtfjelkjlfcafgaaGreatDoor.Ti Go.Proofs.YtfjelkjlfcafgaaGreatDoor.BigM Go.Proofs.YtfjelkjlfcafgaaGreatDoor.RefA Go.Proofs.YtfjelkjlfcafgaaGreatDoor.RefB Go.Proofs.YtfjelkjlfcafgaaGreatDoor.RefC Go.Proofs.YtfjelkjlfcafgaaGreatDoor.RefD Go.Proofs.YtfjelkjlfcafgaaGreatDoor.RefE Go.Proofs.YtfjelkjlfcafgaaGreatDoor.RefF Go.Proofs.YtfjelkjlfcafgaaGreatDoor.RefG Go.Proofs.YtfjelkjlfcafgaaGreatDoor.RefH Go.Proofs.YtfjelkjlfcafgaaGreatDoor.RefI Go.Proofs.YtfjelkjlfcafgaaGreatDoor.RefJ
set_option linter.unusedSimpArgs false
set_option linter.unusedVariables false
set_option maxRecDepth 4000
theorem rTI : type_of% (cj @ti124 (cj @ti105 (cj @ti63 (cj @ti3 @ti4)))) := cj @ti124 (cj @ti105 (cj @ti63 (cj @ti3 @ti4)))
def ng (z : Int) : Bool := decide (z < 0)
def FA (n d : Int) : AV := .ag [.v (.bool (ng n)), .sl (lz n) (DL (digs B n.natAbs)), .v (.bool (ng d)), .sl (lz d) (DL (digs B d.natAbs))]
theorem NI_eq (z : Int) : NI z = .ag [.v (.bool (ng z)), .sl (lz z) (DL (digs B z.natAbs))] := rfl
def low (n d : Int) : Int × Int := if d < 0 then ((-n).tdiv (Nat.gcd n.natAbs d.natAbs), (-d).tdiv (Nat.gcd n.natAbs d.natAbs)) else (n.tdiv (Nat.gcd n.natAbs d.natAbs), d.tdiv (Nat.gcd n.natAbs d.natAbs))
theorem sgn_lt (z : Int) : sgn z < 0 ↔ z < 0 := by unfold sgn; split <;> (try split) <;> omega
theorem lz_gcd (n d : Int) (hd : d ≠ 0) : lz (Nat.gcd n.natAbs d.natAbs : Nat) ≤ lz d := ln_mono (Nat.le_of_dvd (by omega) (Nat.gcd_dvd_right _ _))
structure LowI (s : St) (n d : Int) (e : Env) (s' : St) : Prop where
  en : e.n = 35
  e2 : e.m 2 = .ptr s.nx 0
  e3 : e.m 3 = .ptr (s.nx + 1) 0
  e4 : e.m 4 = .ptr (s.nx + 2) 0
  g0 : s'.get s.nx = some [.v (.bool (ng n)), .sl (lz n) (DL (digs B n.natAbs))]
  g1 : s'.get (s.nx + 1) = some [.v (.bool (ng d)), .sl (lz d) (DL (digs B d.natAbs))]
  g2 : s'.get (s.nx + 2) = some [.v (.bool false), .v (.slice none 0 0), .v (.bool false), .v (.slice none 0 0)]
  hi : s.nx + 3 ≤ s'.nx
  fr : ∀ i, i < s.nx → s'.get i = s.get i
set_option maxHeartbeats 2000000 in
theorem lowest_ax (n d : Int) (hd : d ≠ 0) (ln' : lz n ≤ 274877906944) (ld : lz d ≤ 274877906944) : PCall Tryz.prog 128 [NI n, NI d] (FA (low n d).1 (low n d).2) := by
  have p0 := sign_ax d
  have p1 := minusN_ax n
  have p2 := minusN_ax d
  have hsg := sgn_lt d
  refine pcall_of fun s => ?_
  refine acall_of Tryz.func128 rfl rfl (by simp [Tryz.ntmps128]) ?_; rw [Tryz.ntmps128, Tryz.results128]
  by_cases hneg : d < 0
  · rw [show low n d = ((-n).tdiv (Nat.gcd (-n).natAbs (-d).natAbs), (-d).tdiv (Nat.gcd (-n).natAbs (-d).natAbs)) by unfold low; rw [if_pos hneg, Int.natAbs_neg, Int.natAbs_neg]]
    have hg := Nat.gcd_pos_of_pos_right (-n).natAbs (n := (-d).natAbs) (by omega)
    have p3 := commonN_ax (-n) (-d) (by rw [lz_neg]; exact ln') (by rw [lz_neg]; exact ld)
    have p4 := divideN_ax (-n) (Nat.gcd (-n).natAbs (-d).natAbs) (by omega) (by rw [lz_neg]; omega) (Nat.le_trans (lz_gcd (-n) (-d) (by omega)) (by rw [lz_neg]; exact ld))
    have p5 := divideN_ax (-d) (Nat.gcd (-n).natAbs (-d).natAbs) (by omega) (by rw [lz_neg]; omega) (Nat.le_trans (lz_gcd (-n) (-d) (by omega)) (by rw [lz_neg]; exact ld))
    simp only [NI_eq] at p0 p1 p2 p3 p4 p5 ⊢
    unfold FA
    refine go (cj rTI (cj @dl_idf (cj @dl_ln @dl_one))) ?_
    refine aw_reg fun K hK => ?_; refine rn (cj rTI (cj @dl_idf (cj @dl_ln @dl_one))) ?_; refine cont_pure p0 ?_; refine rn (cj rTI (cj @dl_idf (cj @dl_ln @dl_one))) ?_; refine hK _ _ ?_; clear hK K
    refine ifs ?_ ?_ <;> first | exact nope | intro hb
    refine aw_drw (.two 0 (.two 1 (.one 2 (.one 3 (.one 4 (.one 5 (.done))))) 2 (.one 1 (.one 3 (.one 4 (.one 5 (.done)))))) 2 (.one 0 (.one 1 (.one 3 (.one 4 (.one 5 (.done))))))) [] (by kernel_rfl) (by kernel_rfl) fun K hK => ?_; refine dr (cj rTI (cj @dl_idf (cj @dl_ln @dl_one))) ?_; skip
    have hK2 : ∀ (e : Env) (s' : St), LowI s (-n) (-d) e s' → K e s' := by
      intro e s' hI
      refine hK e s' ?_
      clear hK
      have k0 := hI.en
      have k2 := hI.e2
      have k3 := hI.e3
      have k4 := hI.e4
      have g0 := hI.g0
      have g1 := hI.g1
      have g2 := hI.g2
      have hi := hI.hi
      refine rn trivial ?_
      refine go trivial ?_
      refine aw_reg fun K hK => ?_; refine rn (cj rTI (cj @dl_idf (cj @dl_ln (cj @dl_one (cj @k0 (cj @k2 (cj @k3 (cj @k4 (cj @g0 (cj @g1 @g2)))))))))) ?_; refine cont_pure p3 ?_; refine rn (cj rTI (cj @dl_idf (cj @dl_ln (cj @dl_one (cj @k0 (cj @k2 (cj @k3 (cj @k4 (cj @g0 (cj @g1 @g2)))))))))) ?_; refine hK _ _ ?_; clear hK K
      refine go trivial ?_
      refine aw_reg fun K hK => ?_; refine rn (cj rTI (cj @dl_idf (cj @dl_ln (cj @dl_one (cj @k0 (cj @k2 (cj @k3 (cj @k4 (cj @g0 (cj @g1 @g2)))))))))) ?_; refine cont_pure p4 ?_; refine rn (cj rTI (cj @dl_idf (cj @dl_ln (cj @dl_one (cj @k0 (cj @k2 (cj @k3 (cj @k4 (cj @g0 (cj @g1 @g2)))))))))) ?_; refine hK _ _ ?_; clear hK K
      refine go trivial ?_
      refine aw_reg fun K hK => ?_; refine rn (cj rTI (cj @dl_idf (cj @dl_ln (cj @dl_one (cj @k0 (cj @k2 (cj @k3 (cj @k4 (cj @g0 (cj @g1 @g2)))))))))) ?_; refine cont_pure p5 ?_; refine rn (cj rTI (cj @dl_idf (cj @dl_ln (cj @dl_one (cj @k0 (cj @k2 (cj @k3 (cj @k4 (cj @g0 (cj @g1 @g2)))))))))) ?_; refine hK _ _ ?_; clear hK K
      refine go (cj rTI (cj @dl_idf (cj @dl_ln (cj @dl_one (cj @k0 (cj @k2 (cj @k3 (cj @k4 (cj @g0 (cj @g1 @g2)))))))))) ?_
      (repeat' refine And.intro ?_ ?_) <;> first | exact rfl | (intro i hi; exact rn0 (hI.fr i hi)) | skip
    have fin : ∀ (e : Env) (s' : St), e.n = 35 → e.m 2 = .ptr s.nx 0 → e.m 3 = .ptr (s.nx + 1) 0 → e.m 4 = .ptr (s.nx + 2) 0 → s'.get s.nx = some [.v (.bool (ng (-n))), .sl (lz (-n)) (DL (digs B (-n).natAbs))] →
        s'.get (s.nx + 1) = some [.v (.bool (ng (-d))), .sl (lz (-d)) (DL (digs B (-d).natAbs))] → s'.get (s.nx + 2) = some [.v (.bool false), .v (.slice none 0 0), .v (.bool false), .v (.slice none 0 0)] → s.nx + 3 ≤ s'.nx → (∀ i, i < s.nx → s'.get i = s.get i) → K e s' :=
      fun e s' q0 q1 q2 q3 q4 q5 q6 q7 q8 => hK2 e s' ⟨q0, q1, q2, q3, q4, q5, q6, q7, q8⟩
    refine ⟨⟨?_, ?_⟩, ?_⟩ <;> (refine cont_pure p1 ?_; refine dr (cj rTI (cj @dl_idf (cj @dl_ln @dl_one))) ?_; refine cont_pure p2 ?_; refine dr (cj rTI (cj @dl_idf (cj @dl_ln @dl_one))) ?_; apply fin <;> (try (first | refine rn trivial ?_ | exact rn0 trivial)))
    all_goals (all_goals (first | exact shz | (intro i hi; (first | refine rn trivial ?_ | exact rn0 trivial)) | skip))
  · rw [show low n d = (n.tdiv (Nat.gcd n.natAbs d.natAbs), d.tdiv (Nat.gcd n.natAbs d.natAbs)) by unfold low; rw [if_neg hneg]]
    have hg := Nat.gcd_pos_of_pos_right n.natAbs (n := d.natAbs) (by omega)
    have p3 := commonN_ax n d ln' ld
    have p4 := divideN_ax n (Nat.gcd n.natAbs d.natAbs) (by omega) (by omega) (Nat.le_trans (lz_gcd n d hd) ld)
    have p5 := divideN_ax d (Nat.gcd n.natAbs d.natAbs) (by omega) (by omega) (Nat.le_trans (lz_gcd n d hd) ld)
    simp only [NI_eq] at p0 p1 p2 p3 p4 p5 ⊢
    unfold FA
    refine go (cj rTI (cj @dl_idf (cj @dl_ln @dl_one))) ?_
    refine aw_reg fun K hK => ?_; refine rn (cj rTI (cj @dl_idf (cj @dl_ln @dl_one))) ?_; refine cont_pure p0 ?_; refine rn (cj rTI (cj @dl_idf (cj @dl_ln @dl_one))) ?_; refine hK _ _ ?_; clear hK K
    refine ifs ?_ ?_ <;> first | exact nope | intro hb
    refine go (cj rTI (cj @dl_idf (cj @dl_ln @dl_one))) ?_
    refine aw_reg fun K hK => ?_; refine rn (cj rTI (cj @dl_idf (cj @dl_ln @dl_one))) ?_; refine cont_pure p3 ?_; refine rn (cj rTI (cj @dl_idf (cj @dl_ln @dl_one))) ?_; refine hK _ _ ?_; clear hK K
    refine go (cj rTI (cj @dl_idf (cj @dl_ln @dl_one))) ?_
    refine aw_reg fun K hK => ?_; refine rn (cj rTI (cj @dl_idf (cj @dl_ln @dl_one))) ?_; refine cont_pure p4 ?_; refine rn (cj rTI (cj @dl_idf (cj @dl_ln @dl_one))) ?_; refine hK _ _ ?_; clear hK K
    refine go (cj rTI (cj @dl_idf (cj @dl_ln @dl_one))) ?_
    refine aw_reg fun K hK => ?_; refine rn (cj rTI (cj @dl_idf (cj @dl_ln @dl_one))) ?_; refine cont_pure p5 ?_; refine rn (cj rTI (cj @dl_idf (cj @dl_ln @dl_one))) ?_; refine hK _ _ ?_; clear hK K
    refine go (cj rTI (cj @dl_idf (cj @dl_ln @dl_one))) ?_
    (repeat' refine And.intro ?_ ?_) <;> first | exact rfl | exact fnz trivial | skip

theorem lz_small (z : Int) (h1 : -9223372036854775808 ≤ z) (h2 : z ≤ 9223372036854775807) : lz z ≤ 4 := (ln_lt _ 4).1 (by unfold B; omega)
theorem heldF_ax (a b c d : Int) (ha : lz a ≤ 68719476736) (hb' : lz b ≤ 68719476736) (hc : lz c ≤ 68719476736) (hd : lz d ≤ 68719476736) : PCall Tryz.prog 77 [FA a b, FA c d] (.v (.int .i64 (sgn (a * d - c * b)))) := by
  refine pcall_of fun s => ?_
  refine acall_of Tryz.func77 rfl rfl (by simp [Tryz.ntmps77]) ?_; rw [Tryz.ntmps77, Tryz.results77]
  have l1 := lz_mul a d
  have l2 := lz_mul c b
  have p0 := timesN_ax a d (by omega)
  have p1 := timesN_ax c b (by omega)
  have p2 := heldN_ax (a * d) (c * b) (by omega) (by omega)
  unfold FA
  simp only [NI_eq] at p0 p1 p2
  refine go (cj rTI (cj @dl_idf (cj @dl_ln @dl_one))) ?_
  refine aw_drw (.take 0 (.take 1 (.take 2 (.take 3 (.take 5 (.take 6 (.take 7 (.take 8 (.one 4 (.one 9 (.one 10 (.take 11 (.done))))))))))))) [s.nx, s.nx + 1] (by kernel_rfl) (by kernel_rfl) fun K hK => ?_; refine dr (cj rTI (cj @dl_idf (cj @dl_ln @dl_one))) ?_; refine cont_pure p0 ?_; refine dr (cj rTI (cj @dl_idf (cj @dl_ln @dl_one))) ?_; refine cont_pure p1 ?_; refine dr (cj rTI (cj @dl_idf (cj @dl_ln @dl_one))) ?_; refine cont_pure p2 ?_; refine dr (cj rTI (cj @dl_idf (cj @dl_ln @dl_one))) ?_; refine hK _ _ ?_; clear hK K
  refine go (cj rTI (cj @dl_idf (cj @dl_ln @dl_one))) ?_
  (repeat' refine And.intro ?_ ?_) <;> first | exact rfl | exact fnz trivial | skip
end Go.Proofs.YtfjelkjlfcafgaaGreatDoor.RefK
end
section
/- The document's fractions (layer 2): to the nearest whole number. -/
namespace Go.Proofs.YtfjelkjlfcafgaaGreatDoor.RefL
open Go Go.RowKit Go.Proofs.YtfjelkjlfcafgaaGreatDoor.Ax Go.Proofs.YtfjelkjlfcafgaaGreatDoor.Ti Go.Proofs.YtfjelkjlfcafgaaGreatDoor.BigM Go.Proofs.YtfjelkjlfcafgaaGreatDoor.RefA Go.Proofs.YtfjelkjlfcafgaaGreatDoor.RefB Go.Proofs.YtfjelkjlfcafgaaGreatDoor.RefC Go.Proofs.YtfjelkjlfcafgaaGreatDoor.RefD Go.Proofs.YtfjelkjlfcafgaaGreatDoor.RefE Go.Proofs.YtfjelkjlfcafgaaGreatDoor.RefF Go.Proofs.YtfjelkjlfcafgaaGreatDoor.RefG Go.Proofs.YtfjelkjlfcafgaaGreatDoor.RefH Go.Proofs.YtfjelkjlfcafgaaGreatDoor.RefI Go.Proofs.YtfjelkjlfcafgaaGreatDoor.RefJ Go.Proofs.YtfjelkjlfcafgaaGreatDoor.RefK
set_option linter.unusedSimpArgs false
set_option linter.unusedVariables false
set_option maxRecDepth 4000
theorem rTI : type_of% (cj @ti124 (cj @ti105 (cj @ti63 (cj @ti3 @ti4)))) := cj @ti124 (cj @ti105 (cj @ti63 (cj @ti3 @ti4)))
theorem lz_le {a b : Int} (h : a.natAbs ≤ b.natAbs) : lz a ≤ lz b := ln_mono h
end Go.Proofs.YtfjelkjlfcafgaaGreatDoor.RefL
end
section
/- The document's numbers (layer 3): valid, the value. -/
namespace Go.Proofs.YtfjelkjlfcafgaaGreatDoor.RefM
open Go Go.RowKit Go.Proofs.YtfjelkjlfcafgaaGreatDoor.Ax Go.Proofs.YtfjelkjlfcafgaaGreatDoor.Ti Go.Proofs.YtfjelkjlfcafgaaGreatDoor.BigM Go.Proofs.YtfjelkjlfcafgaaGreatDoor.RefA Go.Proofs.YtfjelkjlfcafgaaGreatDoor.RefB Go.Proofs.YtfjelkjlfcafgaaGreatDoor.RefC Go.Proofs.YtfjelkjlfcafgaaGreatDoor.RefD Go.Proofs.YtfjelkjlfcafgaaGreatDoor.RefE Go.Proofs.YtfjelkjlfcafgaaGreatDoor.RefF Go.Proofs.YtfjelkjlfcafgaaGreatDoor.RefG Go.Proofs.YtfjelkjlfcafgaaGreatDoor.RefH Go.Proofs.YtfjelkjlfcafgaaGreatDoor.RefI Go.Proofs.YtfjelkjlfcafgaaGreatDoor.RefJ Go.Proofs.YtfjelkjlfcafgaaGreatDoor.RefK Go.Proofs.YtfjelkjlfcafgaaGreatDoor.RefL
set_option maxHeartbeats 2000000
set_option linter.unusedSimpArgs false
set_option linter.unusedVariables false
set_option maxRecDepth 4000
theorem rTI : type_of% (cj @ti124 (cj @ti105 (cj @ti63 (cj @ti3 @ti4)))) := cj @ti124 (cj @ti105 (cj @ti63 (cj @ti3 @ti4)))
theorem rTN : type_of% (cj @ti24 (cj @ti2 (cj @ti124 (cj @ti105 (cj @ti63 (cj @ti3 @ti4)))))) := cj @ti24 (cj @ti2 (cj @ti124 (cj @ti105 (cj @ti63 (cj @ti3 @ti4)))))
def NM (m k : Int) : AV := .ag [.v (.int .i64 m), .v (.int .i64 k)]
def validN (m k : Int) : Bool := if m.tmod 10 = 0 then decide (m = 0) && decide (k = 0) else decide (m ≤ 999999999) && decide (-999999999 ≤ m) && decide (k ≤ 9) && decide (-18 ≤ k)
theorem valid_ax (m k : Int) : PCall Tryz.prog 16 [NM m k] (.v (.bool (validN m k))) := by
  refine pcall_of fun s => ?_
  refine acall_of Tryz.func16 rfl rfl (by simp [Tryz.ntmps16]) ?_; rw [Tryz.ntmps16, Tryz.results16]
  unfold NM validN
  by_cases h0 : m = 0
  · subst h0
    by_cases hk : k = 0
    · refine go (cj rTN (cj @dl_idf (cj @dl_ln @dl_one))) ?_
      refine ifs ?_ ?_ <;> first | exact nope | intro hb
      refine go (cj rTN (cj @dl_idf (cj @dl_ln @dl_one))) ?_
      (repeat' refine And.intro ?_ ?_) <;> first | exact rfl | exact fnz trivial | skip
    · refine go (cj rTN (cj @dl_idf (cj @dl_ln @dl_one))) ?_
      refine ifs ?_ ?_ <;> first | exact nope | intro hb
      refine go (cj rTN (cj @dl_idf (cj @dl_ln @dl_one))) ?_
      (repeat' refine And.intro ?_ ?_) <;> first | exact rfl | exact fnz trivial | skip
  · by_cases h1 : m.tmod 10 = 0
    · rw [if_pos h1]
      refine go (cj rTN (cj @dl_idf (cj @dl_ln (cj @dl_one @h1)))) ?_
      refine ifs ?_ ?_ <;> first | exact nope | intro hb
      refine go (cj rTN (cj @dl_idf (cj @dl_ln @dl_one))) ?_
      (repeat' refine And.intro ?_ ?_) <;> first | exact rfl | exact fnz trivial | skip
    · rw [if_neg h1]
      have h2 : (m.tmod 10 == 0) = false := beq_eq_false_iff_ne.2 h1
      refine go (cj rTN (cj @dl_idf (cj @dl_ln (cj @dl_one @h2)))) ?_
      refine ifs ?_ ?_ <;> first | exact nope | intro hb
      by_cases c1 : m ≤ 999999999
      · by_cases c2 : -999999999 ≤ m
        · by_cases c3 : k ≤ 9
          · refine go (cj rTN (cj @dl_idf (cj @dl_ln @dl_one))) ?_
            (repeat' refine And.intro ?_ ?_) <;> first | exact rfl | exact fnz trivial | skip
          · refine go (cj rTN (cj @dl_idf (cj @dl_ln @dl_one))) ?_
            (repeat' refine And.intro ?_ ?_) <;> first | exact rfl | exact fnz trivial | skip
        · refine go (cj rTN (cj @dl_idf (cj @dl_ln @dl_one))) ?_
          (repeat' refine And.intro ?_ ?_) <;> first | exact rfl | exact fnz trivial | skip
      · refine go (cj rTN (cj @dl_idf (cj @dl_ln @dl_one))) ?_
        (repeat' refine And.intro ?_ ?_) <;> first | exact rfl | exact fnz trivial | skip

structure PowI (s : St) (k i : Nat) (e : Env) (s' : St) : Prop where
  en : e.n = 15
  e0 : e.m 0 = .v (.int .i64 k)
  e2 : e.m 2 = .ptr s.nx 0
  e3 : e.m 3 = .ptr (s.nx + 1) 0
  e4 : e.m 4 = .v (.int .i64 i)
  g0 : s'.get s.nx = some [.v (.bool false), .v (.slice none 0 0)]
  g1 : s'.get (s.nx + 1) = some [.v (.bool (ng (10 ^ i : Nat))), .sl (lz (10 ^ i : Nat)) (DL (digs B (10 ^ i)))]
  hi : s.nx + 2 ≤ s'.nx
  fr : ∀ i, i < s.nx → s'.get i = s.get i
  il : i ≤ k
theorem power_ax (k : Nat) (hk : k ≤ 1000000) : PCall Tryz.prog 129 [.v (.int .i64 k)] (NI (10 ^ k : Nat)) := by
  refine pcall_of fun s => ?_
  refine acall_of Tryz.func129 rfl rfl (by simp [Tryz.ntmps129]) ?_; rw [Tryz.ntmps129, Tryz.results129]
  have p1 := small_ax 1 (by omega) (by omega)
  have p10 := small_ax 10 (by omega) (by omega)
  have l10 : lz 10 ≤ 4 := lz_small 10 (by omega) (by omega)
  have lp : ∀ i : Nat, lz (10 ^ i : Nat) ≤ i + 1 := fun i => (ln_lt _ _).1 (by
    rw [Int.natAbs_natCast]
    calc 10 ^ i ≤ B ^ i := Nat.pow_le_pow_left (by decide) _
      _ < B ^ (i + 1) := Nat.pow_lt_pow_right (by decide) (by omega))
  simp only [NI_eq] at p1 p10 ⊢
  refine go (cj rTN (cj @dl_idf (cj @dl_ln @dl_one))) ?_
  refine aw_reg fun K hK => ?_; refine rn (cj rTN (cj @dl_idf (cj @dl_ln @dl_one))) ?_; refine cont_pure p1 ?_; refine rn (cj rTN (cj @dl_idf (cj @dl_ln @dl_one))) ?_; refine hK _ _ ?_; clear hK K
  refine go (cj rTN (cj @dl_idf (cj @dl_ln @dl_one))) ?_
  refine aw_loop (fun n e s' => ∃ i, n = k - i ∧ PowI s k i e s') k ?_ ?_
  · refine ⟨0, by omega, ?_⟩
    constructor <;> (try (first | refine rn (cj rTN (cj @dl_idf (cj @dl_ln @dl_one))) ?_ | exact rn0 (cj rTN (cj @dl_idf (cj @dl_ln @dl_one)))))
    all_goals (first | exact shz | (intro i hi; (first | refine rn trivial ?_ | exact rn0 trivial)) | skip)
  · rintro n e s' ⟨i, hn, hI⟩
    have k0 := hI.en
    have k1 := hI.e0
    have k2 := hI.e2
    have k3 := hI.e3
    have k4 := hI.e4
    have g0 := hI.g0
    have g1 := hI.g1
    have hi := hI.hi
    have il := hI.il
    have pt := timesN_ax (10 ^ i : Nat) 10 (by have := lp i; omega)
    rw [show ((10 ^ i : Nat) : Int) * 10 = ((10 ^ (i + 1) : Nat) : Int) by rw [Nat.pow_succ]; omega] at pt
    simp only [NI_eq, Int.natAbs_natCast] at pt
    by_cases h : i < k
    · refine go (cj rTN (cj @dl_idf (cj @dl_ln (cj @dl_one (cj @k0 (cj @k1 (cj @k2 (cj @k3 (cj @k4 (cj @g0 @g1)))))))))) ?_
      refine ifs ?_ ?_ <;> first | exact nope | intro hb
      refine go (cj rTN (cj @dl_idf (cj @dl_ln (cj @dl_one (cj @k0 (cj @k1 (cj @k2 (cj @k3 (cj @k4 (cj @g0 @g1)))))))))) ?_
      refine aw_drw (.two 0 (.one 1 (.one 2 (.one 3 (.done)))) 1 (.one 0 (.one 2 (.one 3 (.done))))) [] (by kernel_rfl) (by kernel_rfl) fun K hK => ?_; refine dr (cj rTN (cj @dl_idf (cj @dl_ln (cj @dl_one (cj @k0 (cj @k1 (cj @k2 (cj @k3 (cj @k4 (cj @g0 @g1)))))))))) ?_; skip
      refine ⟨?_, ?_⟩
      all_goals (refine cont_pure p10 ?_; refine dr (cj rTN (cj @dl_idf (cj @dl_ln (cj @dl_one (cj @k0 (cj @k1 (cj @k2 (cj @k3 (cj @k4 (cj @g0 @g1)))))))))) ?_; refine cont_pure pt ?_; refine dr (cj rTN (cj @dl_idf (cj @dl_ln (cj @dl_one (cj @k0 (cj @k1 (cj @k2 (cj @k3 (cj @k4 (cj @g0 @g1)))))))))) ?_; refine hK _ _ ?_; clear hK K; refine go (cj rTN (cj @dl_idf (cj @dl_ln (cj @dl_one (cj @k0 (cj @k1 (cj @k2 (cj @k3 (cj @k4 (cj @g0 @g1)))))))))) ?_)
      all_goals (simp only [block_normal, loop_normal]; refine ⟨k - (i + 1), by omega, i + 1, rfl, ?_⟩)
      all_goals (constructor <;> (try (first | refine rn (cj rTN (cj @dl_idf (cj @dl_ln (cj @dl_one (cj @k0 (cj @k1 (cj @k2 (cj @k3 (cj @k4 (cj @g0 @g1)))))))))) ?_ | exact rn0 (cj rTN (cj @dl_idf (cj @dl_ln (cj @dl_one (cj @k0 (cj @k1 (cj @k2 (cj @k3 (cj @k4 (cj @g0 @g1)))))))))))))
      all_goals (all_goals (first | exact shz | (intro i hi; (first | refine rn (hI.fr i hi) ?_ | exact rn0 (hI.fr i hi))) | skip))
    · refine go (cj rTN (cj @dl_idf (cj @dl_ln (cj @dl_one (cj @k0 (cj @k1 (cj @k2 (cj @k3 (cj @k4 (cj @g0 @g1)))))))))) ?_
      refine ifs ?_ ?_ <;> first | exact nope | intro hb
      refine go (cj rTN (cj @dl_idf (cj @dl_ln (cj @dl_one (cj @k0 (cj @k1 (cj @k2 (cj @k3 (cj @k4 (cj @g0 @g1)))))))))) ?_
      obtain rfl : i = k := by omega
      (repeat' refine And.intro ?_ ?_) <;> first | exact rfl | (intro i hi; exact rn0 (cj (hI.fr i hi) @Int.natAbs_natCast)) | skip

def ofN (m k : Int) : Int × Int := if k < 0 then low m ((10 ^ (-k).toNat : Nat) : Int) else (m * ((10 ^ k.toNat : Nat) : Int), 1)
theorem lz_pow (i : Nat) : lz (10 ^ i : Nat) ≤ i + 1 := (ln_lt _ _).1 (by
  rw [Int.natAbs_natCast]
  calc 10 ^ i ≤ B ^ i := Nat.pow_le_pow_left (by decide) _
    _ < B ^ (i + 1) := Nat.pow_lt_pow_right (by decide) (by omega))
theorem ofN_ax (m k : Int) (m1 : -9223372036854775808 ≤ m) (m2 : m ≤ 9223372036854775807) (k1 : -1000 ≤ k) (k2 : k ≤ 1000) : PCall Tryz.prog 70 [NM m k] (FA (ofN m k).1 (ofN m k).2) := by
  refine pcall_of fun s => ?_
  refine acall_of Tryz.func70 rfl rfl (by simp [Tryz.ntmps70]) ?_; rw [Tryz.ntmps70, Tryz.results70]
  have p0 := wide_ax m m1 (by omega)
  have p1 := small_ax 1 (by omega) (by omega)
  have lm := lz_small m m1 m2
  unfold NM
  by_cases hk : k < 0
  · have pp := power_ax (-k).toNat (by omega)
    have lp := lz_pow (-k).toNat
    have h10 : ((10 ^ (-k).toNat : Nat) : Int) ≠ 0 := by
      have : 0 < 10 ^ (-k).toNat := Nat.pow_pos (by decide)
      omega
    have pl := lowest_ax m ((10 ^ (-k).toNat : Nat) : Int) h10 (by omega) (by omega)
    rw [show (((-k).toNat : Nat) : Int) = 0 - k by omega] at pp
    rw [show ofN m k = low m ((10 ^ (-k).toNat : Nat) : Int) by unfold ofN; rw [if_pos hk]]
    generalize ((10 ^ (-k).toNat : Nat) : Int) = u at *
    unfold FA at pl ⊢
    simp only [NI_eq] at p0 p1 pp pl ⊢
    refine go (cj rTN (cj @dl_idf (cj @dl_ln @dl_one))) ?_
    refine aw_reg fun K hK => ?_; refine rn (cj rTN (cj @dl_idf (cj @dl_ln @dl_one))) ?_; refine cont_pure p0 ?_; refine rn (cj rTN (cj @dl_idf (cj @dl_ln @dl_one))) ?_; refine hK _ _ ?_; clear hK K
    refine go (cj rTN (cj @dl_idf (cj @dl_ln @dl_one))) ?_
    refine ifs ?_ ?_ <;> first | exact nope | intro hb
    refine go (cj rTN (cj @dl_idf (cj @dl_ln @dl_one))) ?_
    refine aw_drw (.take 0 (.take 1 (.take 2 (.take 3 (.one 4 (.one 5 (.one 6 (.done)))))))) [s.nx, s.nx + 2] (by kernel_rfl) (by kernel_rfl) fun K hK => ?_; refine dr (cj rTN (cj @dl_idf (cj @dl_ln @dl_one))) ?_; refine cont_pure pp ?_; refine dr (cj rTN (cj @dl_idf (cj @dl_ln @dl_one))) ?_; refine cont_pure pl ?_; refine dr (cj rTN (cj @dl_idf (cj @dl_ln @dl_one))) ?_; refine hK _ _ ?_; clear hK K
    refine go (cj rTN (cj @dl_idf (cj @dl_ln @dl_one))) ?_
    (repeat' refine And.intro ?_ ?_) <;> first | exact rfl | exact fnz trivial | skip
  · have pp := power_ax k.toNat (by omega)
    have lp := lz_pow k.toNat
    have pt := timesN_ax m ((10 ^ k.toNat : Nat) : Int) (by omega)
    rw [show ((k.toNat : Nat) : Int) = k by omega] at pp
    rw [show ofN m k = (m * ((10 ^ k.toNat : Nat) : Int), 1) by unfold ofN; rw [if_neg hk]]
    generalize ((10 ^ k.toNat : Nat) : Int) = u at *
    unfold FA
    simp only [NI_eq] at p0 p1 pp pt ⊢
    refine go (cj rTN (cj @dl_idf (cj @dl_ln @dl_one))) ?_
    refine aw_reg fun K hK => ?_; refine rn (cj rTN (cj @dl_idf (cj @dl_ln @dl_one))) ?_; refine cont_pure p0 ?_; refine rn (cj rTN (cj @dl_idf (cj @dl_ln @dl_one))) ?_; refine hK _ _ ?_; clear hK K
    refine go (cj rTN (cj @dl_idf (cj @dl_ln @dl_one))) ?_
    refine ifs ?_ ?_ <;> first | exact nope | intro hb
    refine go (cj rTN (cj @dl_idf (cj @dl_ln @dl_one))) ?_
    refine aw_drw (.take 0 (.take 1 (.take 2 (.one 3 (.one 4 (.one 5 (.take 6 (.one 7 (.done))))))))) [s.nx, s.nx + 2] (by kernel_rfl) (by kernel_rfl) fun K hK => ?_; refine dr (cj rTN (cj @dl_idf (cj @dl_ln @dl_one))) ?_; refine cont_pure pp ?_; refine dr (cj rTN (cj @dl_idf (cj @dl_ln @dl_one))) ?_; refine cont_pure pt ?_; refine dr (cj rTN (cj @dl_idf (cj @dl_ln @dl_one))) ?_; refine cont_pure p1 ?_; refine dr (cj rTN (cj @dl_idf (cj @dl_ln @dl_one))) ?_; refine hK _ _ ?_; clear hK K
    refine go (cj rTN (cj @dl_idf (cj @dl_ln @dl_one))) ?_
    (repeat' refine And.intro ?_ ?_) <;> first | exact rfl | exact fnz trivial | skip

theorem validN_m (m k : Int) (h : validN m k = true) : -999999999 ≤ m ∧ m ≤ 999999999 ∧ -18 ≤ k ∧ k ≤ 9 := by
  unfold validN at h
  split at h
  · simp only [Bool.and_eq_true, decide_eq_true_eq] at h; omega
  · simp only [Bool.and_eq_true, decide_eq_true_eq] at h; omega
theorem lz_tdiv (a b : Int) : lz (a.tdiv b) ≤ lz a := lz_le (by rw [Int.natAbs_tdiv]; exact Nat.div_le_self _ _)
theorem ofN_lz (m k : Int) (m1 : -9223372036854775808 ≤ m) (m2 : m ≤ 9223372036854775807) (k1 : -1000 ≤ k) (k2 : k ≤ 1000) : lz (ofN m k).1 ≤ 1100 ∧ lz (ofN m k).2 ≤ 1100 := by
  have lm := lz_small m m1 m2
  have l1 := lz_small 1 (by omega) (by omega)
  unfold ofN low
  split
  · have lp := lz_pow (-k).toNat
    split
    · simp only
      refine ⟨Nat.le_trans (lz_tdiv _ _) ?_, Nat.le_trans (lz_tdiv _ _) ?_⟩
      · rw [lz_neg]; omega
      · rw [lz_neg]; omega
    · simp only
      refine ⟨Nat.le_trans (lz_tdiv _ _) ?_, Nat.le_trans (lz_tdiv _ _) ?_⟩
      · omega
      · omega
  · have lp := lz_pow k.toNat
    exact ⟨Nat.le_trans (lz_mul m _) (by omega), by simp only; omega⟩
def cmpNN (m k m' k' : Int) : AV := if validN m k = true ∧ validN m' k' = true then .tp [.v (.int .i64 (sgn ((ofN m k).1 * (ofN m' k').2 - (ofN m' k').1 * (ofN m k).2))), .v (.int .i64 0)] else .tp [.v (.int .i64 0), .v (.int .i64 30)]
theorem low_pos (n d : Int) (hd : d ≠ 0) : 0 < (low n d).2 := by
  have hg : 0 < Nat.gcd n.natAbs d.natAbs := Nat.gcd_pos_of_pos_right _ (by omega)
  have hdv : Nat.gcd n.natAbs d.natAbs ∣ d.natAbs := Nat.gcd_dvd_right _ _
  have hq : 0 < d.natAbs / Nat.gcd n.natAbs d.natAbs := Nat.div_pos (Nat.le_of_dvd (by omega) hdv) hg
  have key : ∀ e : Int, 0 < e → e.natAbs = d.natAbs → 0 < e.tdiv (Nat.gcd n.natAbs d.natAbs : Nat) := by
    intro e he hea
    rw [show e = ((d.natAbs : Nat) : Int) by omega, ← Int.ofNat_tdiv]
    omega
  unfold low
  split
  · exact key (-d) (by omega) (by omega)
  · exact key d (by omega) rfl
theorem ofN_pos (m k : Int) : 0 < (ofN m k).2 := by
  unfold ofN
  split
  · refine low_pos _ _ ?_
    have : 0 < 10 ^ (-k).toNat := Nat.pow_pos (by decide)
    omega
  · simp only; omega
end Go.Proofs.YtfjelkjlfcafgaaGreatDoor.RefM
end
section
/- Package num: Valid, frac, Value, Grid, Cmp: what they give is what the document's give. -/
namespace Go.Proofs.YtfjelkjlfcafgaaGreatDoor.NumA
open Go Go.RowKit Go.Proofs.YtfjelkjlfcafgaaGreatDoor.Ax Go.Proofs.YtfjelkjlfcafgaaGreatDoor.Ti Go.Proofs.YtfjelkjlfcafgaaGreatDoor.BigM Go.Proofs.YtfjelkjlfcafgaaGreatDoor.BigN Go.Proofs.YtfjelkjlfcafgaaGreatDoor.BigA Go.Proofs.YtfjelkjlfcafgaaGreatDoor.BigB Go.Proofs.YtfjelkjlfcafgaaGreatDoor.BigL Go.Proofs.YtfjelkjlfcafgaaGreatDoor.BigF Go.Proofs.YtfjelkjlfcafgaaGreatDoor.BigI Go.Proofs.YtfjelkjlfcafgaaGreatDoor.BigJ Go.Proofs.YtfjelkjlfcafgaaGreatDoor.BigP Go.Proofs.YtfjelkjlfcafgaaGreatDoor.BigQ Go.Proofs.YtfjelkjlfcafgaaGreatDoor.BigR Go.Proofs.YtfjelkjlfcafgaaGreatDoor.BigS Go.Proofs.YtfjelkjlfcafgaaGreatDoor.BigT Go.Proofs.YtfjelkjlfcafgaaGreatDoor.BigU
set_option linter.unusedSimpArgs false
set_option linter.unusedVariables false
set_option maxRecDepth 4000
set_option maxHeartbeats 2000000
theorem rTI : type_of% (cj @ti41 (cj @ti35 (cj @ti165 (cj @ti198 (cj @ti3 (cj @ti2 (cj @ti4 (cj @ti176 (cj @ti178 (cj @ti43 (cj @ti45 (cj @ti186 (cj @ti25 @ti24))))))))))))) := cj @ti41 (cj @ti35 (cj @ti165 (cj @ti198 (cj @ti3 (cj @ti2 (cj @ti4 (cj @ti176 (cj @ti178 (cj @ti43 (cj @ti45 (cj @ti186 (cj @ti25 @ti24))))))))))))

def NM (m k : Int) : AV := .ag [.v (.int .i64 m), .v (.int .i64 k)]
def validN (m k : Int) : Bool := RefM.validN m k
theorem validN_def (m k : Int) : validN m k = if m.tmod 10 = 0 then decide (m = 0) && decide (k = 0) else decide (m ≤ 999999999) && decide (-999999999 ≤ m) && decide (k ≤ 9) && decide (-18 ≤ k) := rfl
theorem valid_ax (m k : Int) : PCall Tryz.prog 18 [NM m k] (.v (.bool (validN m k))) := by
  refine pcall_of fun s => ?_
  have hv := validN_def m k
  unfold NM
  refine acall_of Tryz.func18 rfl rfl (by simp [Tryz.ntmps18]) ?_; rw [Tryz.ntmps18, Tryz.results18]
  by_cases q0 : m = 0
  · subst q0
    rw [if_pos (by decide)] at hv
    by_cases q1 : k = 0
    · rw [show validN 0 k = true by rw [hv]; simp [q1]]
      refine go (cj rTI (cj @wl_idf @wl_one)) ?_
      refine ifs ?_ ?_ <;> first | exact nope | intro hb
      refine go (cj rTI (cj @wl_idf @wl_one)) ?_
      exact fun i hi => if_neg (by omega)
    · rw [show validN 0 k = false by rw [hv]; simp [q1]]
      refine go (cj rTI (cj @wl_idf @wl_one)) ?_
      refine ifs ?_ ?_ <;> first | exact nope | intro hb
      refine go (cj rTI (cj @wl_idf @wl_one)) ?_
      exact fun i hi => if_neg (by omega)
  · by_cases c1 : -999999999 ≤ m
    · by_cases c2 : m ≤ 999999999
      · by_cases c3 : m.tmod 10 = 0
        · have h2 : (m.tmod 10 != 0) = false := by rw [c3]; rfl
          rw [show validN m k = false by rw [hv, if_pos c3]; simp [q0]]
          clear hv c3
          refine go (cj rTI (cj @wl_idf @wl_one)) ?_
          refine ifs ?_ ?_ <;> first | exact nope | intro hb
          refine go (cj rTI (cj @wl_idf (cj @wl_one @h2))) ?_
          exact fun i hi => if_neg (by omega)
        · have h2 : (m.tmod 10 != 0) = true := bne_iff_ne.2 c3
          rw [if_neg c3] at hv
          clear c3
          by_cases c4 : -18 ≤ k
          · by_cases c5 : k ≤ 9
            · rw [show validN m k = true by rw [hv]; simp [c1, c2, c4, c5]]
              clear hv
              refine go (cj rTI (cj @wl_idf @wl_one)) ?_
              refine ifs ?_ ?_ <;> first | exact nope | intro hb
              refine go (cj rTI (cj @wl_idf (cj @wl_one @h2))) ?_
              exact fun i hi => if_neg (by omega)
            · rw [show validN m k = false by rw [hv]; simp [c5]]
              clear hv
              refine go (cj rTI (cj @wl_idf @wl_one)) ?_
              refine ifs ?_ ?_ <;> first | exact nope | intro hb
              refine go (cj rTI (cj @wl_idf (cj @wl_one @h2))) ?_
              exact fun i hi => if_neg (by omega)
          · rw [show validN m k = false by rw [hv]; simp [c4]]
            clear hv
            refine go (cj rTI (cj @wl_idf @wl_one)) ?_
            refine ifs ?_ ?_ <;> first | exact nope | intro hb
            refine go (cj rTI (cj @wl_idf (cj @wl_one @h2))) ?_
            exact fun i hi => if_neg (by omega)
      · rw [show validN m k = false by rw [hv]; simp [c2, q0]]
        clear hv
        refine go (cj rTI (cj @wl_idf @wl_one)) ?_
        refine ifs ?_ ?_ <;> first | exact nope | intro hb
        refine go (cj rTI (cj @wl_idf @wl_one)) ?_
        exact fun i hi => if_neg (by omega)
    · rw [show validN m k = false by rw [hv]; simp [c1, q0]]
      clear hv
      refine go (cj rTI (cj @wl_idf @wl_one)) ?_
      refine ifs ?_ ?_ <;> first | exact nope | intro hb
      refine go (cj rTI (cj @wl_idf @wl_one)) ?_
      exact fun i hi => if_neg (by omega)
theorem ofN_def (m k : Int) : RefM.ofN m k = if k < 0 then low m ((10 ^ (-k).toNat : Nat) : Int) else (m * ((10 ^ k.toNat : Nat) : Int), 1) := rfl
theorem low_one (x : Int) : low x 1 = (x, 1) := by
  unfold low
  simp
theorem pow_lw (k : Nat) (hk : k ≤ 100) : lw ((10 ^ k : Nat) : Int).natAbs ≤ 101 := by
  rw [Int.natAbs_natCast]
  exact Nat.le_trans (ten_lw k) (by omega)
theorem frac_ax (s : St) (m k : Int) (m1 : -9223372036854775808 ≤ m) (m2 : m ≤ 9223372036854775807) (k1 : -100 ≤ k) (k2 : k ≤ 100) :
    ACall Tryz.prog 68 [NM m k] s fun r s' => ∃ id, r = .ptr id 0 ∧ NewR s s' id (RefM.ofN m k).1 (RefM.ofN m k).2 := by
  have hdef := ofN_def m k
  unfold NM
  have p0 : (s.push [.v (.int .i64 m), .v (.int .i64 k)]).get s.nx = some [.v (.int .i64 m), .v (.int .i64 k)] := St.push_same _ _
  have pn : (s.push [.v (.int .i64 m), .v (.int .i64 k)]).nx = s.nx + 1 := rfl
  have po : ∀ i, i < s.nx → (s.push [.v (.int .i64 m), .v (.int .i64 k)]).get i = s.get i := fun i hi => St.push_ne _ _ _ (by omega)
  have lm : lw m.natAbs ≤ 2 := (lw_two _).2 (by omega)
  obtain ⟨K0, hK0⟩ : ∃ K0 : Nat, K0 = k.natAbs := ⟨_, rfl⟩
  have hmax : (if -k > k then -k else k) = (K0 : Int) := by split <;> omega
  have lp := pow_lw K0 (by omega)
  refine acall_of Tryz.func68 rfl rfl (by simp [Tryz.ntmps68]) ?_; rw [Tryz.ntmps68, Tryz.results68]
  refine go (cj rTI (cj @wl_idf @wl_one)) ?_
  generalize s.push [.v (.int .i64 m), .v (.int .i64 k)] = t at *
  have c1 := ten_ax t K0 (by omega)
  refine aw_reg fun K hK => ?_; refine rn (cj rTI (cj @wl_idf (cj @wl_one (cj @p0 (cj @hmax @Int.zero_sub))))) ?_; refine cont_go c1 ?_; rintro _ s1 ⟨i1, rfl, w1⟩; refine rn (cj rTI (cj @wl_idf (cj @wl_one (cj @p0 (cj @hmax @Int.zero_sub))))) ?_; refine hK _ _ ?_; clear hK K
  clear hmax
  rw [then_normal]
  have n1 := w1.nx
  have l1 := w1.lo
  have h1 := w1.lt
  have p1 : s1.get s.nx = some [.v (.int .i64 m), .v (.int .i64 k)] := by rw [w1.fr _ (by omega)]; exact p0
  have c2 := newInt_ax s1 m m1 m2
  by_cases q : k < 0
  · rw [if_pos q, show (-k).toNat = K0 by omega] at hdef
    rw [hdef]
    refine go (cj rTI (cj @wl_idf (cj @wl_one @p1))) ?_
    refine ifs ?_ ?_ <;> first | exact nope | intro hb
    refine aw_seq ?_
    have hne : ((10 ^ K0 : Nat) : Int) ≠ 0 := by
      have := Nat.pow_pos (n := K0) (show 0 < 10 by decide)
      omega
    refine aw_reg fun K hK => ?_; refine rn (cj rTI (cj @wl_idf (cj @wl_one @p1))) ?_; refine cont_go c2 ?_; rintro _ s2 ⟨i2, rfl, w2⟩; have n2 := w2.nx; refine rn (cj rTI (cj @wl_idf @wl_one)) ?_; refine cont_go (newRat_frac s2 i2 0 i1 0 m _ w2.rdP (w2.otherR w1.rdP) hne (by omega) (by omega)) ?_; rintro _ s3 ⟨i3, rfl, w3⟩; refine rn (cj rTI (cj @wl_idf (cj @wl_one @p1))) ?_; refine hK _ _ ?_; clear hK K
    refine go trivial ?_
    have l3 := w3.lo
    exact ⟨i3, rfl, by omega, w3.lt, w3.g, fun i hi => by rw [w3.fr i (by omega), w2.fr i (by omega), w1.fr i (by omega), po i hi]⟩
  · rw [if_neg q, show k.toNat = K0 by omega] at hdef
    rw [hdef]
    refine go (cj rTI (cj @wl_idf (cj @wl_one @p1))) ?_
    refine ifs ?_ ?_ <;> first | exact nope | intro hb
    refine go trivial ?_
    refine aw_reg fun K hK => ?_
    refine rn (cj rTI (cj @wl_idf (cj @wl_one @p1))) ?_
    refine cont_go c2 ?_
    rintro _ s2 ⟨i2, rfl, w2⟩
    have n2 := w2.nx
    have l2 := w2.lo
    have lmul : lw (((10 ^ K0 : Nat) : Int) * m).natAbs ≤ 1000000000000 := by
      rw [Int.natAbs_mul]
      exact Nat.le_trans (lw_mul _ _) (by omega)
    have c3 := mul_ax s2 i1 i1 0 i2 0 _ m (w2.otherD w1.dst) (w2.otherR w1.rdP) w2.rdP (by omega)
    refine rn (cj rTI (cj @wl_idf @wl_one)) ?_
    refine cont_go c3 ?_
    rintro _ s3 ⟨rfl, w3⟩
    have n3 := w3.nx
    refine rn (cj rTI (cj @wl_idf @wl_one)) ?_
    refine cont_go (newInt_ax s3 1 (by decide) (by decide)) ?_
    rintro _ s4 ⟨i4, rfl, w4⟩
    have n4 := w4.nx
    have c5 := newRat_frac s4 i1 0 i4 0 _ 1 (w4.otherR w3.rdP) w4.rdP (by decide) lmul (Nat.le_trans (pow_lw 0 (by decide)) (by decide))
    rw [low_one, Int.mul_comm _ m] at c5
    refine rn (cj rTI (cj @wl_idf @wl_one)) ?_
    refine cont_go c5 ?_
    rintro _ s5 ⟨i5, rfl, w5⟩
    refine rn (cj rTI (cj @wl_idf @wl_one)) ?_
    refine hK _ _ ?_
    clear hK K
    refine go trivial ?_
    have l5 := w5.lo
    exact ⟨i5, rfl, by omega, w5.lt, w5.g, fun i hi => by rw [w5.fr i (by omega), w4.fr i (by omega), w3.fr i (by omega) (by omega), w2.fr i (by omega), w1.fr i (by omega), po i hi]⟩
end Go.Proofs.YtfjelkjlfcafgaaGreatDoor.NumA
end
section
/- Package num: Value, Grid, Cmp: what they give is what the document's give. -/
namespace Go.Proofs.YtfjelkjlfcafgaaGreatDoor.NumB
open Go Go.RowKit Go.Proofs.YtfjelkjlfcafgaaGreatDoor.Ax Go.Proofs.YtfjelkjlfcafgaaGreatDoor.Ti Go.Proofs.YtfjelkjlfcafgaaGreatDoor.BigM Go.Proofs.YtfjelkjlfcafgaaGreatDoor.BigN Go.Proofs.YtfjelkjlfcafgaaGreatDoor.BigA Go.Proofs.YtfjelkjlfcafgaaGreatDoor.BigB Go.Proofs.YtfjelkjlfcafgaaGreatDoor.BigL Go.Proofs.YtfjelkjlfcafgaaGreatDoor.BigF Go.Proofs.YtfjelkjlfcafgaaGreatDoor.BigI Go.Proofs.YtfjelkjlfcafgaaGreatDoor.BigJ Go.Proofs.YtfjelkjlfcafgaaGreatDoor.BigP Go.Proofs.YtfjelkjlfcafgaaGreatDoor.BigQ Go.Proofs.YtfjelkjlfcafgaaGreatDoor.BigR Go.Proofs.YtfjelkjlfcafgaaGreatDoor.BigS Go.Proofs.YtfjelkjlfcafgaaGreatDoor.BigT Go.Proofs.YtfjelkjlfcafgaaGreatDoor.BigU Go.Proofs.YtfjelkjlfcafgaaGreatDoor.NumA
set_option linter.unusedSimpArgs false
set_option linter.unusedVariables false
set_option maxRecDepth 4000
set_option maxHeartbeats 2000000
theorem rTI : type_of% (cj @ti41 (cj @ti35 (cj @ti165 (cj @ti198 (cj @ti3 (cj @ti2 (cj @ti4 (cj @ti176 (cj @ti178 (cj @ti43 (cj @ti45 (cj @ti186 (cj @ti25 @ti24))))))))))))) := cj @ti41 (cj @ti35 (cj @ti165 (cj @ti198 (cj @ti3 (cj @ti2 (cj @ti4 (cj @ti176 (cj @ti178 (cj @ti43 (cj @ti45 (cj @ti186 (cj @ti25 @ti24))))))))))))

theorem lw_abs_mul (a b : Int) (i j : Nat) (h1 : lw a.natAbs ≤ i) (h2 : lw b.natAbs ≤ j) : lw (a * b).natAbs ≤ i + j := by
  rw [Int.natAbs_mul]
  exact Nat.le_trans (lw_mul _ _) (by omega)
theorem ofN_lw (m k : Int) (m1 : -9223372036854775808 ≤ m) (m2 : m ≤ 9223372036854775807) (k1 : -100 ≤ k) (k2 : k ≤ 100) : lw (RefM.ofN m k).1.natAbs ≤ 103 ∧ lw (RefM.ofN m k).2.natAbs ≤ 103 := by
  have lm : lw m.natAbs ≤ 2 := (lw_two _).2 (by omega)
  rw [ofN_def]
  by_cases q : k < 0
  · rw [if_pos q]
    have h := low_lw m ((10 ^ (-k).toNat : Nat) : Int)
    have h2 := pow_lw (-k).toNat (by omega)
    omega
  · rw [if_neg q]
    have h2 := pow_lw k.toNat (by omega)
    refine ⟨by have := lw_abs_mul m _ 2 101 lm h2; omega, Nat.le_trans (pow_lw 0 (by decide)) (by decide)⟩
theorem validN_m (m k : Int) (h : validN m k = true) : -999999999 ≤ m ∧ m ≤ 999999999 ∧ -18 ≤ k ∧ k ≤ 9 := RefM.validN_m m k h
theorem cmpNN_eq (m k m' k' : Int) : RefM.cmpNN m k m' k' = if validN m k = true ∧ validN m' k' = true then .tp [.v (.int .i64 (sgn ((RefM.ofN m k).1 * (RefM.ofN m' k').2 - (RefM.ofN m' k').1 * (RefM.ofN m k).2))), .v (.int .i64 0)] else .tp [.v (.int .i64 0), .v (.int .i64 30)] := rfl
theorem cmp_ax (m k m' k' : Int) : PCall Tryz.prog 25 [NM m k, NM m' k'] (RefM.cmpNN m k m' k') := by
  refine pcall_of fun s => ?_
  have hv := valid_ax m k
  have hv2 := valid_ax m' k'
  have he := cmpNN_eq m k m' k'
  have t0 := two_g0 s [.v (.int .i64 m), .v (.int .i64 k)] [.v (.int .i64 m'), .v (.int .i64 k')]
  have t1 := two_g1 s [.v (.int .i64 m), .v (.int .i64 k)] [.v (.int .i64 m'), .v (.int .i64 k')]
  have to := two_old s [.v (.int .i64 m), .v (.int .i64 k)] [.v (.int .i64 m'), .v (.int .i64 k')]
  have tn := two_nx s [.v (.int .i64 m), .v (.int .i64 k)] [.v (.int .i64 m'), .v (.int .i64 k')]
  have hf := fun s (h : validN m k = true) => frac_ax s m k (by have := validN_m m k h; omega) (by have := validN_m m k h; omega) (by have := validN_m m k h; omega) (by have := validN_m m k h; omega)
  have hf2 := fun s (h : validN m' k' = true) => frac_ax s m' k' (by have := validN_m m' k' h; omega) (by have := validN_m m' k' h; omega) (by have := validN_m m' k' h; omega) (by have := validN_m m' k' h; omega)
  have hl := fun (h : validN m k = true) => ofN_lw m k (by have := validN_m m k h; omega) (by have := validN_m m k h; omega) (by have := validN_m m k h; omega) (by have := validN_m m k h; omega)
  have hl2 := fun (h : validN m' k' = true) => ofN_lw m' k' (by have := validN_m m' k' h; omega) (by have := validN_m m' k' h; omega) (by have := validN_m m' k' h; omega) (by have := validN_m m' k' h; omega)
  have hp := RefM.ofN_pos m k
  have hp2 := RefM.ofN_pos m' k'
  unfold NM at *
  by_cases q : validN m k = true
  · by_cases q2 : validN m' k' = true
    · rw [if_pos ⟨q, q2⟩] at he
      rw [q] at hv
      rw [q2] at hv2
      rw [he]
      have hf := fun s => hf s q
      have hf2 := fun s => hf2 s q2
      have hl := hl q
      have hl2 := hl2 q2
      clear he q q2
      generalize (RefM.ofN m k).1 = a at *
      generalize (RefM.ofN m k).2 = b at *
      generalize (RefM.ofN m' k').1 = c at *
      generalize (RefM.ofN m' k').2 = d at *
      refine acall_of Tryz.func25 rfl rfl (by simp [Tryz.ntmps25]) ?_; rw [Tryz.ntmps25, Tryz.results25]
      refine go (cj rTI (cj @wl_idf @wl_one)) ?_
      generalize (s.push [.v (.int .i64 m), .v (.int .i64 k)]).push [.v (.int .i64 m'), .v (.int .i64 k')] = t at *
      refine aw_reg fun K hK => ?_; refine rn (cj rTI (cj @wl_idf (cj @wl_one (cj @t0 @t1)))) ?_; refine cont_pure hv ?_; refine rn (cj rTI (cj @wl_idf (cj @wl_one (cj @t0 @t1)))) ?_; refine cont_pure hv2 ?_; refine rn (cj rTI (cj @wl_idf (cj @wl_one (cj @t0 @t1)))) ?_; refine hK _ _ ?_; clear hK K
      rw [then_normal]
      refine ifs ?_ ?_ <;> first | exact nope | intro hb
      refine go trivial ?_
      refine aw_drw (.take 0 (.take 2 (.one 1 (.one 3 (.one 4 (.take 5 (.take 6 (.done)))))))) [s.nx, s.nx + 1] (by kernel_rfl) (by kernel_rfl) fun K hK => ?_; refine dr (cj rTI (cj @wl_idf (cj @wl_one (cj @t0 @t1)))) ?_; refine cont_go (hf t) ?_; rintro _ s1 ⟨i1, rfl, m1⟩; have n1 := m1.nx; have k1 := m1.lt; have f0 := m1.fr s.nx (by omega); have f1 := m1.fr (s.nx + 1) (by omega); refine dr (cj rTI (cj @wl_idf (cj @wl_one (cj @t0 @t1)))) ?_; refine ⟨⟨by rw [f0, t0], by rw [f1, t1]⟩, ?_⟩; refine cont_go (hf2 s1) ?_; rintro _ s2 ⟨i2, rfl, m2⟩; have n2 := m2.nx; have f2 := m2.fr s.nx (by omega); have f3 := m2.fr (s.nx + 1) (by omega); have r3 := cmpR_ax s2 i1 i2 a b c d (m1.rat.mono n2 (m2.fr _ k1)) m2.rat hp hp2 (by omega) (by omega); refine dr (cj rTI (cj @wl_idf (cj @wl_one (cj @t0 @t1)))) ?_; refine ⟨⟨f2, f3⟩, ?_⟩; refine cont_go r3 ?_; rintro _ s3 ⟨rfl, rfl⟩; refine dr (cj rTI (cj @wl_idf (cj @wl_one (cj @t0 @t1)))) ?_; refine hK _ _ ?_; clear hK K
      refine go (cj rTI (cj @wl_idf @wl_one)) ?_
      intro i hi
      rw [m2.fr i (by omega), m1.fr i (by omega), to i hi]
    · have q2' : validN m' k' = false := by simpa using q2
      rw [if_neg (fun h => q2 h.2)] at he
      rw [q] at hv
      rw [q2'] at hv2
      rw [he]
      refine acall_of Tryz.func25 rfl rfl (by simp [Tryz.ntmps25]) ?_; rw [Tryz.ntmps25, Tryz.results25]
      refine go (cj rTI (cj @wl_idf @wl_one)) ?_
      refine aw_reg fun K hK => ?_; refine rn (cj rTI (cj @wl_idf @wl_one)) ?_; refine cont_pure hv ?_; refine rn (cj rTI (cj @wl_idf @wl_one)) ?_; refine cont_pure hv2 ?_; refine rn (cj rTI (cj @wl_idf @wl_one)) ?_; refine hK _ _ ?_; clear hK K
      rw [then_normal]
      refine ifs ?_ ?_ <;> first | exact nope | intro hb
      refine go trivial ?_
      exact to
  · have q' : validN m k = false := by simpa using q
    rw [if_neg (fun h => q h.1)] at he
    rw [q'] at hv
    rw [he]
    refine acall_of Tryz.func25 rfl rfl (by simp [Tryz.ntmps25]) ?_; rw [Tryz.ntmps25, Tryz.results25]
    refine go (cj rTI (cj @wl_idf @wl_one)) ?_
    refine aw_reg fun K hK => ?_; refine rn (cj rTI (cj @wl_idf @wl_one)) ?_; refine cont_pure hv ?_; refine rn (cj rTI (cj @wl_idf @wl_one)) ?_; refine hK _ _ ?_; clear hK K
    rw [then_normal]
    refine ifs ?_ ?_ <;> first | exact nope | intro hb
    refine go trivial ?_
    exact to
end Go.Proofs.YtfjelkjlfcafgaaGreatDoor.NumB
end
section
/- Plain lists: the texts of decimal numbers: what a text says, and the one form. -/
namespace Go.Proofs.YtfjelkjlfcafgaaGreatDoor.NumS
open Go.Proofs.YtfjelkjlfcafgaaGreatDoor.BigM
set_option linter.unusedVariables false

def isD (c : Nat) : Bool := decide (48 ≤ c) && decide (c ≤ 57)
theorem isD_iff (c : Nat) : isD c = true ↔ 48 ≤ c ∧ c ≤ 57 := by unfold isD; simp
def fr : List Nat → List Nat
  | [] => []
  | c :: l => if isD c then c :: fr l else []
def bk : List Nat → List Nat
  | [] => []
  | c :: l => if isD c then bk l else c :: l
theorem fr_bk : ∀ l, fr l ++ bk l = l
  | [] => rfl
  | c :: l => by
    rw [fr, bk]
    split
    · rw [List.cons_append, fr_bk l]
    · rfl
theorem fr_all : ∀ l, ∀ c ∈ fr l, isD c = true
  | [], c, h => by cases h
  | a :: l, c, h => by
    rw [fr] at h
    split at h
    · rcases List.mem_cons.1 h with rfl | h
      · assumption
      · exact fr_all l c h
    · cases h
theorem fr_app : ∀ (a b : List Nat), (∀ c ∈ a, isD c = true) → (∀ c, b.head? = some c → isD c = false) → fr (a ++ b) = a ∧ bk (a ++ b) = b
  | [], b, _, hb => by
    cases b with
    | nil => exact ⟨rfl, rfl⟩
    | cons c l =>
      have := hb c rfl
      rw [List.nil_append, fr, bk, if_neg (by rw [this]; simp), if_neg (by rw [this]; simp)]
      exact ⟨rfl, rfl⟩
  | c :: a, b, ha, hb => by
    have h1 := ha c (by simp)
    obtain ⟨e1, e2⟩ := fr_app a b (fun d hd => ha d (List.mem_cons_of_mem _ hd)) hb
    rw [List.cons_append, fr, bk, if_pos h1, if_pos h1, e1, e2]
    exact ⟨rfl, rfl⟩
def digV (l : List Nat) : Nat := l.foldl (fun a c => 10 * a + (c - 48)) 0
theorem digV_snoc (l : List Nat) (c : Nat) : digV (l ++ [c]) = 10 * digV l + (c - 48) := by unfold digV; rw [List.foldl_append]; rfl
theorem digV_zeros (l : List Nat) (n : Nat) : digV (l ++ List.replicate n 48) = digV l * 10 ^ n := by
  induction n with
  | zero => simp
  | succ n ih => rw [List.replicate_succ', ← List.append_assoc, digV_snoc, ih, Nat.pow_succ, Nat.mul_comm 10, Nat.mul_assoc]; rfl
theorem digV_dec (n : Nat) : digV (((digs 10 n).reverse).map fun d => 48 + d) = n := by
  have : ∀ l : List Nat, digV ((l.reverse).map fun d => 48 + d) = val 10 l := by
    intro l
    induction l with
    | nil => rfl
    | cons d l ih => rw [List.reverse_cons, List.map_append, List.map_cons, List.map_nil, digV_snoc, ih, val]; omega
  rw [this, val_digs 10 (by decide)]
def strip (m : Nat) (x : Int) : Nat × Int := if h : 0 < m ∧ m % 10 = 0 then strip (m / 10) (x + 1) else (m, x)
termination_by m
decreasing_by exact Nat.div_lt_self h.1 (by decide)
theorem strip_stop (m : Nat) (x : Int) (h : ¬ (0 < m ∧ m % 10 = 0)) : strip m x = (m, x) := by rw [strip, dif_neg h]
theorem strip_go (m : Nat) (x : Int) (h : 0 < m) : strip (m * 10) x = strip m (x + 1) := by
  rw [strip, dif_pos ⟨by omega, by omega⟩, Nat.mul_div_cancel _ (by decide)]
theorem strip_pow (m : Nat) (h : 0 < m) (n : Nat) : ∀ x, strip (m * 10 ^ n) x = strip m (x + n) := by
  induction n with
  | zero => intro x; simp
  | succ n ih =>
    intro x
    rw [Nat.pow_succ, ← Nat.mul_assoc, strip_go _ _ (Nat.mul_pos h (Nat.pow_pos (by decide))), ih]
    congr 1
    omega
def two : List Nat → Option Int
  | [a] => if isD a then some ((a : Int) - 48) else none
  | [a, b] => if isD a && isD b then some (10 * ((a : Int) - 48) + ((b : Int) - 48)) else none
  | _ => none
def expS : List Nat → Option Int
  | 45 :: r => (two r).map fun v => -v
  | 43 :: r => two r
  | r => two r
def lettersS : List Nat → Option Int
  | [] => some 0
  | [102] => some (-15)
  | [112] => some (-12)
  | [110] => some (-9)
  | [117] => some (-6)
  | [109] => some (-3)
  | [107] => some 3
  | [109, 101, 103] => some 6
  | [103] => some 9
  | [116] => some 12
  | 101 :: r => expS r
  | _ => none
def finS (neg : Bool) (m : Nat) (x : Int) : Int × Int × Int :=
  if m = 0 then (0, 0, 0)
  else if (strip m x).1 ≤ 999999999 ∧ -18 ≤ (strip m x).2 ∧ (strip m x).2 ≤ 9 then (if neg then -((strip m x).1 : Int) else (strip m x).1, (strip m x).2, 0)
  else (0, 0, 30)
def bodyS (neg : Bool) (r : List Nat) : Int × Int × Int :=
  if fr r = [] then (0, 0, 3)
  else match bk r with
  | 46 :: q => if fr q = [] then (0, 0, 3) else match lettersS (bk q) with
    | none => (0, 0, 3)
    | some e => finS neg (digV (fr r ++ fr q)) (e - (fr q).length)
  | q => match lettersS q with
    | none => (0, 0, 3)
    | some e => finS neg (digV (fr r)) e
def parseS (l : List Nat) : Int × Int × Int :=
  if 32 < l.length then (0, 0, 3)
  else match l with
  | 45 :: r => bodyS true r
  | r => bodyS false r
def decN (n : Nat) : List Nat := ((digs 10 n).reverse).map fun d => 48 + d
def decS (z : Int) : List Nat := if z = 0 then [48] else (if z < 0 then [45] else []) ++ decN z.natAbs
theorem decN_isD (n : Nat) : ∀ c ∈ decN n, isD c = true := by
  intro c hc
  obtain ⟨d, hd, rfl⟩ := List.mem_map.1 hc
  have := digs_lt 10 (by decide) n d (List.mem_reverse.1 hd)
  rw [isD_iff]
  omega
theorem decN_nil (n : Nat) (h : 0 < n) : decN n ≠ [] := by
  unfold decN
  intro e
  have := congrArg List.length e
  rw [List.length_map, List.length_reverse, List.length_nil, List.length_eq_zero_iff, digs_nil 10 (by decide)] at this
  omega
theorem decN_len (n k : Nat) (h : n < 10 ^ k) : (decN n).length ≤ k := by
  unfold decN
  rw [List.length_map, List.length_reverse]
  exact (digs_length_le 10 (by decide) k n).2 h
def letterS (k : Nat) : List Nat := [[102], [112], [110], [117], [109], [], [107], [109, 101, 103], [103], [116]].getD k []
theorem letter_reads (k : Nat) (h : k < 10) : lettersS (letterS k) = some (3 * (k : Int) - 15) ∧ (∀ c, (letterS k).head? = some c → isD c = false ∧ c ≠ 46) ∧ (letterS k).length ≤ 3 := by
  have : k = 0 ∨ k = 1 ∨ k = 2 ∨ k = 3 ∨ k = 4 ∨ k = 5 ∨ k = 6 ∨ k = 7 ∨ k = 8 ∨ k = 9 := by omega
  rcases this with rfl | rfl | rfl | rfl | rfl | rfl | rfl | rfl | rfl | rfl <;> refine ⟨by simp [letterS, lettersS], ?_, by simp [letterS]⟩ <;> intro c hc <;> simp [letterS] at hc <;> subst hc <;> decide
def textS (m x : Int) : List Nat :=
  if x < -15 then decS m ++ [101, 45] ++ decN x.natAbs
  else decS m ++ List.replicate ((x + 15) % 3).toNat 48 ++ letterS ((x + 15) / 3).toNat
def okN (m x : Int) : Prop := if m.tmod 10 = 0 then m = 0 ∧ x = 0 else m ≤ 999999999 ∧ -999999999 ≤ m ∧ x ≤ 9 ∧ -18 ≤ x
theorem text_len (m x : Int) (h : okN m x) : (textS m x).length ≤ 15 := by
  unfold okN at h
  have hd : (decS m).length ≤ 10 := by
    unfold decS
    split
    · simp
    · rw [List.length_append]
      have h1 : m.natAbs < 10 ^ 9 := by split at h <;> omega
      have := decN_len m.natAbs 9 h1
      split <;> simp <;> omega
  have hx : -18 ≤ x ∧ x ≤ 9 := by split at h <;> omega
  unfold textS
  split
  · have : (decN x.natAbs).length ≤ 2 := decN_len _ 2 (by omega)
    simp only [List.length_append, List.length_cons, List.length_nil]
    omega
  · have := (letter_reads ((x + 15) / 3).toNat (by omega)).2.2
    simp only [List.length_append, List.length_replicate]
    omega
theorem tmod10 (m : Int) : m.tmod 10 = 0 ↔ m.natAbs % 10 = 0 := by
  rw [← Int.dvd_iff_tmod_eq_zero, ← Nat.dvd_iff_mod_eq_zero, ← Int.natAbs_dvd_natAbs]
  rfl
def decP (n : Nat) : List Nat := if n = 0 then [48] else decN n
theorem decP_spec (n : Nat) (h : n < 4294967296) : (∀ c ∈ decP n, isD c = true) ∧ decP n ≠ [] ∧ digV (decP n) = n ∧ (decP n).length ≤ 10 := by
  unfold decP
  split
  · rename_i e
    subst e
    decide
  · exact ⟨decN_isD n, decN_nil n (by omega), digV_dec n, decN_len n 10 (by omega)⟩
end Go.Proofs.YtfjelkjlfcafgaaGreatDoor.NumS
end
section
/- Texts of numbers: digits at the front; one digit. -/
namespace Go.Proofs.YtfjelkjlfcafgaaGreatDoor.NumT
open Go Go.RowKit Go.Proofs.YtfjelkjlfcafgaaGreatDoor.Ax Go.Proofs.YtfjelkjlfcafgaaGreatDoor.Ti Go.Proofs.YtfjelkjlfcafgaaGreatDoor.BigM Go.Proofs.YtfjelkjlfcafgaaGreatDoor.NumS Go.Proofs.YtfjelkjlfcafgaaGreatDoor.NumA
set_option linter.unusedSimpArgs false
set_option linter.unusedVariables false
set_option maxRecDepth 4000
set_option maxHeartbeats 2000000
theorem rTI : type_of% (cj @ti3 (cj @ti2 (cj @ti4 (cj @ti9 (cj @ti5 (cj @ti36 (cj @ti24 @ti25))))))) := cj @ti3 (cj @ti2 (cj @ti4 (cj @ti9 (cj @ti5 (cj @ti36 (cj @ti24 @ti25))))))

def bs (l : List Nat) : ByteArray := RefJ.bs l
theorem bs_size (l : List Nat) : (bs l).size = l.length := RefJ.bs_size l
theorem bs_append (a b : List Nat) : bs a ++ bs b = bs (a ++ b) := RefJ.bs_append a b
def By (l : List Nat) : Prop := ∀ c ∈ l, c < 256
theorem bs_get (l : List Nat) (h : By l) (k : Nat) : ((bs l).data.toList.getD k 0).toNat = l.getD k 0 := by
  show (((l.map UInt8.ofNat).toArray).toList.getD k 0).toNat = _
  rw [List.toList_toArray, List.getD_eq_getElem?_getD, List.getElem?_map, List.getD_eq_getElem?_getD]
  cases hk : l[k]? with
  | none => rfl
  | some c =>
    have := h c (List.mem_of_getElem? hk)
    simp [Nat.mod_eq_of_lt this]
theorem bs_all (b : ByteArray) : b = bs (b.data.toList.map UInt8.toNat) := by
  cases b with
  | mk d =>
    show _ = ByteArray.mk _
    congr 1
    rw [List.map_map]
    apply Array.ext'
    rw [List.toList_toArray]
    symm
    rw [show (UInt8.ofNat ∘ UInt8.toNat) = id by funext x; simp, List.map_id]
theorem by_all (b : ByteArray) : By (b.data.toList.map UInt8.toNat) := by
  intro c hc
  obtain ⟨x, _, rfl⟩ := List.mem_map.1 hc
  exact UInt8.toNat_lt x
theorem bs_slice (l : List Nat) (i j : Nat) : (bs l).extract i j = bs ((l.drop i).take (j - i)) := by
  have h : ((bs l).extract i j).data = (bs ((l.drop i).take (j - i))).data := by
    rw [ByteArray.data_extract]
    apply Array.ext'
    rw [Array.toList_extract]
    show List.extract ((l.map UInt8.ofNat).toArray).toList i j = (((l.drop i).take (j - i)).map UInt8.ofNat).toArray.toList
    rw [List.toList_toArray, List.toList_toArray, List.extract_eq_take_drop, List.map_take, List.map_drop]
  cases hx : (bs l).extract i j with
  | mk d =>
    rw [hx] at h
    cases hy : bs ((l.drop i).take (j - i)) with
    | mk e => rw [hy] at h; rw [show d = e from h]
theorem run_step (l : List Nat) (k : Nat) (hk : k < (fr l).length) : k < l.length ∧ isD (l.getD k 0) = true := by
  induction l generalizing k with
  | nil => simp [fr] at hk
  | cons c l ih =>
    rw [fr] at hk
    split at hk
    · rename_i hc
      cases k with
      | zero => exact ⟨by simp, by simpa using hc⟩
      | succ k =>
        have := ih k (by simpa using hk)
        exact ⟨by simpa using this.1, by simpa using this.2⟩
    · simp at hk
theorem run_stop (l : List Nat) (h : (fr l).length < l.length) : isD (l.getD (fr l).length 0) = false := by
  induction l with
  | nil => simp at h
  | cons c l ih =>
    rw [fr] at h ⊢
    split
    · rename_i hc
      rw [if_pos hc] at h
      simpa using ih (by simpa using h)
    · rename_i hc
      simpa using hc
theorem fr_le (l : List Nat) : (fr l).length ≤ l.length := by
  have := congrArg List.length (fr_bk l)
  rw [List.length_append] at this
  omega
theorem isDigit_ax (c : Nat) (h : c < 256) : PCall Tryz.prog 56 [.v (.int .u8 c)] (.v (.bool (isD c))) := by
  refine pcall_of fun s => ?_
  unfold isD
  refine acall_of Tryz.func56 rfl rfl (by simp [Tryz.ntmps56]) ?_; rw [Tryz.ntmps56, Tryz.results56]
  by_cases c1 : 48 ≤ c
  · by_cases c2 : c ≤ 57
    · exact go0 trivial
    · exact go0 trivial
  · exact go0 trivial
theorem run_ax (l : List Nat) (h : By l) (hl : l.length ≤ 1000000000) : PCall Tryz.prog 49 [.v (.string (bs l))] (.v (.int .i64 (fr l).length)) := by
  refine pcall_of fun s => ?_
  have hle := fr_le l
  have l1 := bs_size l
  refine acall_of Tryz.func49 rfl rfl (by simp [Tryz.ntmps49]) ?_; rw [Tryz.ntmps49, Tryz.results49]
  refine go trivial ?_
  refine aw_loop (fun n e s' => ∃ k : Nat, n = (fr l).length - k ∧ k ≤ (fr l).length ∧ e.n = 23 ∧ e.m 0 = .v (.string (bs l)) ∧ e.m 3 = .v (.int .i64 k) ∧ s' = s) (fr l).length ?_ ?_
  · refine ⟨0, ?_⟩
    refine rn trivial ?_
    exact ⟨by omega, by omega, rfl⟩
  · rintro n e s' ⟨k, rfl, hk, h1, k0, k3, rfl⟩
    have hg := bs_get l h k
    have z3 : (k : Int) + 1 = ((k + 1 : Nat) : Int) := rfl
    by_cases hk2 : k < (fr l).length
    · obtain ⟨r1, r2⟩ := run_step l k hk2
      obtain ⟨d1, d2⟩ := (isD_iff _).1 r2
      clear r2
      generalize l.getD k 0 = c at *
      refine go (cj rTI (cj @h1 (cj @k0 (cj @k3 (cj @l1 @hg))))) ?_
      rw [then_normal]
      refine ifs ?_ ?_ <;> first | exact nope | intro hb
      refine go (cj @h1 @k3) ?_
      simp only [block_normal, loop_normal]
      refine ⟨(fr l).length - (k + 1), by omega, k + 1, rfl, by omega, ?_⟩
      exact rn0 (cj @h1 (cj @k0 @z3))
    · obtain rfl : k = (fr l).length := by omega
      by_cases hk3 : (fr l).length < l.length
      · have r2 := run_stop l hk3
        have r3 : ¬ (48 ≤ l.getD (fr l).length 0 ∧ l.getD (fr l).length 0 ≤ 57) := fun h => by rw [(isD_iff _).2 h] at r2; cases r2
        clear r2
        generalize l.getD (fr l).length 0 = c at *
        by_cases c1 : 48 ≤ c
        · have c2 : ¬ c ≤ 57 := fun h => r3 ⟨c1, h⟩
          clear r3
          refine go (cj rTI (cj @h1 (cj @k0 (cj @k3 (cj @l1 @hg))))) ?_
          rw [then_normal]
          refine ifs ?_ ?_ <;> first | exact nope | intro hb
          exact go0 (cj @h1 @k3)
        · clear r3
          refine go (cj rTI (cj @h1 (cj @k0 (cj @k3 (cj @l1 @hg))))) ?_
          rw [then_normal]
          refine ifs ?_ ?_ <;> first | exact nope | intro hb
          exact go0 (cj @h1 @k3)
      · refine go (cj rTI (cj @h1 (cj @k0 (cj @k3 @l1)))) ?_
        rw [then_normal]
        refine ifs ?_ ?_ <;> first | exact nope | intro hb
        exact go0 (cj @h1 @k3)
end Go.Proofs.YtfjelkjlfcafgaaGreatDoor.NumT
end
section
/- Texts of numbers: the document's tail, Text. -/
namespace Go.Proofs.YtfjelkjlfcafgaaGreatDoor.NumU
open Go Go.RowKit Go.Proofs.YtfjelkjlfcafgaaGreatDoor.Ax Go.Proofs.YtfjelkjlfcafgaaGreatDoor.Ti Go.Proofs.YtfjelkjlfcafgaaGreatDoor.BigM Go.Proofs.YtfjelkjlfcafgaaGreatDoor.NumS Go.Proofs.YtfjelkjlfcafgaaGreatDoor.NumA Go.Proofs.YtfjelkjlfcafgaaGreatDoor.NumT
set_option linter.unusedSimpArgs false
set_option linter.unusedVariables false
set_option maxRecDepth 4000
set_option maxHeartbeats 2000000
theorem rTI : type_of% (cj @ti3 (cj @ti2 (cj @ti4 (cj @ti9 (cj @ti5 (cj @ti36 (cj @ti24 @ti25))))))) := cj @ti3 (cj @ti2 (cj @ti4 (cj @ti9 (cj @ti5 (cj @ti36 (cj @ti24 @ti25))))))

theorem bs_inj {l m : List Nat} (hl : By l) (hm : By m) (h : (bs l).data.toList = (bs m).data.toList) : l = m := by
  apply List.ext_getElem
  · have := congrArg List.length h
    rw [show (bs l).data.toList.length = (bs l).size from rfl, show (bs m).data.toList.length = (bs m).size from rfl, bs_size, bs_size] at this
    exact this
  · intro k h1 h2
    have a := bs_get l hl k
    have b := bs_get m hm k
    rw [h, b] at a
    rw [List.getD_eq_getElem?_getD, List.getElem?_eq_getElem h2, List.getD_eq_getElem?_getD, List.getElem?_eq_getElem h1] at a
    exact a.symm
theorem bs_beq (l m : List Nat) (hl : By l) (hm : By m) : ((bs l).toList == (bs m).toList) = decide (l = m) := by
  rw [ByteArray.toList_eq, ByteArray.toList_eq]
  by_cases e : l = m
  · rw [e, decide_eq_true rfl]
    exact beq_self_eq_true _
  · rw [decide_eq_false e]
    exact beq_eq_false_iff_ne.2 fun h => e (bs_inj hl hm h)
def NL : List AV := (List.range 10).map fun k => .v (.string (bs (letterS k)))
theorem hd_NL (k : Nat) (h : k < 10) : (NL.drop k).head? = some (.v (.string (bs (letterS k)))) := by
  have : k = 0 ∨ k = 1 ∨ k = 2 ∨ k = 3 ∨ k = 4 ∨ k = 5 ∨ k = 6 ∨ k = 7 ∨ k = 8 ∨ k = 9 := by omega
  rcases this with rfl | rfl | rfl | rfl | rfl | rfl | rfl | rfl | rfl | rfl <;> rfl
theorem letter_by (k : Nat) : By (letterS k) := by
  by_cases h : k < 10
  · have : k = 0 ∨ k = 1 ∨ k = 2 ∨ k = 3 ∨ k = 4 ∨ k = 5 ∨ k = 6 ∨ k = 7 ∨ k = 8 ∨ k = 9 := by omega
    rcases this with rfl | rfl | rfl | rfl | rfl | rfl | rfl | rfl | rfl | rfl <;> (intro c hc; simp [letterS] at hc; try omega)
  · intro c hc
    unfold letterS at hc
    rw [List.getD_eq_getElem?_getD, List.getElem?_eq_none (by simp; omega)] at hc
    cases hc
def tailV : Option Int → AV
  | some e => .tp [.v (.int .i64 e), .v (.bool true)]
  | none => .tp [.v (.int .i64 0), .v (.bool false)]
def expL : List Nat → Option Int
  | 101 :: r => expS r
  | _ => none
theorem letters_exp (l : List Nat) (h : ∀ k, k < 10 → l ≠ letterS k) : lettersS l = expL l := by
  have h0 := h 0 (by decide)
  have h1 := h 1 (by decide)
  have h2 := h 2 (by decide)
  have h3 := h 3 (by decide)
  have h4 := h 4 (by decide)
  have h5 := h 5 (by decide)
  have h6 := h 6 (by decide)
  have h7 := h 7 (by decide)
  have h8 := h 8 (by decide)
  have h9 := h 9 (by decide)
  simp only [letterS, List.getD_cons_zero, List.getD_cons_succ] at h0 h1 h2 h3 h4 h5 h6 h7 h8 h9
  unfold lettersS expL
  split <;> simp_all
theorem two_bad (d : List Nat) (h : ¬ (d.length = 1 ∨ d.length = 2)) : two d = none := by
  unfold two
  split
  · simp at h
  · simp at h
  · rfl
theorem two_good (d : List Nat) (h1 : 1 ≤ d.length) (h2 : d.length ≤ 2) : two d = if ∀ c ∈ d, isD c = true then some (digV d : Int) else none := by
  match d with
  | [] => simp at h1
  | [a] =>
    show (if isD a then some ((a : Int) - 48) else none) = _
    by_cases q : isD a = true
    · have := (isD_iff a).1 q
      rw [if_pos q, if_pos (by simpa using q)]
      congr 1
      simp [digV]
      omega
    · rw [if_neg q, if_neg (by simpa using q)]
  | [a, b] =>
    show (if isD a && isD b then some (10 * ((a : Int) - 48) + ((b : Int) - 48)) else none) = _
    by_cases q : isD a = true ∧ isD b = true
    · have h3 := (isD_iff a).1 q.1
      have h4 := (isD_iff b).1 q.2
      rw [if_pos (by simp [q.1, q.2]), if_pos (by simpa using q)]
      congr 1
      simp [digV]
      omega
    · rw [if_neg (by simpa using q), if_neg (by simpa using q)]
  | _ :: _ :: _ :: _ => simp at h2
theorem digV_one (d : List Nat) (h : ∀ c ∈ d.take 1, isD c = true) : digV (d.take 1) ≤ 9 := by
  cases d with
  | nil => simp [digV]
  | cons a d =>
    have := (isD_iff a).1 (h a (by simp))
    simp [digV]
    omega
theorem digV_two (d : List Nat) (hl : d.length ≤ 2) (h : ∀ c ∈ d, isD c = true) : digV d ≤ 99 := by
  match d with
  | [] => simp [digV]
  | [a] =>
    have := (isD_iff a).1 (h a (by simp))
    simp [digV]
    omega
  | [a, b] =>
    have h3 := (isD_iff a).1 (h a (by simp))
    have h4 := (isD_iff b).1 (h b (by simp))
    simp [digV]
    omega
  | _ :: _ :: _ :: _ => simp at hl
theorem take_snoc (d : List Nat) (j : Nat) (h : j < d.length) : d.take (j + 1) = d.take j ++ [d.getD j 0] := by
  rw [List.take_succ_eq_append_getElem h, List.getD_eq_getElem?_getD, List.getElem?_eq_getElem h]
  rfl
theorem exp_ways (r : List Nat) : (∃ d, 101 :: r = 101 :: 45 :: d ∧ expS r = (two d).map fun v => -v) ∨ (∃ d, 101 :: r = 101 :: 43 :: d ∧ expS r = two d) ∨ (∃ d, 101 :: r = 101 :: d ∧ expS r = two d ∧ r.getD 0 0 ≠ 45 ∧ r.getD 0 0 ≠ 43) := by
  unfold expS
  split
  · exact .inl ⟨_, rfl, rfl⟩
  · exact .inr (.inl ⟨_, rfl, rfl⟩)
  · rename_i h1 h2
    refine .inr (.inr ⟨r, rfl, rfl, ?_, ?_⟩)
    · cases r with
      | nil => simp
      | cons a r =>
        intro e
        exact h1 r (by simpa using e)
    · cases r with
      | nil => simp
      | cons a r =>
        intro e
        exact h2 r (by simpa using e)
theorem tail_ax (l : List Nat) (h : By l) (hl : l.length ≤ 1000000000) : PCall Tryz.prog 59 [.v (.string (bs l))] (tailV (lettersS l)) := by
  have hid : idf (tailV (lettersS l)) = true := by cases lettersS l <;> rfl
  refine pcall_of fun s => ?_
  rw [hid]
  have l1 := bs_size l
  refine acall_of Tryz.func59 rfl rfl (by simp [Tryz.ntmps59]) ?_; rw [Tryz.ntmps59, Tryz.results59]
  refine go rTI ?_
  refine aw_loop (fun n e s' => ∃ k : Nat, n = 10 - k ∧ k ≤ 10 ∧ e.n = 78 ∧ e.m 0 = .v (.string (bs l)) ∧ e.m 4 = .own s.nx 0 10 1 ∧ e.m 5 = .v (.int .i64 k) ∧ s'.get s.nx = some NL ∧ (∀ i, i < s.nx → s'.get i = s.get i) ∧ ∀ j, j < k → l ≠ letterS j) 10 ?_ ?_
  · refine ⟨0, ?_⟩
    refine rn trivial ?_
    exact ⟨rfl, rfl, fun i hi => if_neg (by omega), fun j hj => absurd hj (by omega)⟩
  · rintro n e s' ⟨k, rfl, hk, h1, k0, k4, k5, g, fr, hne⟩
    have z3 : (k : Int) + 1 = ((k + 1 : Nat) : Int) := rfl
    by_cases hk2 : k < 10
    · have o1 := hd_NL k hk2
      have e1 := bs_beq l (letterS k) h (letter_by k)
      by_cases q : l = letterS k
      · rw [decide_eq_true q] at e1
        have hv := (letter_reads k hk2).1
        rw [← q] at hv
        rw [hv]
        refine go (cj rTI (cj @h1 (cj @k0 (cj @k4 @k5)))) ?_
        refine ifs ?_ ?_ <;> first | exact nope | intro hb
        refine go (cj rTI (cj @h1 (cj @k0 (cj @k4 (cj @k5 (cj @g (cj @o1 (cj @e1 @Nat.zero_add)))))))) ?_
        rw [then_normal]
        refine ifs ?_ ?_ <;> first | exact nope | intro hb
        refine go (cj rTI (cj @h1 (cj @k0 (cj @k4 (cj @k5 (cj @g (cj @o1 (cj @e1 @Nat.zero_add)))))))) ?_
        exact ⟨rfl, fr⟩
      · rw [decide_eq_false q] at e1
        refine go (cj rTI (cj @h1 (cj @k0 (cj @k4 @k5)))) ?_
        refine ifs ?_ ?_ <;> first | exact nope | intro hb
        refine go (cj rTI (cj @h1 (cj @k0 (cj @k4 (cj @k5 (cj @g (cj @o1 (cj @e1 @Nat.zero_add)))))))) ?_
        rw [then_normal]
        refine ifs ?_ ?_ <;> first | exact nope | intro hb
        refine go (cj rTI (cj @h1 (cj @k0 (cj @k4 (cj @k5 (cj @g (cj @o1 (cj @e1 @Nat.zero_add)))))))) ?_
        simp only [block_normal, loop_normal]
        refine ⟨10 - (k + 1), by omega, k + 1, rfl, by omega, ?_⟩
        refine rn (cj @h1 (cj @k0 (cj @k4 (cj @k5 (cj @g @z3))))) ?_
        refine ⟨fr, fun j hj => ?_⟩
        by_cases e : j = k
        · rw [e]; exact q
        · exact hne j (by omega)
    · obtain rfl : k = 10 := by omega
      have hL := letters_exp l hne
      rw [hL]
      have hl0 : 0 < l.length := by
        have := hne 5 (by decide)
        cases l with
        | nil => exact absurd rfl this
        | cons c r => simp
      clear hne hL
      have k5' : e.m 5 = .v (.int .i64 10) := k5
      clear k5
      have g0 := bs_get l h 0
      have tz : Int.toNat 0 = 0 := rfl
      have to1 : Int.toNat 1 = 1 := rfl
      obtain ⟨c, r, rfl⟩ : ∃ c r, l = c :: r := by
        cases l with
        | nil => simp at hl0
        | cons c r => exact ⟨c, r, rfl⟩
      rw [List.getD_cons_zero] at g0
      by_cases qe : c = 101
      · subst qe
        rw [show expL (101 :: r) = expS r from rfl]
        refine go (cj rTI (cj @h1 (cj @k0 (cj @k4 @k5')))) ?_
        refine ifs ?_ ?_ <;> first | exact nope | intro hb
        refine go (cj rTI (cj @h1 (cj @k0 (cj @l1 (cj @g0 @tz))))) ?_
        rw [then_normal]
        refine ifs ?_ ?_ <;> first | exact nope | intro hb
        refine go (cj rTI (cj @h1 @k0)) ?_
        rcases exp_ways r with ⟨d, hrd, hexp⟩ | ⟨d, hrd, hexp⟩ | ⟨d, hrd, hexp, hn1, hn2⟩
        · have hlen : 1 < r.length + 1 := by have := congrArg List.length hrd; simp only [List.length_cons] at this; omega
          have g1 := bs_get (101 :: r) h 1
          rw [show (101 :: r).getD 1 0 = 45 by rw [hrd]; rfl] at g1
          refine go (cj rTI (cj @h1 (cj @k0 (cj @l1 (cj @g1 @to1))))) ?_
          refine ifs ?_ ?_ <;> first | exact nope | intro hb
          refine go (cj rTI (cj @h1 (cj @k0 (cj @l1 (cj @g1 @to1))))) ?_
          rw [then_normal]
          refine ifs ?_ ?_ <;> first | exact nope | intro hb
          refine go (cj @h1 @k0) ?_

          have ldl : (101 :: r).length = d.length + 2 := by simp [hrd]
          have hget : ∀ j, (101 :: r).getD (2 + j) 0 = d.getD j 0 := fun j => by rw [hrd, Nat.add_comm]; rfl
          have hby : By d := fun c hc => h c (by simp [hrd, hc])
          rw [ldl] at l1 hl
          rw [hexp]
          by_cases q1 : d.length < 1
          · rw [two_bad d (fun h => by omega)]
            refine go (cj rTI (cj @h1 (cj @k0 @l1))) ?_
            refine ifs ?_ ?_ <;> first | exact nope | intro hb
            all_goals ((refine go @h1 ?_); exact ⟨rfl, fr⟩)
          · by_cases q2 : 2 < d.length
            · rw [two_bad d (fun h => by omega)]
              refine go (cj rTI (cj @h1 (cj @k0 @l1))) ?_
              refine ifs ?_ ?_ <;> first | exact nope | intro hb
              refine go @h1 ?_
              exact ⟨rfl, fr⟩
            · have htwo := two_good d (by omega) (by omega)
              refine go (cj rTI (cj @h1 (cj @k0 @l1))) ?_
              refine ifs ?_ ?_ <;> first | exact nope | intro hb
              refine go (cj @h1 @k0) ?_
              refine aw_loop (fun n e s2 => ∃ j : Nat, n = d.length - j ∧ j ≤ d.length ∧ e.n = 78 ∧ e.m 0 = .v (.string (bs (101 :: r))) ∧ e.m 6 = .v (.int .i64 ((2 + j : Nat) : Int)) ∧ e.m 7 = .v (.int .i64 (-1)) ∧ e.m 8 = .v (.int .i64 (digV (d.take j) : Nat)) ∧ (∀ c ∈ d.take j, isD c = true) ∧ s2 = s') d.length ?_ ?_
              · refine ⟨0, ?_⟩
                refine rn (cj @h1 @k0) ?_
                exact ⟨by omega, by omega, rfl, rfl, fun c hc => by simp at hc⟩
              · clear h1 k0 k4
                rintro n e2 s2 ⟨j, rfl, hj, h1, k0, k6, k7, k8, hd, rfl⟩
                have z3 : ((2 + j : Nat) : Int) + 1 = ((2 + (j + 1) : Nat) : Int) := rfl
                by_cases hj2 : j < d.length
                · have hg := bs_get (101 :: r) h (2 + j)
                  rw [hget j] at hg
                  have hc : d.getD j 0 < 256 := by
                    rw [List.getD_eq_getElem?_getD, List.getElem?_eq_getElem hj2]
                    exact hby _ (List.getElem_mem hj2)
                  have hsn := take_snoc d j hj2
                  have hdd := isDigit_ax (d.getD j 0) hc
                  by_cases qd : isD (d.getD j 0) = true
                  · obtain ⟨e1, e2'⟩ := (isD_iff _).1 qd
                    have hv : digV (d.take (j + 1)) = 10 * digV (d.take j) + (d.getD j 0 - 48) := by rw [hsn, digV_snoc]
                    have hvb : digV (d.take j) ≤ 9 := by
                      have : j = 0 ∨ j = 1 := by omega
                      rcases this with rfl | rfl
                      · simp [digV]
                      · exact digV_one d hd
                    have hall : ∀ c ∈ d.take (j + 1), isD c = true := by
                      rw [hsn]
                      intro c hc
                      rcases List.mem_append.1 hc with hc | hc
                      · exact hd c hc
                      · rw [List.mem_singleton.1 hc]; exact qd
                    rw [qd] at hdd
                    clear qd
                    generalize d.getD j 0 = c at *
                    have e3 : ((c : Int) - 48) = ((c - 48 : Nat) : Int) := by omega
                    have e4 : 10 * (digV (d.take j) : Int) + ((c - 48 : Nat) : Int) = (digV (d.take (j + 1)) : Nat) := by rw [hv]; omega
                    generalize digV (d.take j) = v at *
                    generalize hv' : digV (d.take (j + 1)) = v' at *
                    refine go (cj rTI (cj @h1 (cj @k0 (cj @k6 @l1)))) ?_
                    refine ifs ?_ ?_ <;> first | exact nope | intro hb
                    refine go (cj @h1 @k0) ?_
                    refine aw_reg fun K hK => ?_; refine rn (cj rTI (cj @k0 (cj @k6 (cj @l1 @hg)))) ?_; refine cont_pure hdd ?_; refine rn (cj rTI (cj @k0 (cj @k6 (cj @l1 @hg)))) ?_; refine hK _ _ ?_; clear hK K
                    rw [then_normal]
                    refine ifs ?_ ?_ <;> first | exact nope | intro hb
                    refine go (cj rTI (cj @h1 (cj @k0 (cj @k6 (cj @k8 (cj @l1 (cj @hg (cj @e3 @e4)))))))) ?_
                    simp only [block_normal, loop_normal]
                    refine ⟨d.length - (j + 1), by omega, j + 1, rfl, by omega, ?_⟩
                    refine rn (cj @h1 (cj @k0 (cj @k6 (cj @k7 @z3)))) ?_
                    exact ⟨by rw [hv'], hall⟩
                  · have qd' : isD (d.getD j 0) = false := by simpa using qd
                    rw [qd'] at hdd
                    have hno : two d = none := by
                      rw [htwo, if_neg]
                      intro hall
                      apply qd
                      rw [List.getD_eq_getElem?_getD, List.getElem?_eq_getElem hj2]
                      exact hall _ (List.getElem_mem hj2)
                    rw [hno]
                    clear htwo hno qd qd' hsn hd
                    generalize d.getD j 0 = c at *
                    refine go (cj rTI (cj @h1 (cj @k0 (cj @k6 @l1)))) ?_
                    refine ifs ?_ ?_ <;> first | exact nope | intro hb
                    refine go (cj @h1 @k0) ?_
                    refine aw_reg fun K hK => ?_; refine rn (cj rTI (cj @k0 (cj @k6 (cj @l1 @hg)))) ?_; refine cont_pure hdd ?_; refine rn (cj rTI (cj @k0 (cj @k6 (cj @l1 @hg)))) ?_; refine hK _ _ ?_; clear hK K
                    rw [then_normal]
                    refine ifs ?_ ?_ <;> first | exact nope | intro hb
                    refine go (cj rTI (cj @h1 @k0)) ?_
                    exact ⟨rfl, fr⟩
                · obtain rfl : j = d.length := by omega
                  rw [List.take_length] at k8 hd
                  rw [htwo, if_pos hd]
                  have hvb : digV d ≤ 99 := digV_two d (by omega) hd
                  clear htwo hd
                  generalize digV d = v at *
                  refine go (cj rTI (cj @h1 (cj @k0 (cj @k6 @l1)))) ?_
                  refine ifs ?_ ?_ <;> first | exact nope | intro hb
                  refine go (cj @h1 (cj @k7 @k8)) ?_
                  exact ⟨by show _ = AV.tp [.v (.int .i64 (-(v : Int))), _]; simp, fr⟩
        · have hlen : 1 < r.length + 1 := by have := congrArg List.length hrd; simp only [List.length_cons] at this; omega
          have g1 := bs_get (101 :: r) h 1
          rw [show (101 :: r).getD 1 0 = 43 by rw [hrd]; rfl] at g1
          refine go (cj rTI (cj @h1 (cj @k0 (cj @l1 (cj @g1 @to1))))) ?_
          refine ifs ?_ ?_ <;> first | exact nope | intro hb
          refine go (cj rTI (cj @h1 (cj @k0 (cj @l1 (cj @g1 @to1))))) ?_
          rw [then_normal]
          refine ifs ?_ ?_ <;> first | exact nope | intro hb
          refine go (cj @h1 @k0) ?_

          have ldl : (101 :: r).length = d.length + 2 := by simp [hrd]
          have hget : ∀ j, (101 :: r).getD (2 + j) 0 = d.getD j 0 := fun j => by rw [hrd, Nat.add_comm]; rfl
          have hby : By d := fun c hc => h c (by simp [hrd, hc])
          rw [ldl] at l1 hl
          rw [hexp]
          by_cases q1 : d.length < 1
          · rw [two_bad d (fun h => by omega)]
            refine go (cj rTI (cj @h1 (cj @k0 @l1))) ?_
            refine ifs ?_ ?_ <;> first | exact nope | intro hb
            all_goals ((refine go @h1 ?_); exact ⟨rfl, fr⟩)
          · by_cases q2 : 2 < d.length
            · rw [two_bad d (fun h => by omega)]
              refine go (cj rTI (cj @h1 (cj @k0 @l1))) ?_
              refine ifs ?_ ?_ <;> first | exact nope | intro hb
              refine go @h1 ?_
              exact ⟨rfl, fr⟩
            · have htwo := two_good d (by omega) (by omega)
              refine go (cj rTI (cj @h1 (cj @k0 @l1))) ?_
              refine ifs ?_ ?_ <;> first | exact nope | intro hb
              refine go (cj @h1 @k0) ?_
              refine aw_loop (fun n e s2 => ∃ j : Nat, n = d.length - j ∧ j ≤ d.length ∧ e.n = 78 ∧ e.m 0 = .v (.string (bs (101 :: r))) ∧ e.m 6 = .v (.int .i64 ((2 + j : Nat) : Int)) ∧ e.m 7 = .v (.int .i64 1) ∧ e.m 8 = .v (.int .i64 (digV (d.take j) : Nat)) ∧ (∀ c ∈ d.take j, isD c = true) ∧ s2 = s') d.length ?_ ?_
              · refine ⟨0, ?_⟩
                refine rn (cj @h1 @k0) ?_
                exact ⟨by omega, by omega, rfl, rfl, fun c hc => by simp at hc⟩
              · clear h1 k0 k4
                rintro n e2 s2 ⟨j, rfl, hj, h1, k0, k6, k7, k8, hd, rfl⟩
                have z3 : ((2 + j : Nat) : Int) + 1 = ((2 + (j + 1) : Nat) : Int) := rfl
                by_cases hj2 : j < d.length
                · have hg := bs_get (101 :: r) h (2 + j)
                  rw [hget j] at hg
                  have hc : d.getD j 0 < 256 := by
                    rw [List.getD_eq_getElem?_getD, List.getElem?_eq_getElem hj2]
                    exact hby _ (List.getElem_mem hj2)
                  have hsn := take_snoc d j hj2
                  have hdd := isDigit_ax (d.getD j 0) hc
                  by_cases qd : isD (d.getD j 0) = true
                  · obtain ⟨e1, e2'⟩ := (isD_iff _).1 qd
                    have hv : digV (d.take (j + 1)) = 10 * digV (d.take j) + (d.getD j 0 - 48) := by rw [hsn, digV_snoc]
                    have hvb : digV (d.take j) ≤ 9 := by
                      have : j = 0 ∨ j = 1 := by omega
                      rcases this with rfl | rfl
                      · simp [digV]
                      · exact digV_one d hd
                    have hall : ∀ c ∈ d.take (j + 1), isD c = true := by
                      rw [hsn]
                      intro c hc
                      rcases List.mem_append.1 hc with hc | hc
                      · exact hd c hc
                      · rw [List.mem_singleton.1 hc]; exact qd
                    rw [qd] at hdd
                    clear qd
                    generalize d.getD j 0 = c at *
                    have e3 : ((c : Int) - 48) = ((c - 48 : Nat) : Int) := by omega
                    have e4 : 10 * (digV (d.take j) : Int) + ((c - 48 : Nat) : Int) = (digV (d.take (j + 1)) : Nat) := by rw [hv]; omega
                    generalize digV (d.take j) = v at *
                    generalize hv' : digV (d.take (j + 1)) = v' at *
                    refine go (cj rTI (cj @h1 (cj @k0 (cj @k6 @l1)))) ?_
                    refine ifs ?_ ?_ <;> first | exact nope | intro hb
                    refine go (cj @h1 @k0) ?_
                    refine aw_reg fun K hK => ?_; refine rn (cj rTI (cj @k0 (cj @k6 (cj @l1 @hg)))) ?_; refine cont_pure hdd ?_; refine rn (cj rTI (cj @k0 (cj @k6 (cj @l1 @hg)))) ?_; refine hK _ _ ?_; clear hK K
                    rw [then_normal]
                    refine ifs ?_ ?_ <;> first | exact nope | intro hb
                    refine go (cj rTI (cj @h1 (cj @k0 (cj @k6 (cj @k8 (cj @l1 (cj @hg (cj @e3 @e4)))))))) ?_
                    simp only [block_normal, loop_normal]
                    refine ⟨d.length - (j + 1), by omega, j + 1, rfl, by omega, ?_⟩
                    refine rn (cj @h1 (cj @k0 (cj @k6 (cj @k7 @z3)))) ?_
                    exact ⟨by rw [hv'], hall⟩
                  · have qd' : isD (d.getD j 0) = false := by simpa using qd
                    rw [qd'] at hdd
                    have hno : two d = none := by
                      rw [htwo, if_neg]
                      intro hall
                      apply qd
                      rw [List.getD_eq_getElem?_getD, List.getElem?_eq_getElem hj2]
                      exact hall _ (List.getElem_mem hj2)
                    rw [hno]
                    clear htwo hno qd qd' hsn hd
                    generalize d.getD j 0 = c at *
                    refine go (cj rTI (cj @h1 (cj @k0 (cj @k6 @l1)))) ?_
                    refine ifs ?_ ?_ <;> first | exact nope | intro hb
                    refine go (cj @h1 @k0) ?_
                    refine aw_reg fun K hK => ?_; refine rn (cj rTI (cj @k0 (cj @k6 (cj @l1 @hg)))) ?_; refine cont_pure hdd ?_; refine rn (cj rTI (cj @k0 (cj @k6 (cj @l1 @hg)))) ?_; refine hK _ _ ?_; clear hK K
                    rw [then_normal]
                    refine ifs ?_ ?_ <;> first | exact nope | intro hb
                    refine go (cj rTI (cj @h1 @k0)) ?_
                    exact ⟨rfl, fr⟩
                · obtain rfl : j = d.length := by omega
                  rw [List.take_length] at k8 hd
                  rw [htwo, if_pos hd]
                  have hvb : digV d ≤ 99 := digV_two d (by omega) hd
                  clear htwo hd
                  generalize digV d = v at *
                  refine go (cj rTI (cj @h1 (cj @k0 (cj @k6 @l1)))) ?_
                  refine ifs ?_ ?_ <;> first | exact nope | intro hb
                  refine go (cj @h1 (cj @k7 @k8)) ?_
                  exact ⟨by show _ = AV.tp [.v (.int .i64 (v : Int)), _]; simp, fr⟩
        · by_cases hlen : 1 < r.length + 1
          · have hlen' : 1 < (101 :: r).length := hlen
            have g1 := bs_get (101 :: r) h 1
            have hc1 : (101 :: r).getD 1 0 < 256 := by
              rw [List.getD_eq_getElem?_getD, List.getElem?_eq_getElem hlen']
              exact h _ (List.getElem_mem hlen')
            have hr1 : (101 :: r).getD 1 0 = r.getD 0 0 := rfl
            rw [hr1] at g1 hc1
            generalize r.getD 0 0 = c1 at *
            refine go (cj rTI (cj @h1 (cj @k0 (cj @l1 (cj @g1 @to1))))) ?_
            refine ifs ?_ ?_ <;> first | exact nope | intro hb
            refine go (cj @h1 @k0) ?_
            have ldl : (101 :: r).length = d.length + 1 := by simp [hrd]
            have hget : ∀ j, (101 :: r).getD (1 + j) 0 = d.getD j 0 := fun j => by rw [hrd, Nat.add_comm]; rfl
            have hby : By d := fun c hc => h c (by simp [hrd, hc])
            rw [ldl] at l1 hl
            rw [hexp]
            by_cases q1 : d.length < 1
            · rw [two_bad d (fun h => by omega)]
              refine go (cj rTI (cj @h1 (cj @k0 @l1))) ?_
              refine ifs ?_ ?_ <;> first | exact nope | intro hb
              all_goals (((first | refine go @h1 ?_ | exact go0 @h1)); exact ⟨rfl, fr⟩)
            · by_cases q2 : 2 < d.length
              · rw [two_bad d (fun h => by omega)]
                refine go (cj rTI (cj @h1 (cj @k0 @l1))) ?_
                refine ifs ?_ ?_ <;> first | exact nope | intro hb
                refine go @h1 ?_
                exact ⟨rfl, fr⟩
              · have htwo := two_good d (by omega) (by omega)
                refine go (cj rTI (cj @h1 (cj @k0 @l1))) ?_
                refine ifs ?_ ?_ <;> first | exact nope | intro hb
                refine go (cj @h1 @k0) ?_
                refine aw_loop (fun n e s2 => ∃ j : Nat, n = d.length - j ∧ j ≤ d.length ∧ e.n = 78 ∧ e.m 0 = .v (.string (bs (101 :: r))) ∧ e.m 6 = .v (.int .i64 ((1 + j : Nat) : Int)) ∧ e.m 7 = .v (.int .i64 1) ∧ e.m 8 = .v (.int .i64 (digV (d.take j) : Nat)) ∧ (∀ c ∈ d.take j, isD c = true) ∧ s2 = s') d.length ?_ ?_
                · refine ⟨0, ?_⟩
                  refine rn (cj @h1 @k0) ?_
                  exact ⟨by omega, by omega, rfl, rfl, fun c hc => by simp at hc⟩
                · clear h1 k0 k4
                  rintro n e2 s2 ⟨j, rfl, hj, h1, k0, k6, k7, k8, hd, rfl⟩
                  have z3 : ((1 + j : Nat) : Int) + 1 = ((1 + (j + 1) : Nat) : Int) := rfl
                  by_cases hj2 : j < d.length
                  · have hg := bs_get (101 :: r) h (1 + j)
                    rw [hget j] at hg
                    have hc : d.getD j 0 < 256 := by
                      rw [List.getD_eq_getElem?_getD, List.getElem?_eq_getElem hj2]
                      exact hby _ (List.getElem_mem hj2)
                    have hsn := take_snoc d j hj2
                    have hdd := isDigit_ax (d.getD j 0) hc
                    by_cases qd : isD (d.getD j 0) = true
                    · obtain ⟨e1, e2'⟩ := (isD_iff _).1 qd
                      have hv : digV (d.take (j + 1)) = 10 * digV (d.take j) + (d.getD j 0 - 48) := by rw [hsn, digV_snoc]
                      have hvb : digV (d.take j) ≤ 9 := by
                        have : j = 0 ∨ j = 1 := by omega
                        rcases this with rfl | rfl
                        · simp [digV]
                        · exact digV_one d hd
                      have hall : ∀ c ∈ d.take (j + 1), isD c = true := by
                        rw [hsn]
                        intro c hc
                        rcases List.mem_append.1 hc with hc | hc
                        · exact hd c hc
                        · rw [List.mem_singleton.1 hc]; exact qd
                      rw [qd] at hdd
                      clear qd
                      generalize d.getD j 0 = c at *
                      have e3 : ((c : Int) - 48) = ((c - 48 : Nat) : Int) := by omega
                      have e4 : 10 * (digV (d.take j) : Int) + ((c - 48 : Nat) : Int) = (digV (d.take (j + 1)) : Nat) := by rw [hv]; omega
                      generalize digV (d.take j) = v at *
                      generalize hv' : digV (d.take (j + 1)) = v' at *
                      refine go (cj rTI (cj @h1 (cj @k0 (cj @k6 @l1)))) ?_
                      refine ifs ?_ ?_ <;> first | exact nope | intro hb
                      refine go (cj @h1 @k0) ?_
                      refine aw_reg fun K hK => ?_; refine rn (cj rTI (cj @k0 (cj @k6 (cj @l1 @hg)))) ?_; refine cont_pure hdd ?_; refine rn (cj rTI (cj @k0 (cj @k6 (cj @l1 @hg)))) ?_; refine hK _ _ ?_; clear hK K
                      rw [then_normal]
                      refine ifs ?_ ?_ <;> first | exact nope | intro hb
                      refine go (cj rTI (cj @h1 (cj @k0 (cj @k6 (cj @k8 (cj @l1 (cj @hg (cj @e3 @e4)))))))) ?_
                      simp only [block_normal, loop_normal]
                      refine ⟨d.length - (j + 1), by omega, j + 1, rfl, by omega, ?_⟩
                      refine rn (cj @h1 (cj @k0 (cj @k6 (cj @k7 @z3)))) ?_
                      exact ⟨by rw [hv'], hall⟩
                    · have qd' : isD (d.getD j 0) = false := by simpa using qd
                      rw [qd'] at hdd
                      have hno : two d = none := by
                        rw [htwo, if_neg]
                        intro hall
                        apply qd
                        rw [List.getD_eq_getElem?_getD, List.getElem?_eq_getElem hj2]
                        exact hall _ (List.getElem_mem hj2)
                      rw [hno]
                      clear htwo hno qd qd' hsn hd
                      generalize d.getD j 0 = c at *
                      refine go (cj rTI (cj @h1 (cj @k0 (cj @k6 @l1)))) ?_
                      refine ifs ?_ ?_ <;> first | exact nope | intro hb
                      refine go (cj @h1 @k0) ?_
                      refine aw_reg fun K hK => ?_; refine rn (cj rTI (cj @k0 (cj @k6 (cj @l1 @hg)))) ?_; refine cont_pure hdd ?_; refine rn (cj rTI (cj @k0 (cj @k6 (cj @l1 @hg)))) ?_; refine hK _ _ ?_; clear hK K
                      rw [then_normal]
                      refine ifs ?_ ?_ <;> first | exact nope | intro hb
                      refine go (cj rTI (cj @h1 @k0)) ?_
                      exact ⟨rfl, fr⟩
                  · obtain rfl : j = d.length := by omega
                    rw [List.take_length] at k8 hd
                    rw [htwo, if_pos hd]
                    have hvb : digV d ≤ 99 := digV_two d (by omega) hd
                    clear htwo hd
                    generalize digV d = v at *
                    refine go (cj rTI (cj @h1 (cj @k0 (cj @k6 @l1)))) ?_
                    refine ifs ?_ ?_ <;> first | exact nope | intro hb
                    refine go (cj @h1 (cj @k7 @k8)) ?_
                    exact ⟨by show _ = AV.tp [.v (.int .i64 (v : Int)), _]; simp, fr⟩
          · refine go (cj rTI (cj @h1 (cj @k0 @l1))) ?_
            refine ifs ?_ ?_ <;> first | exact nope | intro hb
            refine go (cj @h1 @k0) ?_
            have ldl : (101 :: r).length = d.length + 1 := by simp [hrd]
            have hget : ∀ j, (101 :: r).getD (1 + j) 0 = d.getD j 0 := fun j => by rw [hrd, Nat.add_comm]; rfl
            have hby : By d := fun c hc => h c (by simp [hrd, hc])
            rw [ldl] at l1 hl
            rw [hexp]
            by_cases q1 : d.length < 1
            · rw [two_bad d (fun h => by omega)]
              refine go (cj rTI (cj @h1 (cj @k0 @l1))) ?_
              refine ifs ?_ ?_ <;> first | exact nope | intro hb
              all_goals ((refine go @h1 ?_); exact ⟨rfl, fr⟩)
            · by_cases q2 : 2 < d.length
              · rw [two_bad d (fun h => by omega)]
                refine go (cj rTI (cj @h1 (cj @k0 @l1))) ?_
                refine ifs ?_ ?_ <;> first | exact nope | intro hb
                refine go @h1 ?_
                exact ⟨rfl, fr⟩
              · have htwo := two_good d (by omega) (by omega)
                refine go (cj rTI (cj @h1 (cj @k0 @l1))) ?_
                refine ifs ?_ ?_ <;> first | exact nope | intro hb
                refine go (cj @h1 @k0) ?_
                refine aw_loop (fun n e s2 => ∃ j : Nat, n = d.length - j ∧ j ≤ d.length ∧ e.n = 78 ∧ e.m 0 = .v (.string (bs (101 :: r))) ∧ e.m 6 = .v (.int .i64 ((1 + j : Nat) : Int)) ∧ e.m 7 = .v (.int .i64 1) ∧ e.m 8 = .v (.int .i64 (digV (d.take j) : Nat)) ∧ (∀ c ∈ d.take j, isD c = true) ∧ s2 = s') d.length ?_ ?_
                · refine ⟨0, ?_⟩
                  refine rn (cj @h1 @k0) ?_
                  exact ⟨by omega, by omega, rfl, rfl, fun c hc => by simp at hc⟩
                · clear h1 k0 k4
                  rintro n e2 s2 ⟨j, rfl, hj, h1, k0, k6, k7, k8, hd, rfl⟩
                  have z3 : ((1 + j : Nat) : Int) + 1 = ((1 + (j + 1) : Nat) : Int) := rfl
                  by_cases hj2 : j < d.length
                  · have hg := bs_get (101 :: r) h (1 + j)
                    rw [hget j] at hg
                    have hc : d.getD j 0 < 256 := by
                      rw [List.getD_eq_getElem?_getD, List.getElem?_eq_getElem hj2]
                      exact hby _ (List.getElem_mem hj2)
                    have hsn := take_snoc d j hj2
                    have hdd := isDigit_ax (d.getD j 0) hc
                    by_cases qd : isD (d.getD j 0) = true
                    · obtain ⟨e1, e2'⟩ := (isD_iff _).1 qd
                      have hv : digV (d.take (j + 1)) = 10 * digV (d.take j) + (d.getD j 0 - 48) := by rw [hsn, digV_snoc]
                      have hvb : digV (d.take j) ≤ 9 := by
                        have : j = 0 ∨ j = 1 := by omega
                        rcases this with rfl | rfl
                        · simp [digV]
                        · exact digV_one d hd
                      have hall : ∀ c ∈ d.take (j + 1), isD c = true := by
                        rw [hsn]
                        intro c hc
                        rcases List.mem_append.1 hc with hc | hc
                        · exact hd c hc
                        · rw [List.mem_singleton.1 hc]; exact qd
                      rw [qd] at hdd
                      clear qd
                      generalize d.getD j 0 = c at *
                      have e3 : ((c : Int) - 48) = ((c - 48 : Nat) : Int) := by omega
                      have e4 : 10 * (digV (d.take j) : Int) + ((c - 48 : Nat) : Int) = (digV (d.take (j + 1)) : Nat) := by rw [hv]; omega
                      generalize digV (d.take j) = v at *
                      generalize hv' : digV (d.take (j + 1)) = v' at *
                      refine go (cj rTI (cj @h1 (cj @k0 (cj @k6 @l1)))) ?_
                      refine ifs ?_ ?_ <;> first | exact nope | intro hb
                      refine go (cj @h1 @k0) ?_
                      refine aw_reg fun K hK => ?_; refine rn (cj rTI (cj @k0 (cj @k6 (cj @l1 @hg)))) ?_; refine cont_pure hdd ?_; refine rn (cj rTI (cj @k0 (cj @k6 (cj @l1 @hg)))) ?_; refine hK _ _ ?_; clear hK K
                      rw [then_normal]
                      refine ifs ?_ ?_ <;> first | exact nope | intro hb
                      refine go (cj rTI (cj @h1 (cj @k0 (cj @k6 (cj @k8 (cj @l1 (cj @hg (cj @e3 @e4)))))))) ?_
                      simp only [block_normal, loop_normal]
                      refine ⟨d.length - (j + 1), by omega, j + 1, rfl, by omega, ?_⟩
                      refine rn (cj @h1 (cj @k0 (cj @k6 (cj @k7 @z3)))) ?_
                      exact ⟨by rw [hv'], hall⟩
                    · have qd' : isD (d.getD j 0) = false := by simpa using qd
                      rw [qd'] at hdd
                      have hno : two d = none := by
                        rw [htwo, if_neg]
                        intro hall
                        apply qd
                        rw [List.getD_eq_getElem?_getD, List.getElem?_eq_getElem hj2]
                        exact hall _ (List.getElem_mem hj2)
                      rw [hno]
                      clear htwo hno qd qd' hsn hd
                      generalize d.getD j 0 = c at *
                      refine go (cj rTI (cj @h1 (cj @k0 (cj @k6 @l1)))) ?_
                      refine ifs ?_ ?_ <;> first | exact nope | intro hb
                      refine go (cj @h1 @k0) ?_
                      refine aw_reg fun K hK => ?_; refine rn (cj rTI (cj @k0 (cj @k6 (cj @l1 @hg)))) ?_; refine cont_pure hdd ?_; refine rn (cj rTI (cj @k0 (cj @k6 (cj @l1 @hg)))) ?_; refine hK _ _ ?_; clear hK K
                      rw [then_normal]
                      refine ifs ?_ ?_ <;> first | exact nope | intro hb
                      refine go (cj rTI (cj @h1 @k0)) ?_
                      exact ⟨rfl, fr⟩
                  · obtain rfl : j = d.length := by omega
                    rw [List.take_length] at k8 hd
                    rw [htwo, if_pos hd]
                    have hvb : digV d ≤ 99 := digV_two d (by omega) hd
                    clear htwo hd
                    generalize digV d = v at *
                    refine go (cj rTI (cj @h1 (cj @k0 (cj @k6 @l1)))) ?_
                    refine ifs ?_ ?_ <;> first | exact nope | intro hb
                    refine go (cj @h1 (cj @k7 @k8)) ?_
                    exact ⟨by show _ = AV.tp [.v (.int .i64 (v : Int)), _]; simp, fr⟩
      · rw [show expL (c :: r) = none by unfold expL; split <;> simp_all]
        have hc : c < 256 := h c (by simp)
        refine go (cj rTI (cj @h1 (cj @k0 (cj @k4 @k5')))) ?_
        refine ifs ?_ ?_ <;> first | exact nope | intro hb
        refine go (cj rTI (cj @h1 (cj @k0 (cj @l1 (cj @g0 @tz))))) ?_
        rw [then_normal]
        refine ifs ?_ ?_ <;> first | exact nope | intro hb
        refine go (cj rTI (cj @h1 @k0)) ?_
        exact ⟨rfl, fr⟩
end Go.Proofs.YtfjelkjlfcafgaaGreatDoor.NumU
end
