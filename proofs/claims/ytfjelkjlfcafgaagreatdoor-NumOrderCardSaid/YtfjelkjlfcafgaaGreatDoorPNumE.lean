/- A part of the proof. -/
import Derived.Test.YtfjelkjlfcafgaaGreatDoorPNumD
import Derived.Test.YtfjelkjlfcafgaaGreatDoorCards
import Derived.Test.YtfjelkjlfcafgaaGreatDoorTie
import Derived.Lib.LaidTab
import Derived.Lib.ItoaNum
import Derived.Lay
import Derived.Carry
import Derived.Test.YtfjelkjlfcafgaaGreatDoorChecked
import Derived.WalkKit
import Derived.ProofKit
import Derived.WideShapes
import Derived.KernelRfl
import Derived.Stop.FmtTextKit
section
/- The library's contracts that the texts of numbers lean on, taken over. -/
namespace Go.Proofs.YtfjelkjlfcafgaaGreatDoor.NumL
open Go Go.RowKit Go.Proofs.YtfjelkjlfcafgaaGreatDoor.Ax Go.Proofs.YtfjelkjlfcafgaaGreatDoor.BigM Go.Proofs.YtfjelkjlfcafgaaGreatDoor.NumS Go.Proofs.YtfjelkjlfcafgaaGreatDoor.NumT
set_option linter.unusedSimpArgs false
set_option linter.unusedVariables false
set_option maxRecDepth 4000

theorem data_bs (l : List Nat) : (bs l).data.toList = l.map UInt8.ofNat := by
  show ((l.map UInt8.ofNat).toArray).toList = _
  rw [List.toList_toArray]
theorem ofNat_inj {a b : Nat} (ha : a < 256) (hb : b < 256) (h : UInt8.ofNat a = UInt8.ofNat b) : a = b := by
  have := congrArg UInt8.toNat h
  simpa [Nat.mod_eq_of_lt ha, Nat.mod_eq_of_lt hb] using this
theorem pre_one (l : List Nat) (h : By l) (c : Nat) (hc : c < 256) : Lib.hasPrefix (l.map UInt8.ofNat) [UInt8.ofNat c] = decide (l.head? = some c) := by
  cases l with
  | nil => rfl
  | cons a r =>
    have ha := h a (by simp)
    show (UInt8.ofNat c == UInt8.ofNat a && true) = _
    by_cases e : a = c
    · subst e; simp
    · have : UInt8.ofNat c ≠ UInt8.ofNat a := fun q => e (ofNat_inj ha hc q.symm)
      simp [this, e]
theorem below_self (w : World) : Below w.heap.size w w := Below.refl _ w
theorem hasPrefix_ax (l : List Nat) (h : By l) (c : Nat) (hc : c < 256) : PCall Tryz.prog 50 [.v (.string (bs l)), .v (.string (bs [c]))] (.v (.bool (decide (l.head? = some c)))) := by
  have e := pre_one l h c hc
  refine pcall_lift (us := [.string (bs l), .string (bs [c])]) (enters_of Tryz.func50 rfl rfl) (fun k => .v _) fun w => ?_
  refine (Tryz.strings_HasPrefix (bs l) (bs [c]) w).mono ?_
  rintro en w' ⟨rfl, rfl⟩
  rw [data_bs, data_bs, List.map_cons, List.map_nil, e]
  exact ⟨rfl, below_self _⟩
def cut1 (l : List Nat) (c : Nat) : List Nat := if l.head? = some c then l.tail else l
theorem cutPrefix_ax (l : List Nat) (h : By l) (c : Nat) (hc : c < 256) : PCall Tryz.prog 48 [.v (.string (bs l)), .v (.string (bs [c]))] (.tp [.v (.string (bs (cut1 l c))), .v (.bool (decide (l.head? = some c)))]) := by
  have e := pre_one l h c hc
  refine pcall_lift (us := [.string (bs l), .string (bs [c])]) (v := .tuple #[.string (bs (cut1 l c)), .bool (decide (l.head? = some c))]) (enters_of Tryz.func48 rfl rfl) (fun k => .tp _ [_, _] rfl fun j z u hz hu => ?_) fun w => ?_
  · match j with
    | 0 => simp at hz hu; subst hz hu; exact .v _
    | 1 => simp at hz hu; subst hz hu; exact .v _
    | j + 2 => simp at hz
  refine (Tryz.strings_CutPrefix (bs l) (bs [c]) w).mono ?_
  rintro en w' ⟨rfl, rfl⟩
  rw [data_bs, data_bs, List.map_cons, List.map_nil]
  unfold Lib.trimPrefix
  rw [e]
  refine ⟨?_, below_self _⟩
  unfold cut1
  by_cases q : l.head? = some c
  · rw [if_pos q, decide_eq_true q, if_pos rfl]
    cases l with
    | nil => cases q
    | cons a r => rfl
  · rw [if_neg q, decide_eq_false q, if_neg (by simp)]
    rfl
/-- Without noughts at the front; at the end. -/
def lead (l : List Nat) : List Nat := l.dropWhile (· == 48)
def trail (l : List Nat) : List Nat := (l.reverse.dropWhile (· == 48)).reverse
theorem drop_map (l : List Nat) (h : By l) : (l.map UInt8.ofNat).dropWhile (· == UInt8.ofNat 48) = (l.dropWhile (· == 48)).map UInt8.ofNat := by
  induction l with
  | nil => rfl
  | cons a r ih =>
    have ha := h a (by simp)
    have ih := ih fun c hc => h c (by simp [hc])
    rw [List.map_cons, List.dropWhile_cons, List.dropWhile_cons]
    by_cases e : a = 48
    · subst e; simp only [beq_self_eq_true, if_true]; exact ih
    · have : UInt8.ofNat a ≠ UInt8.ofNat 48 := fun q => e (ofNat_inj ha (by decide) q)
      rw [if_neg (by simpa using this), if_neg (by simpa using e)]
      rfl
theorem trimLeft_ax (l : List Nat) (h : By l) : PCall Tryz.prog 52 [.v (.string (bs l)), .v (.string (bs [48]))] (.v (.string (bs (lead l)))) := by
  refine pcall_lift (us := [.string (bs l), .string (bs [48])]) (enters_of Tryz.func52 rfl rfl) (fun k => .v _) fun w => ?_
  refine (Tryz.strings_TrimLeft_one (bs l) (UInt8.ofNat 48) (by decide) w).mono ?_
  rintro en w' ⟨rfl, rfl⟩
  refine ⟨?_, below_self _⟩
  rw [data_bs]
  unfold Lib.trimLeftB
  rw [drop_map l h]
  rfl
theorem trimRight_ax (l : List Nat) (h : By l) (hl : l.length ≤ 1000000000) : PCall Tryz.prog 53 [.v (.string (bs l)), .v (.string (bs [48]))] (.v (.string (bs (trail l)))) := by
  refine pcall_lift (us := [.string (bs l), .string (bs [48])]) (enters_of Tryz.func53 rfl rfl) (fun k => .v _) fun w => ?_
  refine (Tryz.strings_TrimRight_one (bs l) (UInt8.ofNat 48) (by decide) w (by rw [bs_size]; omega)).mono ?_
  rintro en w' ⟨rfl, rfl⟩
  refine ⟨?_, below_self _⟩
  rw [data_bs]
  unfold Lib.trimRightB
  rw [← List.map_reverse, drop_map _ (fun c hc => h c (List.mem_reverse.1 hc)), ← List.map_reverse]
  rfl
theorem dec_from (l : List Nat) (h : ∀ c ∈ l, isD c = true) : ∀ acc, Lib.decFrom acc (l.map UInt8.ofNat) = some (l.foldl (fun a c => 10 * a + (c - 48)) acc) := by
  induction l with
  | nil => intro acc; rfl
  | cons a r ih =>
    intro acc
    have ha := (isD_iff a).1 (h a (by simp))
    have hd : Lib.digitVal (UInt8.ofNat a) = some (a - 48) := by
      unfold Lib.digitVal
      have : (UInt8.ofNat a).toNat = a := by simp; omega
      rw [this, if_pos ha]
    rw [List.map_cons, List.foldl_cons, Lib.decFrom, hd]
    simp only
    rw [ih (fun c hc => h c (by simp [hc]))]
    congr 2
    omega
theorem atoi_ax (l : List Nat) (h : ∀ c ∈ l, isD c = true) (h0 : l ≠ []) (hl : l.length ≤ 18) : PCall Tryz.prog 102 [.v (.string (bs l))] (.tp [.v (.int .i64 (digV l : Nat)), .v .nilIface]) := by
  refine pcall_lift (us := [.string (bs l)]) (v := .tuple #[.int .i64 (digV l : Nat), .nilIface]) (enters_of Tryz.func102 rfl rfl) (fun k => .tp _ [_, _] rfl fun j z u hz hu => ?_) fun w => ?_
  · match j with
    | 0 => simp at hz hu; subst hz hu; exact .v _
    | 1 => simp at hz hu; subst hz hu; exact .v _
    | j + 2 => simp at hz
  refine (Tryz.strconv_Atoi (bs l) (digV l : Nat) (by rw [bs_size]; exact hl) ?_ w).mono ?_
  · rw [data_bs]
    cases l with
    | nil => exact absurd rfl h0
    | cons a r =>
      have ha := (isD_iff a).1 (h a (by simp))
      have h45 : (UInt8.ofNat a == 45) = false := by
        rw [beq_eq_false_iff_ne]
        intro q
        have := ofNat_inj (b := 45) (by omega) (by decide) q
        omega
      have h43 : (UInt8.ofNat a == 43) = false := by
        rw [beq_eq_false_iff_ne]
        intro q
        have := ofNat_inj (b := 43) (by omega) (by decide) q
        omega
      have hf := dec_from (a :: r) h 0
      rw [List.map_cons] at hf ⊢
      show (if (UInt8.ofNat a == 45) = true then Option.map (fun (m : Nat) => -(m : Int)) (Lib.decNat (List.map UInt8.ofNat r)) else if (UInt8.ofNat a == 43) = true then Option.map (fun (m : Nat) => (m : Int)) (Lib.decNat (List.map UInt8.ofNat r)) else Option.map (fun (m : Nat) => (m : Int)) (Lib.decNat (UInt8.ofNat a :: List.map UInt8.ofNat r))) = _
      rw [h45, h43]
      simp only [Bool.false_eq_true, if_false]
      unfold Lib.decNat
      rw [List.isEmpty_cons, if_neg (by simp), hf]
      rfl
  · rintro en w' ⟨rfl, t, rfl⟩
    exact ⟨rfl, Lib.bytesWorld_below _ _ _⟩
theorem uint_from (l : List Nat) (h : ∀ c ∈ l, isD c = true) : ∀ acc, (acc + 1) * 10 ^ l.length ≤ 1000000000 → Lib.parseUintM (2 ^ 64 - 1) acc (l.map UInt8.ofNat) = .ok (l.foldl (fun a c => 10 * a + (c - 48)) acc) := by
  induction l with
  | nil => intro acc hb; rfl
  | cons a r ih =>
    intro acc hb
    have ha := (isD_iff a).1 (h a (by simp))
    have e : (UInt8.ofNat a).toNat = a := by simp; omega
    rw [List.length_cons, Nat.pow_succ] at hb
    have hpos : 1 ≤ 10 ^ r.length := Nat.pow_pos (by decide)
    have h1 : (acc + 1) * (1 * 10) ≤ (acc + 1) * (10 ^ r.length * 10) := Nat.mul_le_mul_left _ (Nat.mul_le_mul_right _ hpos)
    have h2 : (acc * 10 + (a - 48) + 1) * 10 ^ r.length ≤ (acc + 1) * (10 ^ r.length * 10) := by
      rw [Nat.mul_comm (10 ^ r.length), ← Nat.mul_assoc]
      exact Nat.mul_le_mul_right _ (by omega)
    rw [List.map_cons, List.foldl_cons, Lib.parseUintM, e, if_pos ha, if_neg (by omega), if_neg (by omega), ih (fun c hc => h c (by simp [hc])) _ (by omega), Nat.mul_comm acc]
theorem parseInt_ax (l : List Nat) (h : ∀ c ∈ l, isD c = true) (h0 : l ≠ []) (hl : l.length ≤ 9) : PCall Tryz.prog 54 [.v (.string (bs l)), .v (.int .i64 10), .v (.int .i64 64)] (.tp [.v (.int .i64 (digV l : Nat)), .v .nilIface]) := by
  refine pcall_lift (us := [.string (bs l), .int .i64 10, .int .i64 64]) (v := .tuple #[.int .i64 (digV l : Nat), .nilIface]) (enters_of Tryz.func54 rfl rfl) (fun k => .tp _ [_, _] rfl fun j z u hz hu => ?_) fun w => ?_
  · match j with
    | 0 => simp at hz hu; subst hz hu; exact .v _
    | 1 => simp at hz hu; subst hz hu; exact .v _
    | j + 2 => simp at hz
  refine (Tryz.strconv_ParseInt_10_at64_ok (bs l) (by rw [bs_size]; omega) (digV l : Nat) ?_ w).mono ?_
  · rw [data_bs]
    have hb : (0 + 1) * 10 ^ l.length ≤ 1000000000 := by
      rw [Nat.zero_add, Nat.one_mul]
      exact Nat.le_trans (Nat.pow_le_pow_right (by decide) hl) (by decide)
    have hf := uint_from l h 0 hb
    cases l with
    | nil => exact absurd rfl h0
    | cons a r =>
      have ha := (isD_iff a).1 (h a (by simp))
      have e : (UInt8.ofNat a).toNat = a := by simp; omega
      rw [List.map_cons] at hf ⊢
      have hlt : digV (a :: r) < 2 ^ 63 := by
        have : ∀ (l : List Nat) (acc : Nat), (∀ c ∈ l, isD c = true) → l.foldl (fun a c => 10 * a + (c - 48)) acc + 1 ≤ (acc + 1) * 10 ^ l.length := by
          intro l
          induction l with
          | nil => intro acc _; simp
          | cons b l ih =>
            intro acc hd
            have hb := (isD_iff b).1 (hd b (by simp))
            have h3 := ih (10 * acc + (b - 48)) fun c hc => hd c (by simp [hc])
            rw [List.foldl_cons, List.length_cons, Nat.pow_succ, Nat.mul_comm (10 ^ l.length), ← Nat.mul_assoc]
            exact Nat.le_trans h3 (Nat.mul_le_mul_right _ (by omega))
        have h4 := this (a :: r) 0 h
        have h5 : digV (a :: r) + 1 ≤ (0 + 1) * 10 ^ (a :: r).length := h4
        omega
      unfold Lib.parseIntB Lib.parseUintB
      have n1 : ¬ (a = 43 ∨ a = 45) := by omega
      have n2 : ¬ a = 45 := by omega
      have hh : List.foldl (fun a c => 10 * a + (c - 48)) 0 (a :: r) = digV (a :: r) := rfl
      rw [hh] at hf
      simp only [e, if_neg n1, if_neg (List.cons_ne_nil _ _), hf]
      rw [if_neg (by omega), if_neg (by omega), if_neg n2]
  · rintro en w' ⟨rfl, q⟩
    refine ⟨rfl, ?_⟩
    rcases q with rfl | ⟨t, rfl⟩
    · exact below_self _
    · exact Lib.bytesWorld_below _ _ _
end Go.Proofs.YtfjelkjlfcafgaaGreatDoor.NumL
end
section
/- Plain lists: what num.Parse makes of digits. -/
namespace Go.Proofs.YtfjelkjlfcafgaaGreatDoor.NumP
open Go.Proofs.YtfjelkjlfcafgaaGreatDoor.BigM Go.Proofs.YtfjelkjlfcafgaaGreatDoor.NumS Go.Proofs.YtfjelkjlfcafgaaGreatDoor.NumT Go.Proofs.YtfjelkjlfcafgaaGreatDoor.NumL
set_option linter.unusedVariables false

theorem dw (m : List Nat) : ∃ n, m = List.replicate n 48 ++ m.dropWhile (· == 48) ∧ ∀ c, (m.dropWhile (· == 48)).head? = some c → c ≠ 48 := by
  induction m with
  | nil => exact ⟨0, rfl, fun c h => by cases h⟩
  | cons a m ih =>
    rw [List.dropWhile_cons]
    by_cases e : a = 48
    · obtain ⟨n, h1, h2⟩ := ih
      subst e
      simp only [beq_self_eq_true, if_true]
      refine ⟨n + 1, ?_, h2⟩
      rw [List.replicate_succ, List.cons_append, ← h1]
    · rw [if_neg (by simpa using e)]
      exact ⟨0, rfl, fun c h => by obtain rfl : a = c := by simpa using h
                                   exact e⟩
theorem fold_acc (l : List Nat) : ∀ acc, l.foldl (fun a c => 10 * a + (c - 48)) acc = acc * 10 ^ l.length + digV l := by
  induction l with
  | nil => intro acc; simp [digV]
  | cons c l ih =>
    intro acc
    have h0 : digV (c :: l) = l.foldl (fun a c => 10 * a + (c - 48)) (10 * 0 + (c - 48)) := rfl
    rw [List.foldl_cons, ih, h0, ih, List.length_cons, Nat.pow_succ, Nat.mul_zero, Nat.zero_add]
    have e1 : (10 * acc + (c - 48)) * 10 ^ l.length = acc * (10 ^ l.length * 10) + (c - 48) * 10 ^ l.length := by
      rw [Nat.add_mul, Nat.mul_comm 10 acc, Nat.mul_assoc, Nat.mul_comm 10]
    omega
theorem digV_append (a b : List Nat) : digV (a ++ b) = digV a * 10 ^ b.length + digV b := by
  unfold digV
  rw [List.foldl_append, fold_acc]
  rfl
theorem digV_rep (n : Nat) : digV (List.replicate n 48) = 0 := by
  have := digV_zeros [] n
  rw [List.nil_append] at this
  rw [this]
  simp [digV]
theorem lead_val (l : List Nat) : digV (lead l) = digV l := by
  obtain ⟨n, h1, h2⟩ := dw l
  have : digV l = digV (List.replicate n 48 ++ lead l) := congrArg digV h1
  rw [this, digV_append, digV_rep]
  simp
theorem lead_sub (l : List Nat) : ∀ c ∈ lead l, c ∈ l := fun c h => (List.dropWhile_sublist _).subset h
theorem lead_len (l : List Nat) : (lead l).length ≤ l.length := (List.dropWhile_sublist _).length_le
theorem trail_eq (l : List Nat) : ∃ n, l = trail l ++ List.replicate n 48 ∧ (∀ c, (trail l).reverse.head? = some c → c ≠ 48) := by
  obtain ⟨n, h1, h2⟩ := dw l.reverse
  refine ⟨n, ?_, fun c h => h2 c (by unfold trail at h; rw [List.reverse_reverse] at h; exact h)⟩
  have h3 := congrArg List.reverse h1
  rw [List.reverse_reverse, List.reverse_append, List.reverse_replicate] at h3
  exact h3
theorem dig_lt (l : List Nat) (h : ∀ c ∈ l, isD c = true) : digV l < 10 ^ l.length := by
  induction l with
  | nil => simp [digV]
  | cons c l ih =>
    have hc := (isD_iff c).1 (h c (by simp))
    have := ih fun x hx => h x (by simp [hx])
    have e := digV_append [c] l
    rw [List.singleton_append] at e
    rw [e, List.length_cons, Nat.pow_succ]
    have e1 : digV [c] = c - 48 := by simp [digV]
    rw [e1]
    have h2 : (c - 48) * 10 ^ l.length ≤ 9 * 10 ^ l.length := Nat.mul_le_mul_right _ (by omega)
    omega
theorem dig_ge (c : Nat) (l : List Nat) (h : 49 ≤ c) : 10 ^ l.length ≤ digV (c :: l) := by
  have e := digV_append [c] l
  rw [List.singleton_append] at e
  have e1 : digV [c] = c - 48 := by simp [digV]
  rw [e, e1]
  have h2 : 1 * 10 ^ l.length ≤ (c - 48) * 10 ^ l.length := Nat.mul_le_mul_right _ (by omega)
  omega
/-- What is read of digits, and an exponent. -/
theorem fin_parse (neg : Bool) (ds : List Nat) (X : Int) (h : ∀ c ∈ ds, isD c = true) :
    (lead ds = [] → finS neg (digV ds) X = (0, 0, 0)) ∧
    (lead ds ≠ [] → trail (lead ds) ≠ [] ∧ (∀ c ∈ trail (lead ds), isD c = true) ∧ (trail (lead ds)).length ≤ (lead ds).length ∧
      (if (trail (lead ds)).length > 9 ∨ X + ((lead ds).length - (trail (lead ds)).length : Nat) < -18 ∨ X + ((lead ds).length - (trail (lead ds)).length : Nat) > 9 then finS neg (digV ds) X = (0, 0, 30)
       else finS neg (digV ds) X = (if neg then -(digV (trail (lead ds)) : Int) else digV (trail (lead ds)), X + ((lead ds).length - (trail (lead ds)).length : Nat), 0))) := by
  have hv := lead_val ds
  have hl : ∀ c ∈ lead ds, isD c = true := fun c hc => h c (lead_sub ds c hc)
  obtain ⟨_, _, hhead⟩ := dw ds
  constructor
  · intro e
    rw [e] at hv
    unfold finS
    rw [← hv]
    rfl
  · intro hne
    obtain ⟨n, t1, t2⟩ := trail_eq (lead ds)
    have hlen := congrArg List.length t1
    rw [List.length_append, List.length_replicate] at hlen
    have hval := congrArg digV t1
    rw [digV_zeros, hv] at hval
    have hds : ∀ c ∈ trail (lead ds), isD c = true := fun c hc => hl c (by rw [t1]; exact List.mem_append_left _ hc)
    have hh : ∀ c, (lead ds).head? = some c → 49 ≤ c := fun c hc => by
      have a := hhead c hc
      have b := (isD_iff c).1 (hl c (List.mem_of_head? hc))
      omega
    have htne : trail (lead ds) ≠ [] := fun e => by
      rw [e, List.nil_append] at t1
      cases n with
      | zero => exact hne t1
      | succ n =>
        have := hh 48 (by rw [t1]; rfl)
        omega
    generalize hT : trail (lead ds) = T at *
    obtain ⟨c, r, rfl⟩ : ∃ c r, T = c :: r := by
      cases T with
      | nil => exact absurd rfl htne
      | cons c r => exact ⟨c, r, rfl⟩
    have hc49 : 49 ≤ c := hh c (by rw [t1]; rfl)
    have hge := dig_ge c r hc49
    have hlt := dig_lt (c :: r) hds
    have hpos : 0 < digV (c :: r) := Nat.lt_of_lt_of_le (Nat.pow_pos (by decide)) hge
    have hmod : digV (c :: r) % 10 ≠ 0 := by
      obtain ⟨x, y, hxy⟩ : ∃ x y, c :: r = x ++ [y] := ⟨(c :: r).dropLast, (c :: r).getLast (by simp), (List.dropLast_concat_getLast (by simp)).symm⟩
      have hy := t2 y (by rw [hxy]; simp)
      have hyd := (isD_iff y).1 (hds y (by rw [hxy]; simp))
      rw [hxy, digV_snoc]
      omega
    have hst : strip (digV ds) X = (digV (c :: r), X + n) := by rw [hval, strip_pow _ hpos, strip_stop _ _ (fun q => hmod q.2)]
    have hd0 : digV ds ≠ 0 := by
      rw [hval]
      have := Nat.mul_pos hpos (Nat.pow_pos (n := n) (show 0 < 10 by decide))
      omega
    have hn : (lead ds).length - (c :: r).length = n := by omega
    refine ⟨htne, hds, by omega, ?_⟩
    rw [hn]
    have h9 : (c :: r).length > 9 ↔ ¬ digV (c :: r) ≤ 999999999 := by
      constructor
      · intro q
        have : 10 ^ 9 ≤ 10 ^ r.length := Nat.pow_le_pow_right (by decide) (by rw [List.length_cons] at q; omega)
        omega
      · intro q
        refine Nat.lt_of_not_le fun q2 => q ?_
        have : 10 ^ (c :: r).length ≤ 10 ^ 9 := Nat.pow_le_pow_right (by decide) q2
        omega
    unfold finS
    rw [if_neg hd0, hst]
    simp only
    by_cases q : (c :: r).length > 9 ∨ X + (n : Int) < -18 ∨ X + (n : Int) > 9
    · rw [if_pos q, if_neg]
      rintro ⟨a, b, d⟩
      rcases q with q | q | q
      · exact (h9.1 q) a
      · omega
      · omega
    · rw [if_neg q, if_pos]
      refine ⟨?_, by omega, by omega⟩
      have q1 : ¬ (c :: r).length > 9 := fun e => q (.inl e)
      rw [h9] at q1
      omega
theorem parse_cut (l : List Nat) (h : l.length ≤ 32) : parseS l = bodyS (decide (l.head? = some 45)) (cut1 l 45) := by
  unfold parseS cut1
  rw [if_neg (by omega)]
  split
  · rfl
  · rename_i hne
    cases l with
    | nil => rfl
    | cons a r =>
      have : a ≠ 45 := fun e => hne r (by rw [e])
      simp [this]
theorem fr_take (r : List Nat) : r.take (fr r).length = fr r := by
  have h2 : (fr r ++ bk r).take (fr r).length = fr r := List.take_left
  rw [fr_bk] at h2
  exact h2
theorem bk_drop (r : List Nat) : r.drop (fr r).length = bk r := by
  have h2 : (fr r ++ bk r).drop (fr r).length = bk r := List.drop_left
  rw [fr_bk] at h2
  exact h2
end Go.Proofs.YtfjelkjlfcafgaaGreatDoor.NumP
end
section
/- Texts of numbers: num.letters. -/
namespace Go.Proofs.YtfjelkjlfcafgaaGreatDoor.NumV
open Go Go.RowKit Go.Proofs.YtfjelkjlfcafgaaGreatDoor.Ax Go.Proofs.YtfjelkjlfcafgaaGreatDoor.Ti Go.Proofs.YtfjelkjlfcafgaaGreatDoor.BigM Go.Proofs.YtfjelkjlfcafgaaGreatDoor.NumS Go.Proofs.YtfjelkjlfcafgaaGreatDoor.NumA Go.Proofs.YtfjelkjlfcafgaaGreatDoor.NumT Go.Proofs.YtfjelkjlfcafgaaGreatDoor.NumU Go.Proofs.YtfjelkjlfcafgaaGreatDoor.NumL
set_option linter.unusedSimpArgs false
set_option linter.unusedVariables false
set_option maxRecDepth 4000
set_option maxHeartbeats 2000000
theorem rTI : type_of% (cj @ti3 (cj @ti2 (cj @ti4 (cj @ti9 (cj @ti5 (cj @ti36 (cj @ti24 @ti25))))))) := cj @ti3 (cj @ti2 (cj @ti4 (cj @ti9 (cj @ti5 (cj @ti36 (cj @ti24 @ti25))))))

theorem fr_full (d : List Nat) : (fr d).length = d.length ↔ ∀ c ∈ d, isD c = true := by
  constructor
  · intro h
    have h1 := fr_bk d
    have h2 := congrArg List.length h1
    rw [List.length_append] at h2
    have h3 : bk d = [] := List.length_eq_zero_iff.1 (by omega)
    rw [h3, List.append_nil] at h1
    rw [← h1]
    exact fr_all d
  · intro h
    have := (fr_app d [] h (fun c hc => by cases hc)).1
    rw [List.append_nil] at this
    rw [this]
theorem slice_one (c : Nat) (r : List Nat) (n : Nat) (hn : n = r.length + 1) : (bs (c :: r)).extract 1 n = bs r := by
  subst hn
  rw [bs_slice, List.drop_one, List.tail_cons, Nat.add_sub_cancel, List.take_length]
theorem beq_c (l : List Nat) (h : By l) (m : List Nat) (hm : By m) (b : Bool) (hb : decide (l = m) = b) : ((bs l).toList == (bs m).toList) = b := by rw [bs_beq l m h hm, hb]
theorem letters_ax (l : List Nat) (h : By l) (hl : l.length ≤ 1000000000) : PCall Tryz.prog 51 [.v (.string (bs l))] (tailV (lettersS l)) := by
  have hid : idf (tailV (lettersS l)) = true := by cases lettersS l <;> rfl
  refine pcall_of fun s => ?_
  rw [hid]
  by_cases w5 : l = []
  · subst w5
    have e5 : ((bs []).toList == (ByteArray.mk #[]).toList) = true := beq_c [] h [] (letter_by 5) true (by decide)
    have e0 : ((bs []).toList == (ByteArray.mk #[102]).toList) = false := beq_c [] h [102] (letter_by 0) false (by decide)
    have e1 : ((bs []).toList == (ByteArray.mk #[112]).toList) = false := beq_c [] h [112] (letter_by 1) false (by decide)
    have e2 : ((bs []).toList == (ByteArray.mk #[110]).toList) = false := beq_c [] h [110] (letter_by 2) false (by decide)
    have e3 : ((bs []).toList == (ByteArray.mk #[117]).toList) = false := beq_c [] h [117] (letter_by 3) false (by decide)
    have e4 : ((bs []).toList == (ByteArray.mk #[109]).toList) = false := beq_c [] h [109] (letter_by 4) false (by decide)
    have e6 : ((bs []).toList == (ByteArray.mk #[107]).toList) = false := beq_c [] h [107] (letter_by 6) false (by decide)
    have e7 : ((bs []).toList == (ByteArray.mk #[109, 101, 103]).toList) = false := beq_c [] h [109, 101, 103] (letter_by 7) false (by decide)
    have e8 : ((bs []).toList == (ByteArray.mk #[103]).toList) = false := beq_c [] h [103] (letter_by 8) false (by decide)
    have e9 : ((bs []).toList == (ByteArray.mk #[116]).toList) = false := beq_c [] h [116] (letter_by 9) false (by decide)
    rw [show lettersS [] = some (0) from rfl]
    refine acall_of Tryz.func51 rfl rfl (by simp [Tryz.ntmps51]) ?_; rw [Tryz.ntmps51, Tryz.results51]
    (first | refine go (cj rTI (cj @e5 (cj @e0 (cj @e1 (cj @e2 (cj @e3 (cj @e4 (cj @e6 (cj @e7 (cj @e8 @e9)))))))))) ?_ | exact go0 (cj rTI (cj @e5 (cj @e0 (cj @e1 (cj @e2 (cj @e3 (cj @e4 (cj @e6 (cj @e7 (cj @e8 @e9)))))))))))
    all_goals (try ((try rw [then_normal]); (try refine aw_seq ?_); refine aw_cond rfl ?_ ?_ <;> intro hb <;> (try (cases hb; done)) <;> (try simp only [bq] at hb) <;> (try (exfalso; omega)); (first | refine go (cj rTI (cj @e5 (cj @e0 (cj @e1 (cj @e2 (cj @e3 (cj @e4 (cj @e6 (cj @e7 (cj @e8 @e9)))))))))) ?_ | exact go0 (cj rTI (cj @e5 (cj @e0 (cj @e1 (cj @e2 (cj @e3 (cj @e4 (cj @e6 (cj @e7 (cj @e8 @e9)))))))))))))
    all_goals rfl
  by_cases w0 : l = [102]
  · subst w0
    have e5 : ((bs [102]).toList == (ByteArray.mk #[]).toList) = false := beq_c [102] h [] (letter_by 5) false (by decide)
    have e0 : ((bs [102]).toList == (ByteArray.mk #[102]).toList) = true := beq_c [102] h [102] (letter_by 0) true (by decide)
    have e1 : ((bs [102]).toList == (ByteArray.mk #[112]).toList) = false := beq_c [102] h [112] (letter_by 1) false (by decide)
    have e2 : ((bs [102]).toList == (ByteArray.mk #[110]).toList) = false := beq_c [102] h [110] (letter_by 2) false (by decide)
    have e3 : ((bs [102]).toList == (ByteArray.mk #[117]).toList) = false := beq_c [102] h [117] (letter_by 3) false (by decide)
    have e4 : ((bs [102]).toList == (ByteArray.mk #[109]).toList) = false := beq_c [102] h [109] (letter_by 4) false (by decide)
    have e6 : ((bs [102]).toList == (ByteArray.mk #[107]).toList) = false := beq_c [102] h [107] (letter_by 6) false (by decide)
    have e7 : ((bs [102]).toList == (ByteArray.mk #[109, 101, 103]).toList) = false := beq_c [102] h [109, 101, 103] (letter_by 7) false (by decide)
    have e8 : ((bs [102]).toList == (ByteArray.mk #[103]).toList) = false := beq_c [102] h [103] (letter_by 8) false (by decide)
    have e9 : ((bs [102]).toList == (ByteArray.mk #[116]).toList) = false := beq_c [102] h [116] (letter_by 9) false (by decide)
    rw [show lettersS [102] = some (-15) from rfl]
    refine acall_of Tryz.func51 rfl rfl (by simp [Tryz.ntmps51]) ?_; rw [Tryz.ntmps51, Tryz.results51]
    (first | refine go (cj rTI (cj @e5 (cj @e0 (cj @e1 (cj @e2 (cj @e3 (cj @e4 (cj @e6 (cj @e7 (cj @e8 @e9)))))))))) ?_ | exact go0 (cj rTI (cj @e5 (cj @e0 (cj @e1 (cj @e2 (cj @e3 (cj @e4 (cj @e6 (cj @e7 (cj @e8 @e9)))))))))))
    all_goals (try ((try rw [then_normal]); (try refine aw_seq ?_); refine aw_cond rfl ?_ ?_ <;> intro hb <;> (try (cases hb; done)) <;> (try simp only [bq] at hb) <;> (try (exfalso; omega)); (first | refine go (cj rTI (cj @e5 (cj @e0 (cj @e1 (cj @e2 (cj @e3 (cj @e4 (cj @e6 (cj @e7 (cj @e8 @e9)))))))))) ?_ | exact go0 (cj rTI (cj @e5 (cj @e0 (cj @e1 (cj @e2 (cj @e3 (cj @e4 (cj @e6 (cj @e7 (cj @e8 @e9)))))))))))))
    all_goals (try ((try rw [then_normal]); (try refine aw_seq ?_); refine aw_cond rfl ?_ ?_ <;> intro hb <;> (try (cases hb; done)) <;> (try simp only [bq] at hb) <;> (try (exfalso; omega)); (first | refine go (cj rTI (cj @e5 (cj @e0 (cj @e1 (cj @e2 (cj @e3 (cj @e4 (cj @e6 (cj @e7 (cj @e8 @e9)))))))))) ?_ | exact go0 (cj rTI (cj @e5 (cj @e0 (cj @e1 (cj @e2 (cj @e3 (cj @e4 (cj @e6 (cj @e7 (cj @e8 @e9)))))))))))))
    all_goals rfl
  by_cases w1 : l = [112]
  · subst w1
    have e5 : ((bs [112]).toList == (ByteArray.mk #[]).toList) = false := beq_c [112] h [] (letter_by 5) false (by decide)
    have e0 : ((bs [112]).toList == (ByteArray.mk #[102]).toList) = false := beq_c [112] h [102] (letter_by 0) false (by decide)
    have e1 : ((bs [112]).toList == (ByteArray.mk #[112]).toList) = true := beq_c [112] h [112] (letter_by 1) true (by decide)
    have e2 : ((bs [112]).toList == (ByteArray.mk #[110]).toList) = false := beq_c [112] h [110] (letter_by 2) false (by decide)
    have e3 : ((bs [112]).toList == (ByteArray.mk #[117]).toList) = false := beq_c [112] h [117] (letter_by 3) false (by decide)
    have e4 : ((bs [112]).toList == (ByteArray.mk #[109]).toList) = false := beq_c [112] h [109] (letter_by 4) false (by decide)
    have e6 : ((bs [112]).toList == (ByteArray.mk #[107]).toList) = false := beq_c [112] h [107] (letter_by 6) false (by decide)
    have e7 : ((bs [112]).toList == (ByteArray.mk #[109, 101, 103]).toList) = false := beq_c [112] h [109, 101, 103] (letter_by 7) false (by decide)
    have e8 : ((bs [112]).toList == (ByteArray.mk #[103]).toList) = false := beq_c [112] h [103] (letter_by 8) false (by decide)
    have e9 : ((bs [112]).toList == (ByteArray.mk #[116]).toList) = false := beq_c [112] h [116] (letter_by 9) false (by decide)
    rw [show lettersS [112] = some (-12) from rfl]
    refine acall_of Tryz.func51 rfl rfl (by simp [Tryz.ntmps51]) ?_; rw [Tryz.ntmps51, Tryz.results51]
    (first | refine go (cj rTI (cj @e5 (cj @e0 (cj @e1 (cj @e2 (cj @e3 (cj @e4 (cj @e6 (cj @e7 (cj @e8 @e9)))))))))) ?_ | exact go0 (cj rTI (cj @e5 (cj @e0 (cj @e1 (cj @e2 (cj @e3 (cj @e4 (cj @e6 (cj @e7 (cj @e8 @e9)))))))))))
    all_goals (try ((try rw [then_normal]); (try refine aw_seq ?_); refine aw_cond rfl ?_ ?_ <;> intro hb <;> (try (cases hb; done)) <;> (try simp only [bq] at hb) <;> (try (exfalso; omega)); (first | refine go (cj rTI (cj @e5 (cj @e0 (cj @e1 (cj @e2 (cj @e3 (cj @e4 (cj @e6 (cj @e7 (cj @e8 @e9)))))))))) ?_ | exact go0 (cj rTI (cj @e5 (cj @e0 (cj @e1 (cj @e2 (cj @e3 (cj @e4 (cj @e6 (cj @e7 (cj @e8 @e9)))))))))))))
    all_goals (try ((try rw [then_normal]); (try refine aw_seq ?_); refine aw_cond rfl ?_ ?_ <;> intro hb <;> (try (cases hb; done)) <;> (try simp only [bq] at hb) <;> (try (exfalso; omega)); (first | refine go (cj rTI (cj @e5 (cj @e0 (cj @e1 (cj @e2 (cj @e3 (cj @e4 (cj @e6 (cj @e7 (cj @e8 @e9)))))))))) ?_ | exact go0 (cj rTI (cj @e5 (cj @e0 (cj @e1 (cj @e2 (cj @e3 (cj @e4 (cj @e6 (cj @e7 (cj @e8 @e9)))))))))))))
    all_goals (try ((try rw [then_normal]); (try refine aw_seq ?_); refine aw_cond rfl ?_ ?_ <;> intro hb <;> (try (cases hb; done)) <;> (try simp only [bq] at hb) <;> (try (exfalso; omega)); (first | refine go (cj rTI (cj @e5 (cj @e0 (cj @e1 (cj @e2 (cj @e3 (cj @e4 (cj @e6 (cj @e7 (cj @e8 @e9)))))))))) ?_ | exact go0 (cj rTI (cj @e5 (cj @e0 (cj @e1 (cj @e2 (cj @e3 (cj @e4 (cj @e6 (cj @e7 (cj @e8 @e9)))))))))))))
    all_goals rfl
  by_cases w2 : l = [110]
  · subst w2
    have e5 : ((bs [110]).toList == (ByteArray.mk #[]).toList) = false := beq_c [110] h [] (letter_by 5) false (by decide)
    have e0 : ((bs [110]).toList == (ByteArray.mk #[102]).toList) = false := beq_c [110] h [102] (letter_by 0) false (by decide)
    have e1 : ((bs [110]).toList == (ByteArray.mk #[112]).toList) = false := beq_c [110] h [112] (letter_by 1) false (by decide)
    have e2 : ((bs [110]).toList == (ByteArray.mk #[110]).toList) = true := beq_c [110] h [110] (letter_by 2) true (by decide)
    have e3 : ((bs [110]).toList == (ByteArray.mk #[117]).toList) = false := beq_c [110] h [117] (letter_by 3) false (by decide)
    have e4 : ((bs [110]).toList == (ByteArray.mk #[109]).toList) = false := beq_c [110] h [109] (letter_by 4) false (by decide)
    have e6 : ((bs [110]).toList == (ByteArray.mk #[107]).toList) = false := beq_c [110] h [107] (letter_by 6) false (by decide)
    have e7 : ((bs [110]).toList == (ByteArray.mk #[109, 101, 103]).toList) = false := beq_c [110] h [109, 101, 103] (letter_by 7) false (by decide)
    have e8 : ((bs [110]).toList == (ByteArray.mk #[103]).toList) = false := beq_c [110] h [103] (letter_by 8) false (by decide)
    have e9 : ((bs [110]).toList == (ByteArray.mk #[116]).toList) = false := beq_c [110] h [116] (letter_by 9) false (by decide)
    rw [show lettersS [110] = some (-9) from rfl]
    refine acall_of Tryz.func51 rfl rfl (by simp [Tryz.ntmps51]) ?_; rw [Tryz.ntmps51, Tryz.results51]
    (first | refine go (cj rTI (cj @e5 (cj @e0 (cj @e1 (cj @e2 (cj @e3 (cj @e4 (cj @e6 (cj @e7 (cj @e8 @e9)))))))))) ?_ | exact go0 (cj rTI (cj @e5 (cj @e0 (cj @e1 (cj @e2 (cj @e3 (cj @e4 (cj @e6 (cj @e7 (cj @e8 @e9)))))))))))
    all_goals (try ((try rw [then_normal]); (try refine aw_seq ?_); refine aw_cond rfl ?_ ?_ <;> intro hb <;> (try (cases hb; done)) <;> (try simp only [bq] at hb) <;> (try (exfalso; omega)); (first | refine go (cj rTI (cj @e5 (cj @e0 (cj @e1 (cj @e2 (cj @e3 (cj @e4 (cj @e6 (cj @e7 (cj @e8 @e9)))))))))) ?_ | exact go0 (cj rTI (cj @e5 (cj @e0 (cj @e1 (cj @e2 (cj @e3 (cj @e4 (cj @e6 (cj @e7 (cj @e8 @e9)))))))))))))
    all_goals (try ((try rw [then_normal]); (try refine aw_seq ?_); refine aw_cond rfl ?_ ?_ <;> intro hb <;> (try (cases hb; done)) <;> (try simp only [bq] at hb) <;> (try (exfalso; omega)); (first | refine go (cj rTI (cj @e5 (cj @e0 (cj @e1 (cj @e2 (cj @e3 (cj @e4 (cj @e6 (cj @e7 (cj @e8 @e9)))))))))) ?_ | exact go0 (cj rTI (cj @e5 (cj @e0 (cj @e1 (cj @e2 (cj @e3 (cj @e4 (cj @e6 (cj @e7 (cj @e8 @e9)))))))))))))
    all_goals (try ((try rw [then_normal]); (try refine aw_seq ?_); refine aw_cond rfl ?_ ?_ <;> intro hb <;> (try (cases hb; done)) <;> (try simp only [bq] at hb) <;> (try (exfalso; omega)); (first | refine go (cj rTI (cj @e5 (cj @e0 (cj @e1 (cj @e2 (cj @e3 (cj @e4 (cj @e6 (cj @e7 (cj @e8 @e9)))))))))) ?_ | exact go0 (cj rTI (cj @e5 (cj @e0 (cj @e1 (cj @e2 (cj @e3 (cj @e4 (cj @e6 (cj @e7 (cj @e8 @e9)))))))))))))
    all_goals (try ((try rw [then_normal]); (try refine aw_seq ?_); refine aw_cond rfl ?_ ?_ <;> intro hb <;> (try (cases hb; done)) <;> (try simp only [bq] at hb) <;> (try (exfalso; omega)); (first | refine go (cj rTI (cj @e5 (cj @e0 (cj @e1 (cj @e2 (cj @e3 (cj @e4 (cj @e6 (cj @e7 (cj @e8 @e9)))))))))) ?_ | exact go0 (cj rTI (cj @e5 (cj @e0 (cj @e1 (cj @e2 (cj @e3 (cj @e4 (cj @e6 (cj @e7 (cj @e8 @e9)))))))))))))
    all_goals rfl
  by_cases w3 : l = [117]
  · subst w3
    have e5 : ((bs [117]).toList == (ByteArray.mk #[]).toList) = false := beq_c [117] h [] (letter_by 5) false (by decide)
    have e0 : ((bs [117]).toList == (ByteArray.mk #[102]).toList) = false := beq_c [117] h [102] (letter_by 0) false (by decide)
    have e1 : ((bs [117]).toList == (ByteArray.mk #[112]).toList) = false := beq_c [117] h [112] (letter_by 1) false (by decide)
    have e2 : ((bs [117]).toList == (ByteArray.mk #[110]).toList) = false := beq_c [117] h [110] (letter_by 2) false (by decide)
    have e3 : ((bs [117]).toList == (ByteArray.mk #[117]).toList) = true := beq_c [117] h [117] (letter_by 3) true (by decide)
    have e4 : ((bs [117]).toList == (ByteArray.mk #[109]).toList) = false := beq_c [117] h [109] (letter_by 4) false (by decide)
    have e6 : ((bs [117]).toList == (ByteArray.mk #[107]).toList) = false := beq_c [117] h [107] (letter_by 6) false (by decide)
    have e7 : ((bs [117]).toList == (ByteArray.mk #[109, 101, 103]).toList) = false := beq_c [117] h [109, 101, 103] (letter_by 7) false (by decide)
    have e8 : ((bs [117]).toList == (ByteArray.mk #[103]).toList) = false := beq_c [117] h [103] (letter_by 8) false (by decide)
    have e9 : ((bs [117]).toList == (ByteArray.mk #[116]).toList) = false := beq_c [117] h [116] (letter_by 9) false (by decide)
    rw [show lettersS [117] = some (-6) from rfl]
    refine acall_of Tryz.func51 rfl rfl (by simp [Tryz.ntmps51]) ?_; rw [Tryz.ntmps51, Tryz.results51]
    (first | refine go (cj rTI (cj @e5 (cj @e0 (cj @e1 (cj @e2 (cj @e3 (cj @e4 (cj @e6 (cj @e7 (cj @e8 @e9)))))))))) ?_ | exact go0 (cj rTI (cj @e5 (cj @e0 (cj @e1 (cj @e2 (cj @e3 (cj @e4 (cj @e6 (cj @e7 (cj @e8 @e9)))))))))))
    all_goals (try ((try rw [then_normal]); (try refine aw_seq ?_); refine aw_cond rfl ?_ ?_ <;> intro hb <;> (try (cases hb; done)) <;> (try simp only [bq] at hb) <;> (try (exfalso; omega)); (first | refine go (cj rTI (cj @e5 (cj @e0 (cj @e1 (cj @e2 (cj @e3 (cj @e4 (cj @e6 (cj @e7 (cj @e8 @e9)))))))))) ?_ | exact go0 (cj rTI (cj @e5 (cj @e0 (cj @e1 (cj @e2 (cj @e3 (cj @e4 (cj @e6 (cj @e7 (cj @e8 @e9)))))))))))))
    all_goals (try ((try rw [then_normal]); (try refine aw_seq ?_); refine aw_cond rfl ?_ ?_ <;> intro hb <;> (try (cases hb; done)) <;> (try simp only [bq] at hb) <;> (try (exfalso; omega)); (first | refine go (cj rTI (cj @e5 (cj @e0 (cj @e1 (cj @e2 (cj @e3 (cj @e4 (cj @e6 (cj @e7 (cj @e8 @e9)))))))))) ?_ | exact go0 (cj rTI (cj @e5 (cj @e0 (cj @e1 (cj @e2 (cj @e3 (cj @e4 (cj @e6 (cj @e7 (cj @e8 @e9)))))))))))))
    all_goals (try ((try rw [then_normal]); (try refine aw_seq ?_); refine aw_cond rfl ?_ ?_ <;> intro hb <;> (try (cases hb; done)) <;> (try simp only [bq] at hb) <;> (try (exfalso; omega)); (first | refine go (cj rTI (cj @e5 (cj @e0 (cj @e1 (cj @e2 (cj @e3 (cj @e4 (cj @e6 (cj @e7 (cj @e8 @e9)))))))))) ?_ | exact go0 (cj rTI (cj @e5 (cj @e0 (cj @e1 (cj @e2 (cj @e3 (cj @e4 (cj @e6 (cj @e7 (cj @e8 @e9)))))))))))))
    all_goals (try ((try rw [then_normal]); (try refine aw_seq ?_); refine aw_cond rfl ?_ ?_ <;> intro hb <;> (try (cases hb; done)) <;> (try simp only [bq] at hb) <;> (try (exfalso; omega)); (first | refine go (cj rTI (cj @e5 (cj @e0 (cj @e1 (cj @e2 (cj @e3 (cj @e4 (cj @e6 (cj @e7 (cj @e8 @e9)))))))))) ?_ | exact go0 (cj rTI (cj @e5 (cj @e0 (cj @e1 (cj @e2 (cj @e3 (cj @e4 (cj @e6 (cj @e7 (cj @e8 @e9)))))))))))))
    all_goals (try ((try rw [then_normal]); (try refine aw_seq ?_); refine aw_cond rfl ?_ ?_ <;> intro hb <;> (try (cases hb; done)) <;> (try simp only [bq] at hb) <;> (try (exfalso; omega)); (first | refine go (cj rTI (cj @e5 (cj @e0 (cj @e1 (cj @e2 (cj @e3 (cj @e4 (cj @e6 (cj @e7 (cj @e8 @e9)))))))))) ?_ | exact go0 (cj rTI (cj @e5 (cj @e0 (cj @e1 (cj @e2 (cj @e3 (cj @e4 (cj @e6 (cj @e7 (cj @e8 @e9)))))))))))))
    all_goals rfl
  by_cases w4 : l = [109]
  · subst w4
    have e5 : ((bs [109]).toList == (ByteArray.mk #[]).toList) = false := beq_c [109] h [] (letter_by 5) false (by decide)
    have e0 : ((bs [109]).toList == (ByteArray.mk #[102]).toList) = false := beq_c [109] h [102] (letter_by 0) false (by decide)
    have e1 : ((bs [109]).toList == (ByteArray.mk #[112]).toList) = false := beq_c [109] h [112] (letter_by 1) false (by decide)
    have e2 : ((bs [109]).toList == (ByteArray.mk #[110]).toList) = false := beq_c [109] h [110] (letter_by 2) false (by decide)
    have e3 : ((bs [109]).toList == (ByteArray.mk #[117]).toList) = false := beq_c [109] h [117] (letter_by 3) false (by decide)
    have e4 : ((bs [109]).toList == (ByteArray.mk #[109]).toList) = true := beq_c [109] h [109] (letter_by 4) true (by decide)
    have e6 : ((bs [109]).toList == (ByteArray.mk #[107]).toList) = false := beq_c [109] h [107] (letter_by 6) false (by decide)
    have e7 : ((bs [109]).toList == (ByteArray.mk #[109, 101, 103]).toList) = false := beq_c [109] h [109, 101, 103] (letter_by 7) false (by decide)
    have e8 : ((bs [109]).toList == (ByteArray.mk #[103]).toList) = false := beq_c [109] h [103] (letter_by 8) false (by decide)
    have e9 : ((bs [109]).toList == (ByteArray.mk #[116]).toList) = false := beq_c [109] h [116] (letter_by 9) false (by decide)
    rw [show lettersS [109] = some (-3) from rfl]
    refine acall_of Tryz.func51 rfl rfl (by simp [Tryz.ntmps51]) ?_; rw [Tryz.ntmps51, Tryz.results51]
    (first | refine go (cj rTI (cj @e5 (cj @e0 (cj @e1 (cj @e2 (cj @e3 (cj @e4 (cj @e6 (cj @e7 (cj @e8 @e9)))))))))) ?_ | exact go0 (cj rTI (cj @e5 (cj @e0 (cj @e1 (cj @e2 (cj @e3 (cj @e4 (cj @e6 (cj @e7 (cj @e8 @e9)))))))))))
    all_goals (try ((try rw [then_normal]); (try refine aw_seq ?_); refine aw_cond rfl ?_ ?_ <;> intro hb <;> (try (cases hb; done)) <;> (try simp only [bq] at hb) <;> (try (exfalso; omega)); (first | refine go (cj rTI (cj @e5 (cj @e0 (cj @e1 (cj @e2 (cj @e3 (cj @e4 (cj @e6 (cj @e7 (cj @e8 @e9)))))))))) ?_ | exact go0 (cj rTI (cj @e5 (cj @e0 (cj @e1 (cj @e2 (cj @e3 (cj @e4 (cj @e6 (cj @e7 (cj @e8 @e9)))))))))))))
    all_goals (try ((try rw [then_normal]); (try refine aw_seq ?_); refine aw_cond rfl ?_ ?_ <;> intro hb <;> (try (cases hb; done)) <;> (try simp only [bq] at hb) <;> (try (exfalso; omega)); (first | refine go (cj rTI (cj @e5 (cj @e0 (cj @e1 (cj @e2 (cj @e3 (cj @e4 (cj @e6 (cj @e7 (cj @e8 @e9)))))))))) ?_ | exact go0 (cj rTI (cj @e5 (cj @e0 (cj @e1 (cj @e2 (cj @e3 (cj @e4 (cj @e6 (cj @e7 (cj @e8 @e9)))))))))))))
    all_goals (try ((try rw [then_normal]); (try refine aw_seq ?_); refine aw_cond rfl ?_ ?_ <;> intro hb <;> (try (cases hb; done)) <;> (try simp only [bq] at hb) <;> (try (exfalso; omega)); (first | refine go (cj rTI (cj @e5 (cj @e0 (cj @e1 (cj @e2 (cj @e3 (cj @e4 (cj @e6 (cj @e7 (cj @e8 @e9)))))))))) ?_ | exact go0 (cj rTI (cj @e5 (cj @e0 (cj @e1 (cj @e2 (cj @e3 (cj @e4 (cj @e6 (cj @e7 (cj @e8 @e9)))))))))))))
    all_goals (try ((try rw [then_normal]); (try refine aw_seq ?_); refine aw_cond rfl ?_ ?_ <;> intro hb <;> (try (cases hb; done)) <;> (try simp only [bq] at hb) <;> (try (exfalso; omega)); (first | refine go (cj rTI (cj @e5 (cj @e0 (cj @e1 (cj @e2 (cj @e3 (cj @e4 (cj @e6 (cj @e7 (cj @e8 @e9)))))))))) ?_ | exact go0 (cj rTI (cj @e5 (cj @e0 (cj @e1 (cj @e2 (cj @e3 (cj @e4 (cj @e6 (cj @e7 (cj @e8 @e9)))))))))))))
    all_goals (try ((try rw [then_normal]); (try refine aw_seq ?_); refine aw_cond rfl ?_ ?_ <;> intro hb <;> (try (cases hb; done)) <;> (try simp only [bq] at hb) <;> (try (exfalso; omega)); (first | refine go (cj rTI (cj @e5 (cj @e0 (cj @e1 (cj @e2 (cj @e3 (cj @e4 (cj @e6 (cj @e7 (cj @e8 @e9)))))))))) ?_ | exact go0 (cj rTI (cj @e5 (cj @e0 (cj @e1 (cj @e2 (cj @e3 (cj @e4 (cj @e6 (cj @e7 (cj @e8 @e9)))))))))))))
    all_goals (try ((try rw [then_normal]); (try refine aw_seq ?_); refine aw_cond rfl ?_ ?_ <;> intro hb <;> (try (cases hb; done)) <;> (try simp only [bq] at hb) <;> (try (exfalso; omega)); (first | refine go (cj rTI (cj @e5 (cj @e0 (cj @e1 (cj @e2 (cj @e3 (cj @e4 (cj @e6 (cj @e7 (cj @e8 @e9)))))))))) ?_ | exact go0 (cj rTI (cj @e5 (cj @e0 (cj @e1 (cj @e2 (cj @e3 (cj @e4 (cj @e6 (cj @e7 (cj @e8 @e9)))))))))))))
    all_goals rfl
  by_cases w6 : l = [107]
  · subst w6
    have e5 : ((bs [107]).toList == (ByteArray.mk #[]).toList) = false := beq_c [107] h [] (letter_by 5) false (by decide)
    have e0 : ((bs [107]).toList == (ByteArray.mk #[102]).toList) = false := beq_c [107] h [102] (letter_by 0) false (by decide)
    have e1 : ((bs [107]).toList == (ByteArray.mk #[112]).toList) = false := beq_c [107] h [112] (letter_by 1) false (by decide)
    have e2 : ((bs [107]).toList == (ByteArray.mk #[110]).toList) = false := beq_c [107] h [110] (letter_by 2) false (by decide)
    have e3 : ((bs [107]).toList == (ByteArray.mk #[117]).toList) = false := beq_c [107] h [117] (letter_by 3) false (by decide)
    have e4 : ((bs [107]).toList == (ByteArray.mk #[109]).toList) = false := beq_c [107] h [109] (letter_by 4) false (by decide)
    have e6 : ((bs [107]).toList == (ByteArray.mk #[107]).toList) = true := beq_c [107] h [107] (letter_by 6) true (by decide)
    have e7 : ((bs [107]).toList == (ByteArray.mk #[109, 101, 103]).toList) = false := beq_c [107] h [109, 101, 103] (letter_by 7) false (by decide)
    have e8 : ((bs [107]).toList == (ByteArray.mk #[103]).toList) = false := beq_c [107] h [103] (letter_by 8) false (by decide)
    have e9 : ((bs [107]).toList == (ByteArray.mk #[116]).toList) = false := beq_c [107] h [116] (letter_by 9) false (by decide)
    rw [show lettersS [107] = some (3) from rfl]
    refine acall_of Tryz.func51 rfl rfl (by simp [Tryz.ntmps51]) ?_; rw [Tryz.ntmps51, Tryz.results51]
    (first | refine go (cj rTI (cj @e5 (cj @e0 (cj @e1 (cj @e2 (cj @e3 (cj @e4 (cj @e6 (cj @e7 (cj @e8 @e9)))))))))) ?_ | exact go0 (cj rTI (cj @e5 (cj @e0 (cj @e1 (cj @e2 (cj @e3 (cj @e4 (cj @e6 (cj @e7 (cj @e8 @e9)))))))))))
    all_goals (try ((try rw [then_normal]); (try refine aw_seq ?_); refine aw_cond rfl ?_ ?_ <;> intro hb <;> (try (cases hb; done)) <;> (try simp only [bq] at hb) <;> (try (exfalso; omega)); (first | refine go (cj rTI (cj @e5 (cj @e0 (cj @e1 (cj @e2 (cj @e3 (cj @e4 (cj @e6 (cj @e7 (cj @e8 @e9)))))))))) ?_ | exact go0 (cj rTI (cj @e5 (cj @e0 (cj @e1 (cj @e2 (cj @e3 (cj @e4 (cj @e6 (cj @e7 (cj @e8 @e9)))))))))))))
    all_goals (try ((try rw [then_normal]); (try refine aw_seq ?_); refine aw_cond rfl ?_ ?_ <;> intro hb <;> (try (cases hb; done)) <;> (try simp only [bq] at hb) <;> (try (exfalso; omega)); (first | refine go (cj rTI (cj @e5 (cj @e0 (cj @e1 (cj @e2 (cj @e3 (cj @e4 (cj @e6 (cj @e7 (cj @e8 @e9)))))))))) ?_ | exact go0 (cj rTI (cj @e5 (cj @e0 (cj @e1 (cj @e2 (cj @e3 (cj @e4 (cj @e6 (cj @e7 (cj @e8 @e9)))))))))))))
    all_goals (try ((try rw [then_normal]); (try refine aw_seq ?_); refine aw_cond rfl ?_ ?_ <;> intro hb <;> (try (cases hb; done)) <;> (try simp only [bq] at hb) <;> (try (exfalso; omega)); (first | refine go (cj rTI (cj @e5 (cj @e0 (cj @e1 (cj @e2 (cj @e3 (cj @e4 (cj @e6 (cj @e7 (cj @e8 @e9)))))))))) ?_ | exact go0 (cj rTI (cj @e5 (cj @e0 (cj @e1 (cj @e2 (cj @e3 (cj @e4 (cj @e6 (cj @e7 (cj @e8 @e9)))))))))))))
    all_goals (try ((try rw [then_normal]); (try refine aw_seq ?_); refine aw_cond rfl ?_ ?_ <;> intro hb <;> (try (cases hb; done)) <;> (try simp only [bq] at hb) <;> (try (exfalso; omega)); (first | refine go (cj rTI (cj @e5 (cj @e0 (cj @e1 (cj @e2 (cj @e3 (cj @e4 (cj @e6 (cj @e7 (cj @e8 @e9)))))))))) ?_ | exact go0 (cj rTI (cj @e5 (cj @e0 (cj @e1 (cj @e2 (cj @e3 (cj @e4 (cj @e6 (cj @e7 (cj @e8 @e9)))))))))))))
    all_goals (try ((try rw [then_normal]); (try refine aw_seq ?_); refine aw_cond rfl ?_ ?_ <;> intro hb <;> (try (cases hb; done)) <;> (try simp only [bq] at hb) <;> (try (exfalso; omega)); (first | refine go (cj rTI (cj @e5 (cj @e0 (cj @e1 (cj @e2 (cj @e3 (cj @e4 (cj @e6 (cj @e7 (cj @e8 @e9)))))))))) ?_ | exact go0 (cj rTI (cj @e5 (cj @e0 (cj @e1 (cj @e2 (cj @e3 (cj @e4 (cj @e6 (cj @e7 (cj @e8 @e9)))))))))))))
    all_goals (try ((try rw [then_normal]); (try refine aw_seq ?_); refine aw_cond rfl ?_ ?_ <;> intro hb <;> (try (cases hb; done)) <;> (try simp only [bq] at hb) <;> (try (exfalso; omega)); (first | refine go (cj rTI (cj @e5 (cj @e0 (cj @e1 (cj @e2 (cj @e3 (cj @e4 (cj @e6 (cj @e7 (cj @e8 @e9)))))))))) ?_ | exact go0 (cj rTI (cj @e5 (cj @e0 (cj @e1 (cj @e2 (cj @e3 (cj @e4 (cj @e6 (cj @e7 (cj @e8 @e9)))))))))))))
    all_goals (try ((try rw [then_normal]); (try refine aw_seq ?_); refine aw_cond rfl ?_ ?_ <;> intro hb <;> (try (cases hb; done)) <;> (try simp only [bq] at hb) <;> (try (exfalso; omega)); (first | refine go (cj rTI (cj @e5 (cj @e0 (cj @e1 (cj @e2 (cj @e3 (cj @e4 (cj @e6 (cj @e7 (cj @e8 @e9)))))))))) ?_ | exact go0 (cj rTI (cj @e5 (cj @e0 (cj @e1 (cj @e2 (cj @e3 (cj @e4 (cj @e6 (cj @e7 (cj @e8 @e9)))))))))))))
    all_goals rfl
  by_cases w7 : l = [109, 101, 103]
  · subst w7
    have e5 : ((bs [109, 101, 103]).toList == (ByteArray.mk #[]).toList) = false := beq_c [109, 101, 103] h [] (letter_by 5) false (by decide)
    have e0 : ((bs [109, 101, 103]).toList == (ByteArray.mk #[102]).toList) = false := beq_c [109, 101, 103] h [102] (letter_by 0) false (by decide)
    have e1 : ((bs [109, 101, 103]).toList == (ByteArray.mk #[112]).toList) = false := beq_c [109, 101, 103] h [112] (letter_by 1) false (by decide)
    have e2 : ((bs [109, 101, 103]).toList == (ByteArray.mk #[110]).toList) = false := beq_c [109, 101, 103] h [110] (letter_by 2) false (by decide)
    have e3 : ((bs [109, 101, 103]).toList == (ByteArray.mk #[117]).toList) = false := beq_c [109, 101, 103] h [117] (letter_by 3) false (by decide)
    have e4 : ((bs [109, 101, 103]).toList == (ByteArray.mk #[109]).toList) = false := beq_c [109, 101, 103] h [109] (letter_by 4) false (by decide)
    have e6 : ((bs [109, 101, 103]).toList == (ByteArray.mk #[107]).toList) = false := beq_c [109, 101, 103] h [107] (letter_by 6) false (by decide)
    have e7 : ((bs [109, 101, 103]).toList == (ByteArray.mk #[109, 101, 103]).toList) = true := beq_c [109, 101, 103] h [109, 101, 103] (letter_by 7) true (by decide)
    have e8 : ((bs [109, 101, 103]).toList == (ByteArray.mk #[103]).toList) = false := beq_c [109, 101, 103] h [103] (letter_by 8) false (by decide)
    have e9 : ((bs [109, 101, 103]).toList == (ByteArray.mk #[116]).toList) = false := beq_c [109, 101, 103] h [116] (letter_by 9) false (by decide)
    rw [show lettersS [109, 101, 103] = some (6) from rfl]
    refine acall_of Tryz.func51 rfl rfl (by simp [Tryz.ntmps51]) ?_; rw [Tryz.ntmps51, Tryz.results51]
    (first | refine go (cj rTI (cj @e5 (cj @e0 (cj @e1 (cj @e2 (cj @e3 (cj @e4 (cj @e6 (cj @e7 (cj @e8 @e9)))))))))) ?_ | exact go0 (cj rTI (cj @e5 (cj @e0 (cj @e1 (cj @e2 (cj @e3 (cj @e4 (cj @e6 (cj @e7 (cj @e8 @e9)))))))))))
    all_goals (try ((try rw [then_normal]); (try refine aw_seq ?_); refine aw_cond rfl ?_ ?_ <;> intro hb <;> (try (cases hb; done)) <;> (try simp only [bq] at hb) <;> (try (exfalso; omega)); (first | refine go (cj rTI (cj @e5 (cj @e0 (cj @e1 (cj @e2 (cj @e3 (cj @e4 (cj @e6 (cj @e7 (cj @e8 @e9)))))))))) ?_ | exact go0 (cj rTI (cj @e5 (cj @e0 (cj @e1 (cj @e2 (cj @e3 (cj @e4 (cj @e6 (cj @e7 (cj @e8 @e9)))))))))))))
    all_goals (try ((try rw [then_normal]); (try refine aw_seq ?_); refine aw_cond rfl ?_ ?_ <;> intro hb <;> (try (cases hb; done)) <;> (try simp only [bq] at hb) <;> (try (exfalso; omega)); (first | refine go (cj rTI (cj @e5 (cj @e0 (cj @e1 (cj @e2 (cj @e3 (cj @e4 (cj @e6 (cj @e7 (cj @e8 @e9)))))))))) ?_ | exact go0 (cj rTI (cj @e5 (cj @e0 (cj @e1 (cj @e2 (cj @e3 (cj @e4 (cj @e6 (cj @e7 (cj @e8 @e9)))))))))))))
    all_goals (try ((try rw [then_normal]); (try refine aw_seq ?_); refine aw_cond rfl ?_ ?_ <;> intro hb <;> (try (cases hb; done)) <;> (try simp only [bq] at hb) <;> (try (exfalso; omega)); (first | refine go (cj rTI (cj @e5 (cj @e0 (cj @e1 (cj @e2 (cj @e3 (cj @e4 (cj @e6 (cj @e7 (cj @e8 @e9)))))))))) ?_ | exact go0 (cj rTI (cj @e5 (cj @e0 (cj @e1 (cj @e2 (cj @e3 (cj @e4 (cj @e6 (cj @e7 (cj @e8 @e9)))))))))))))
    all_goals (try ((try rw [then_normal]); (try refine aw_seq ?_); refine aw_cond rfl ?_ ?_ <;> intro hb <;> (try (cases hb; done)) <;> (try simp only [bq] at hb) <;> (try (exfalso; omega)); (first | refine go (cj rTI (cj @e5 (cj @e0 (cj @e1 (cj @e2 (cj @e3 (cj @e4 (cj @e6 (cj @e7 (cj @e8 @e9)))))))))) ?_ | exact go0 (cj rTI (cj @e5 (cj @e0 (cj @e1 (cj @e2 (cj @e3 (cj @e4 (cj @e6 (cj @e7 (cj @e8 @e9)))))))))))))
    all_goals (try ((try rw [then_normal]); (try refine aw_seq ?_); refine aw_cond rfl ?_ ?_ <;> intro hb <;> (try (cases hb; done)) <;> (try simp only [bq] at hb) <;> (try (exfalso; omega)); (first | refine go (cj rTI (cj @e5 (cj @e0 (cj @e1 (cj @e2 (cj @e3 (cj @e4 (cj @e6 (cj @e7 (cj @e8 @e9)))))))))) ?_ | exact go0 (cj rTI (cj @e5 (cj @e0 (cj @e1 (cj @e2 (cj @e3 (cj @e4 (cj @e6 (cj @e7 (cj @e8 @e9)))))))))))))
    all_goals (try ((try rw [then_normal]); (try refine aw_seq ?_); refine aw_cond rfl ?_ ?_ <;> intro hb <;> (try (cases hb; done)) <;> (try simp only [bq] at hb) <;> (try (exfalso; omega)); (first | refine go (cj rTI (cj @e5 (cj @e0 (cj @e1 (cj @e2 (cj @e3 (cj @e4 (cj @e6 (cj @e7 (cj @e8 @e9)))))))))) ?_ | exact go0 (cj rTI (cj @e5 (cj @e0 (cj @e1 (cj @e2 (cj @e3 (cj @e4 (cj @e6 (cj @e7 (cj @e8 @e9)))))))))))))
    all_goals (try ((try rw [then_normal]); (try refine aw_seq ?_); refine aw_cond rfl ?_ ?_ <;> intro hb <;> (try (cases hb; done)) <;> (try simp only [bq] at hb) <;> (try (exfalso; omega)); (first | refine go (cj rTI (cj @e5 (cj @e0 (cj @e1 (cj @e2 (cj @e3 (cj @e4 (cj @e6 (cj @e7 (cj @e8 @e9)))))))))) ?_ | exact go0 (cj rTI (cj @e5 (cj @e0 (cj @e1 (cj @e2 (cj @e3 (cj @e4 (cj @e6 (cj @e7 (cj @e8 @e9)))))))))))))
    all_goals (try ((try rw [then_normal]); (try refine aw_seq ?_); refine aw_cond rfl ?_ ?_ <;> intro hb <;> (try (cases hb; done)) <;> (try simp only [bq] at hb) <;> (try (exfalso; omega)); (first | refine go (cj rTI (cj @e5 (cj @e0 (cj @e1 (cj @e2 (cj @e3 (cj @e4 (cj @e6 (cj @e7 (cj @e8 @e9)))))))))) ?_ | exact go0 (cj rTI (cj @e5 (cj @e0 (cj @e1 (cj @e2 (cj @e3 (cj @e4 (cj @e6 (cj @e7 (cj @e8 @e9)))))))))))))
    all_goals rfl
  by_cases w8 : l = [103]
  · subst w8
    have e5 : ((bs [103]).toList == (ByteArray.mk #[]).toList) = false := beq_c [103] h [] (letter_by 5) false (by decide)
    have e0 : ((bs [103]).toList == (ByteArray.mk #[102]).toList) = false := beq_c [103] h [102] (letter_by 0) false (by decide)
    have e1 : ((bs [103]).toList == (ByteArray.mk #[112]).toList) = false := beq_c [103] h [112] (letter_by 1) false (by decide)
    have e2 : ((bs [103]).toList == (ByteArray.mk #[110]).toList) = false := beq_c [103] h [110] (letter_by 2) false (by decide)
    have e3 : ((bs [103]).toList == (ByteArray.mk #[117]).toList) = false := beq_c [103] h [117] (letter_by 3) false (by decide)
    have e4 : ((bs [103]).toList == (ByteArray.mk #[109]).toList) = false := beq_c [103] h [109] (letter_by 4) false (by decide)
    have e6 : ((bs [103]).toList == (ByteArray.mk #[107]).toList) = false := beq_c [103] h [107] (letter_by 6) false (by decide)
    have e7 : ((bs [103]).toList == (ByteArray.mk #[109, 101, 103]).toList) = false := beq_c [103] h [109, 101, 103] (letter_by 7) false (by decide)
    have e8 : ((bs [103]).toList == (ByteArray.mk #[103]).toList) = true := beq_c [103] h [103] (letter_by 8) true (by decide)
    have e9 : ((bs [103]).toList == (ByteArray.mk #[116]).toList) = false := beq_c [103] h [116] (letter_by 9) false (by decide)
    rw [show lettersS [103] = some (9) from rfl]
    refine acall_of Tryz.func51 rfl rfl (by simp [Tryz.ntmps51]) ?_; rw [Tryz.ntmps51, Tryz.results51]
    (first | refine go (cj rTI (cj @e5 (cj @e0 (cj @e1 (cj @e2 (cj @e3 (cj @e4 (cj @e6 (cj @e7 (cj @e8 @e9)))))))))) ?_ | exact go0 (cj rTI (cj @e5 (cj @e0 (cj @e1 (cj @e2 (cj @e3 (cj @e4 (cj @e6 (cj @e7 (cj @e8 @e9)))))))))))
    all_goals (try ((try rw [then_normal]); (try refine aw_seq ?_); refine aw_cond rfl ?_ ?_ <;> intro hb <;> (try (cases hb; done)) <;> (try simp only [bq] at hb) <;> (try (exfalso; omega)); (first | refine go (cj rTI (cj @e5 (cj @e0 (cj @e1 (cj @e2 (cj @e3 (cj @e4 (cj @e6 (cj @e7 (cj @e8 @e9)))))))))) ?_ | exact go0 (cj rTI (cj @e5 (cj @e0 (cj @e1 (cj @e2 (cj @e3 (cj @e4 (cj @e6 (cj @e7 (cj @e8 @e9)))))))))))))
    all_goals (try ((try rw [then_normal]); (try refine aw_seq ?_); refine aw_cond rfl ?_ ?_ <;> intro hb <;> (try (cases hb; done)) <;> (try simp only [bq] at hb) <;> (try (exfalso; omega)); (first | refine go (cj rTI (cj @e5 (cj @e0 (cj @e1 (cj @e2 (cj @e3 (cj @e4 (cj @e6 (cj @e7 (cj @e8 @e9)))))))))) ?_ | exact go0 (cj rTI (cj @e5 (cj @e0 (cj @e1 (cj @e2 (cj @e3 (cj @e4 (cj @e6 (cj @e7 (cj @e8 @e9)))))))))))))
    all_goals (try ((try rw [then_normal]); (try refine aw_seq ?_); refine aw_cond rfl ?_ ?_ <;> intro hb <;> (try (cases hb; done)) <;> (try simp only [bq] at hb) <;> (try (exfalso; omega)); (first | refine go (cj rTI (cj @e5 (cj @e0 (cj @e1 (cj @e2 (cj @e3 (cj @e4 (cj @e6 (cj @e7 (cj @e8 @e9)))))))))) ?_ | exact go0 (cj rTI (cj @e5 (cj @e0 (cj @e1 (cj @e2 (cj @e3 (cj @e4 (cj @e6 (cj @e7 (cj @e8 @e9)))))))))))))
    all_goals (try ((try rw [then_normal]); (try refine aw_seq ?_); refine aw_cond rfl ?_ ?_ <;> intro hb <;> (try (cases hb; done)) <;> (try simp only [bq] at hb) <;> (try (exfalso; omega)); (first | refine go (cj rTI (cj @e5 (cj @e0 (cj @e1 (cj @e2 (cj @e3 (cj @e4 (cj @e6 (cj @e7 (cj @e8 @e9)))))))))) ?_ | exact go0 (cj rTI (cj @e5 (cj @e0 (cj @e1 (cj @e2 (cj @e3 (cj @e4 (cj @e6 (cj @e7 (cj @e8 @e9)))))))))))))
    all_goals (try ((try rw [then_normal]); (try refine aw_seq ?_); refine aw_cond rfl ?_ ?_ <;> intro hb <;> (try (cases hb; done)) <;> (try simp only [bq] at hb) <;> (try (exfalso; omega)); (first | refine go (cj rTI (cj @e5 (cj @e0 (cj @e1 (cj @e2 (cj @e3 (cj @e4 (cj @e6 (cj @e7 (cj @e8 @e9)))))))))) ?_ | exact go0 (cj rTI (cj @e5 (cj @e0 (cj @e1 (cj @e2 (cj @e3 (cj @e4 (cj @e6 (cj @e7 (cj @e8 @e9)))))))))))))
    all_goals (try ((try rw [then_normal]); (try refine aw_seq ?_); refine aw_cond rfl ?_ ?_ <;> intro hb <;> (try (cases hb; done)) <;> (try simp only [bq] at hb) <;> (try (exfalso; omega)); (first | refine go (cj rTI (cj @e5 (cj @e0 (cj @e1 (cj @e2 (cj @e3 (cj @e4 (cj @e6 (cj @e7 (cj @e8 @e9)))))))))) ?_ | exact go0 (cj rTI (cj @e5 (cj @e0 (cj @e1 (cj @e2 (cj @e3 (cj @e4 (cj @e6 (cj @e7 (cj @e8 @e9)))))))))))))
    all_goals (try ((try rw [then_normal]); (try refine aw_seq ?_); refine aw_cond rfl ?_ ?_ <;> intro hb <;> (try (cases hb; done)) <;> (try simp only [bq] at hb) <;> (try (exfalso; omega)); (first | refine go (cj rTI (cj @e5 (cj @e0 (cj @e1 (cj @e2 (cj @e3 (cj @e4 (cj @e6 (cj @e7 (cj @e8 @e9)))))))))) ?_ | exact go0 (cj rTI (cj @e5 (cj @e0 (cj @e1 (cj @e2 (cj @e3 (cj @e4 (cj @e6 (cj @e7 (cj @e8 @e9)))))))))))))
    all_goals (try ((try rw [then_normal]); (try refine aw_seq ?_); refine aw_cond rfl ?_ ?_ <;> intro hb <;> (try (cases hb; done)) <;> (try simp only [bq] at hb) <;> (try (exfalso; omega)); (first | refine go (cj rTI (cj @e5 (cj @e0 (cj @e1 (cj @e2 (cj @e3 (cj @e4 (cj @e6 (cj @e7 (cj @e8 @e9)))))))))) ?_ | exact go0 (cj rTI (cj @e5 (cj @e0 (cj @e1 (cj @e2 (cj @e3 (cj @e4 (cj @e6 (cj @e7 (cj @e8 @e9)))))))))))))
    all_goals (try ((try rw [then_normal]); (try refine aw_seq ?_); refine aw_cond rfl ?_ ?_ <;> intro hb <;> (try (cases hb; done)) <;> (try simp only [bq] at hb) <;> (try (exfalso; omega)); (first | refine go (cj rTI (cj @e5 (cj @e0 (cj @e1 (cj @e2 (cj @e3 (cj @e4 (cj @e6 (cj @e7 (cj @e8 @e9)))))))))) ?_ | exact go0 (cj rTI (cj @e5 (cj @e0 (cj @e1 (cj @e2 (cj @e3 (cj @e4 (cj @e6 (cj @e7 (cj @e8 @e9)))))))))))))
    all_goals rfl
  by_cases w9 : l = [116]
  · subst w9
    have e5 : ((bs [116]).toList == (ByteArray.mk #[]).toList) = false := beq_c [116] h [] (letter_by 5) false (by decide)
    have e0 : ((bs [116]).toList == (ByteArray.mk #[102]).toList) = false := beq_c [116] h [102] (letter_by 0) false (by decide)
    have e1 : ((bs [116]).toList == (ByteArray.mk #[112]).toList) = false := beq_c [116] h [112] (letter_by 1) false (by decide)
    have e2 : ((bs [116]).toList == (ByteArray.mk #[110]).toList) = false := beq_c [116] h [110] (letter_by 2) false (by decide)
    have e3 : ((bs [116]).toList == (ByteArray.mk #[117]).toList) = false := beq_c [116] h [117] (letter_by 3) false (by decide)
    have e4 : ((bs [116]).toList == (ByteArray.mk #[109]).toList) = false := beq_c [116] h [109] (letter_by 4) false (by decide)
    have e6 : ((bs [116]).toList == (ByteArray.mk #[107]).toList) = false := beq_c [116] h [107] (letter_by 6) false (by decide)
    have e7 : ((bs [116]).toList == (ByteArray.mk #[109, 101, 103]).toList) = false := beq_c [116] h [109, 101, 103] (letter_by 7) false (by decide)
    have e8 : ((bs [116]).toList == (ByteArray.mk #[103]).toList) = false := beq_c [116] h [103] (letter_by 8) false (by decide)
    have e9 : ((bs [116]).toList == (ByteArray.mk #[116]).toList) = true := beq_c [116] h [116] (letter_by 9) true (by decide)
    rw [show lettersS [116] = some (12) from rfl]
    refine acall_of Tryz.func51 rfl rfl (by simp [Tryz.ntmps51]) ?_; rw [Tryz.ntmps51, Tryz.results51]
    (first | refine go (cj rTI (cj @e5 (cj @e0 (cj @e1 (cj @e2 (cj @e3 (cj @e4 (cj @e6 (cj @e7 (cj @e8 @e9)))))))))) ?_ | exact go0 (cj rTI (cj @e5 (cj @e0 (cj @e1 (cj @e2 (cj @e3 (cj @e4 (cj @e6 (cj @e7 (cj @e8 @e9)))))))))))
    all_goals (try ((try rw [then_normal]); (try refine aw_seq ?_); refine aw_cond rfl ?_ ?_ <;> intro hb <;> (try (cases hb; done)) <;> (try simp only [bq] at hb) <;> (try (exfalso; omega)); (first | refine go (cj rTI (cj @e5 (cj @e0 (cj @e1 (cj @e2 (cj @e3 (cj @e4 (cj @e6 (cj @e7 (cj @e8 @e9)))))))))) ?_ | exact go0 (cj rTI (cj @e5 (cj @e0 (cj @e1 (cj @e2 (cj @e3 (cj @e4 (cj @e6 (cj @e7 (cj @e8 @e9)))))))))))))
    all_goals (try ((try rw [then_normal]); (try refine aw_seq ?_); refine aw_cond rfl ?_ ?_ <;> intro hb <;> (try (cases hb; done)) <;> (try simp only [bq] at hb) <;> (try (exfalso; omega)); (first | refine go (cj rTI (cj @e5 (cj @e0 (cj @e1 (cj @e2 (cj @e3 (cj @e4 (cj @e6 (cj @e7 (cj @e8 @e9)))))))))) ?_ | exact go0 (cj rTI (cj @e5 (cj @e0 (cj @e1 (cj @e2 (cj @e3 (cj @e4 (cj @e6 (cj @e7 (cj @e8 @e9)))))))))))))
    all_goals (try ((try rw [then_normal]); (try refine aw_seq ?_); refine aw_cond rfl ?_ ?_ <;> intro hb <;> (try (cases hb; done)) <;> (try simp only [bq] at hb) <;> (try (exfalso; omega)); (first | refine go (cj rTI (cj @e5 (cj @e0 (cj @e1 (cj @e2 (cj @e3 (cj @e4 (cj @e6 (cj @e7 (cj @e8 @e9)))))))))) ?_ | exact go0 (cj rTI (cj @e5 (cj @e0 (cj @e1 (cj @e2 (cj @e3 (cj @e4 (cj @e6 (cj @e7 (cj @e8 @e9)))))))))))))
    all_goals (try ((try rw [then_normal]); (try refine aw_seq ?_); refine aw_cond rfl ?_ ?_ <;> intro hb <;> (try (cases hb; done)) <;> (try simp only [bq] at hb) <;> (try (exfalso; omega)); (first | refine go (cj rTI (cj @e5 (cj @e0 (cj @e1 (cj @e2 (cj @e3 (cj @e4 (cj @e6 (cj @e7 (cj @e8 @e9)))))))))) ?_ | exact go0 (cj rTI (cj @e5 (cj @e0 (cj @e1 (cj @e2 (cj @e3 (cj @e4 (cj @e6 (cj @e7 (cj @e8 @e9)))))))))))))
    all_goals (try ((try rw [then_normal]); (try refine aw_seq ?_); refine aw_cond rfl ?_ ?_ <;> intro hb <;> (try (cases hb; done)) <;> (try simp only [bq] at hb) <;> (try (exfalso; omega)); (first | refine go (cj rTI (cj @e5 (cj @e0 (cj @e1 (cj @e2 (cj @e3 (cj @e4 (cj @e6 (cj @e7 (cj @e8 @e9)))))))))) ?_ | exact go0 (cj rTI (cj @e5 (cj @e0 (cj @e1 (cj @e2 (cj @e3 (cj @e4 (cj @e6 (cj @e7 (cj @e8 @e9)))))))))))))
    all_goals (try ((try rw [then_normal]); (try refine aw_seq ?_); refine aw_cond rfl ?_ ?_ <;> intro hb <;> (try (cases hb; done)) <;> (try simp only [bq] at hb) <;> (try (exfalso; omega)); (first | refine go (cj rTI (cj @e5 (cj @e0 (cj @e1 (cj @e2 (cj @e3 (cj @e4 (cj @e6 (cj @e7 (cj @e8 @e9)))))))))) ?_ | exact go0 (cj rTI (cj @e5 (cj @e0 (cj @e1 (cj @e2 (cj @e3 (cj @e4 (cj @e6 (cj @e7 (cj @e8 @e9)))))))))))))
    all_goals (try ((try rw [then_normal]); (try refine aw_seq ?_); refine aw_cond rfl ?_ ?_ <;> intro hb <;> (try (cases hb; done)) <;> (try simp only [bq] at hb) <;> (try (exfalso; omega)); (first | refine go (cj rTI (cj @e5 (cj @e0 (cj @e1 (cj @e2 (cj @e3 (cj @e4 (cj @e6 (cj @e7 (cj @e8 @e9)))))))))) ?_ | exact go0 (cj rTI (cj @e5 (cj @e0 (cj @e1 (cj @e2 (cj @e3 (cj @e4 (cj @e6 (cj @e7 (cj @e8 @e9)))))))))))))
    all_goals (try ((try rw [then_normal]); (try refine aw_seq ?_); refine aw_cond rfl ?_ ?_ <;> intro hb <;> (try (cases hb; done)) <;> (try simp only [bq] at hb) <;> (try (exfalso; omega)); (first | refine go (cj rTI (cj @e5 (cj @e0 (cj @e1 (cj @e2 (cj @e3 (cj @e4 (cj @e6 (cj @e7 (cj @e8 @e9)))))))))) ?_ | exact go0 (cj rTI (cj @e5 (cj @e0 (cj @e1 (cj @e2 (cj @e3 (cj @e4 (cj @e6 (cj @e7 (cj @e8 @e9)))))))))))))
    all_goals (try ((try rw [then_normal]); (try refine aw_seq ?_); refine aw_cond rfl ?_ ?_ <;> intro hb <;> (try (cases hb; done)) <;> (try simp only [bq] at hb) <;> (try (exfalso; omega)); (first | refine go (cj rTI (cj @e5 (cj @e0 (cj @e1 (cj @e2 (cj @e3 (cj @e4 (cj @e6 (cj @e7 (cj @e8 @e9)))))))))) ?_ | exact go0 (cj rTI (cj @e5 (cj @e0 (cj @e1 (cj @e2 (cj @e3 (cj @e4 (cj @e6 (cj @e7 (cj @e8 @e9)))))))))))))
    all_goals (try ((try rw [then_normal]); (try refine aw_seq ?_); refine aw_cond rfl ?_ ?_ <;> intro hb <;> (try (cases hb; done)) <;> (try simp only [bq] at hb) <;> (try (exfalso; omega)); (first | refine go (cj rTI (cj @e5 (cj @e0 (cj @e1 (cj @e2 (cj @e3 (cj @e4 (cj @e6 (cj @e7 (cj @e8 @e9)))))))))) ?_ | exact go0 (cj rTI (cj @e5 (cj @e0 (cj @e1 (cj @e2 (cj @e3 (cj @e4 (cj @e6 (cj @e7 (cj @e8 @e9)))))))))))))
    all_goals rfl
  have hne : ∀ k, k < 10 → l ≠ letterS k := fun k hk => by
    have : k = 0 ∨ k = 1 ∨ k = 2 ∨ k = 3 ∨ k = 4 ∨ k = 5 ∨ k = 6 ∨ k = 7 ∨ k = 8 ∨ k = 9 := by omega
    rcases this with rfl | rfl | rfl | rfl | rfl | rfl | rfl | rfl | rfl | rfl <;> assumption
  rw [letters_exp l hne]
  clear hne
  have e5 : ((bs l).toList == (ByteArray.mk #[]).toList) = false := beq_c l h [] (letter_by 5) false (decide_eq_false w5)
  have e0 : ((bs l).toList == (ByteArray.mk #[102]).toList) = false := beq_c l h [102] (letter_by 0) false (decide_eq_false w0)
  have e1 : ((bs l).toList == (ByteArray.mk #[112]).toList) = false := beq_c l h [112] (letter_by 1) false (decide_eq_false w1)
  have e2 : ((bs l).toList == (ByteArray.mk #[110]).toList) = false := beq_c l h [110] (letter_by 2) false (decide_eq_false w2)
  have e3 : ((bs l).toList == (ByteArray.mk #[117]).toList) = false := beq_c l h [117] (letter_by 3) false (decide_eq_false w3)
  have e4 : ((bs l).toList == (ByteArray.mk #[109]).toList) = false := beq_c l h [109] (letter_by 4) false (decide_eq_false w4)
  have e6 : ((bs l).toList == (ByteArray.mk #[107]).toList) = false := beq_c l h [107] (letter_by 6) false (decide_eq_false w6)
  have e7 : ((bs l).toList == (ByteArray.mk #[109, 101, 103]).toList) = false := beq_c l h [109, 101, 103] (letter_by 7) false (decide_eq_false w7)
  have e8 : ((bs l).toList == (ByteArray.mk #[103]).toList) = false := beq_c l h [103] (letter_by 8) false (decide_eq_false w8)
  have e9 : ((bs l).toList == (ByteArray.mk #[116]).toList) = false := beq_c l h [116] (letter_by 9) false (decide_eq_false w9)

  obtain ⟨c, r, rfl⟩ : ∃ c r, l = c :: r := by
    cases l with
    | nil => exact absurd rfl w5
    | cons c r => exact ⟨c, r, rfl⟩
  clear w5 w0 w1 w2 w3 w4 w6 w7 w8 w9
  have l1 := bs_size (c :: r)
  have g0 := bs_get (c :: r) h 0
  rw [List.getD_cons_zero] at g0
  rw [List.length_cons] at l1 hl
  have tz : Int.toNat 0 = 0 := rfl
  have t1 : Int.toNat 1 = 1 := rfl
  have hc : c < 256 := h c (by simp)
  have hr : By r := fun x hx => h x (by simp [hx])
  by_cases qe : c = 101
  · subst qe
    rw [show expL (101 :: r) = expS r from rfl]
    have sl := slice_one 101 r (r.length + 1) rfl
    have hp1 := hasPrefix_ax r hr 45 (by decide)
    have hp2 := hasPrefix_ax r hr 43 (by decide)
    have lr := bs_size r
    rcases exp_ways r with ⟨d, hrd, hexp⟩ | ⟨d, hrd, hexp⟩ | ⟨d, hrd, hexp, hn1, hn2⟩
    · obtain rfl : r = 45 :: d := by injection hrd
      have hbd : By d := fun x hx => hr x (by simp [hx])
      have s2 := slice_one 45 d (d.length + 1) rfl
      rw [List.length_cons] at l1 hl lr sl
      rw [show decide ((45 :: d).head? = some 45) = true from rfl] at hp1
      refine acall_of Tryz.func51 rfl rfl (by simp [Tryz.ntmps51]) ?_; rw [Tryz.ntmps51, Tryz.results51]
      (first | refine go (cj rTI (cj @e5 (cj @e0 (cj @e1 (cj @e2 (cj @e3 (cj @e4 (cj @e6 (cj @e7 (cj @e8 @e9)))))))))) ?_ | exact go0 (cj rTI (cj @e5 (cj @e0 (cj @e1 (cj @e2 (cj @e3 (cj @e4 (cj @e6 (cj @e7 (cj @e8 @e9)))))))))))
      (try rw [then_normal]); (try refine aw_seq ?_); refine aw_cond rfl ?_ ?_ <;> intro hb <;> (try (cases hb; done)) <;> (try simp only [bq] at hb) <;> (try (exfalso; omega))
      (first | refine go (cj rTI (cj @e5 (cj @e0 (cj @e1 (cj @e2 (cj @e3 (cj @e4 (cj @e6 (cj @e7 (cj @e8 (cj @e9 (cj @l1 (cj @g0 @tz))))))))))))) ?_ | exact go0 (cj rTI (cj @e5 (cj @e0 (cj @e1 (cj @e2 (cj @e3 (cj @e4 (cj @e6 (cj @e7 (cj @e8 (cj @e9 (cj @l1 (cj @g0 @tz))))))))))))))
      (try rw [then_normal]); (try refine aw_seq ?_); refine aw_cond rfl ?_ ?_ <;> intro hb <;> (try (cases hb; done)) <;> (try simp only [bq] at hb) <;> (try (exfalso; omega))
      (first | refine go (cj rTI (cj @e5 (cj @e0 (cj @e1 (cj @e2 (cj @e3 (cj @e4 (cj @e6 (cj @e7 (cj @e8 (cj @e9 (cj @l1 (cj @g0 @tz))))))))))))) ?_ | exact go0 (cj rTI (cj @e5 (cj @e0 (cj @e1 (cj @e2 (cj @e3 (cj @e4 (cj @e6 (cj @e7 (cj @e8 (cj @e9 (cj @l1 (cj @g0 @tz))))))))))))))
      (try rw [then_normal]); (try refine aw_seq ?_); refine aw_cond rfl ?_ ?_ <;> intro hb <;> (try (cases hb; done)) <;> (try simp only [bq] at hb) <;> (try (exfalso; omega))
      (first | refine go (cj rTI (cj @e5 (cj @e0 (cj @e1 (cj @e2 (cj @e3 (cj @e4 (cj @e6 (cj @e7 (cj @e8 (cj @e9 (cj @l1 (cj @g0 @tz))))))))))))) ?_ | exact go0 (cj rTI (cj @e5 (cj @e0 (cj @e1 (cj @e2 (cj @e3 (cj @e4 (cj @e6 (cj @e7 (cj @e8 (cj @e9 (cj @l1 (cj @g0 @tz))))))))))))))
      (try rw [then_normal]); (try refine aw_seq ?_); refine aw_cond rfl ?_ ?_ <;> intro hb <;> (try (cases hb; done)) <;> (try simp only [bq] at hb) <;> (try (exfalso; omega))
      (first | refine go (cj rTI (cj @e5 (cj @e0 (cj @e1 (cj @e2 (cj @e3 (cj @e4 (cj @e6 (cj @e7 (cj @e8 (cj @e9 (cj @l1 (cj @g0 @tz))))))))))))) ?_ | exact go0 (cj rTI (cj @e5 (cj @e0 (cj @e1 (cj @e2 (cj @e3 (cj @e4 (cj @e6 (cj @e7 (cj @e8 (cj @e9 (cj @l1 (cj @g0 @tz))))))))))))))
      (try rw [then_normal]); (try refine aw_seq ?_); refine aw_cond rfl ?_ ?_ <;> intro hb <;> (try (cases hb; done)) <;> (try simp only [bq] at hb) <;> (try (exfalso; omega))
      (first | refine go (cj rTI (cj @e5 (cj @e0 (cj @e1 (cj @e2 (cj @e3 (cj @e4 (cj @e6 (cj @e7 (cj @e8 (cj @e9 (cj @l1 (cj @g0 @tz))))))))))))) ?_ | exact go0 (cj rTI (cj @e5 (cj @e0 (cj @e1 (cj @e2 (cj @e3 (cj @e4 (cj @e6 (cj @e7 (cj @e8 (cj @e9 (cj @l1 (cj @g0 @tz))))))))))))))
      (try rw [then_normal]); (try refine aw_seq ?_); refine aw_cond rfl ?_ ?_ <;> intro hb <;> (try (cases hb; done)) <;> (try simp only [bq] at hb) <;> (try (exfalso; omega))
      (first | refine go (cj rTI (cj @e5 (cj @e0 (cj @e1 (cj @e2 (cj @e3 (cj @e4 (cj @e6 (cj @e7 (cj @e8 (cj @e9 (cj @l1 (cj @g0 @tz))))))))))))) ?_ | exact go0 (cj rTI (cj @e5 (cj @e0 (cj @e1 (cj @e2 (cj @e3 (cj @e4 (cj @e6 (cj @e7 (cj @e8 (cj @e9 (cj @l1 (cj @g0 @tz))))))))))))))
      (try rw [then_normal]); (try refine aw_seq ?_); refine aw_cond rfl ?_ ?_ <;> intro hb <;> (try (cases hb; done)) <;> (try simp only [bq] at hb) <;> (try (exfalso; omega))
      (first | refine go (cj rTI (cj @e5 (cj @e0 (cj @e1 (cj @e2 (cj @e3 (cj @e4 (cj @e6 (cj @e7 (cj @e8 (cj @e9 (cj @l1 (cj @g0 @tz))))))))))))) ?_ | exact go0 (cj rTI (cj @e5 (cj @e0 (cj @e1 (cj @e2 (cj @e3 (cj @e4 (cj @e6 (cj @e7 (cj @e8 (cj @e9 (cj @l1 (cj @g0 @tz))))))))))))))
      (try rw [then_normal]); (try refine aw_seq ?_); refine aw_cond rfl ?_ ?_ <;> intro hb <;> (try (cases hb; done)) <;> (try simp only [bq] at hb) <;> (try (exfalso; omega))
      (first | refine go (cj rTI (cj @e5 (cj @e0 (cj @e1 (cj @e2 (cj @e3 (cj @e4 (cj @e6 (cj @e7 (cj @e8 (cj @e9 (cj @l1 (cj @g0 @tz))))))))))))) ?_ | exact go0 (cj rTI (cj @e5 (cj @e0 (cj @e1 (cj @e2 (cj @e3 (cj @e4 (cj @e6 (cj @e7 (cj @e8 (cj @e9 (cj @l1 (cj @g0 @tz))))))))))))))
      (try rw [then_normal]); (try refine aw_seq ?_); refine aw_cond rfl ?_ ?_ <;> intro hb <;> (try (cases hb; done)) <;> (try simp only [bq] at hb) <;> (try (exfalso; omega))
      (first | refine go (cj rTI (cj @e5 (cj @e0 (cj @e1 (cj @e2 (cj @e3 (cj @e4 (cj @e6 (cj @e7 (cj @e8 (cj @e9 (cj @l1 (cj @g0 @tz))))))))))))) ?_ | exact go0 (cj rTI (cj @e5 (cj @e0 (cj @e1 (cj @e2 (cj @e3 (cj @e4 (cj @e6 (cj @e7 (cj @e8 (cj @e9 (cj @l1 (cj @g0 @tz))))))))))))))
      (try rw [then_normal]); (try refine aw_seq ?_); refine aw_cond rfl ?_ ?_ <;> intro hb <;> (try (cases hb; done)) <;> (try simp only [bq] at hb) <;> (try (exfalso; omega))
      (first | refine go (cj rTI (cj @e5 (cj @e0 (cj @e1 (cj @e2 (cj @e3 (cj @e4 (cj @e6 (cj @e7 (cj @e8 (cj @e9 (cj @l1 (cj @g0 @tz))))))))))))) ?_ | exact go0 (cj rTI (cj @e5 (cj @e0 (cj @e1 (cj @e2 (cj @e3 (cj @e4 (cj @e6 (cj @e7 (cj @e8 (cj @e9 (cj @l1 (cj @g0 @tz))))))))))))))
      rw [then_normal]
      (try rw [then_normal]); (try refine aw_seq ?_); refine aw_cond rfl ?_ ?_ <;> intro hb <;> (try (cases hb; done)) <;> (try simp only [bq] at hb) <;> (try (exfalso; omega))
      (first | refine go (cj rTI (cj @l1 (cj @t1 @sl))) ?_ | exact go0 (cj rTI (cj @l1 (cj @t1 @sl))))
      refine aw_reg fun K hK => ?_; refine rn rTI ?_; refine cont_pure hp1 ?_; refine rn rTI ?_; refine hK _ _ ?_; clear hK K
      rw [then_normal]
      (first | refine go trivial ?_ | exact go0 trivial)
      (try rw [then_normal]); (try refine aw_seq ?_); refine aw_cond rfl ?_ ?_ <;> intro hb <;> (try (cases hb; done)) <;> (try simp only [bq] at hb) <;> (try (exfalso; omega))
      (first | refine go (cj rTI (cj @lr (cj @t1 @s2))) ?_ | exact go0 (cj rTI (cj @lr (cj @t1 @s2))))

      rw [hexp]
      have ld := bs_size d
      have hld : d.length ≤ 1000000000 := by omega
      have hrun := run_ax d hbd hld
      have hfl := fr_le d
      by_cases q1 : d.length < 1
      · rw [two_bad d (fun h => by omega)]
        (first | refine go (cj rTI @ld) ?_ | exact go0 (cj rTI @ld))
        (try rw [then_normal]); (try refine aw_seq ?_); refine aw_cond rfl ?_ ?_ <;> intro hb <;> (try (cases hb; done)) <;> (try simp only [bq] at hb) <;> (try (exfalso; omega))
        (first | refine go trivial ?_ | exact go0 trivial)
        all_goals rfl
      · by_cases q2 : 2 < d.length
        · rw [two_bad d (fun h => by omega)]
          (first | refine go (cj rTI @ld) ?_ | exact go0 (cj rTI @ld))
          (try rw [then_normal]); (try refine aw_seq ?_); refine aw_cond rfl ?_ ?_ <;> intro hb <;> (try (cases hb; done)) <;> (try simp only [bq] at hb) <;> (try (exfalso; omega))
          (first | refine go trivial ?_ | exact go0 trivial)
          all_goals rfl
        · have htwo := two_good d (by omega) (by omega)
          have hff := fr_full d
          by_cases q3 : (fr d).length = d.length
          · have hall := hff.1 q3
            have hat := atoi_ax d hall (fun e => by rw [e] at q1; simp at q1) (by omega)
            have hvb : digV d ≤ 99 := digV_two d (by omega) hall
            rw [htwo, if_pos hall]
            clear hff htwo hall
            refine aw_reg fun K hK => ?_; refine rn (cj rTI @ld) ?_; refine cont_pure hrun ?_; refine rn (cj rTI @ld) ?_; refine hK _ _ ?_; clear hK K
            rw [then_normal]
            (try rw [then_normal]); (try refine aw_seq ?_); refine aw_cond rfl ?_ ?_ <;> intro hb <;> (try (cases hb; done)) <;> (try simp only [bq] at hb) <;> (try (exfalso; omega))
            (first | refine go trivial ?_ | exact go0 trivial)
            generalize digV d = v at *
            refine aw_reg fun K hK => ?_; refine rn rTI ?_; refine cont_pure hat ?_; refine rn rTI ?_; refine hK _ _ ?_; clear hK K
            rw [then_normal]
            (first | refine go trivial ?_ | exact go0 trivial)
            (try rw [then_normal]); (try refine aw_seq ?_); refine aw_cond rfl ?_ ?_ <;> intro hb <;> (try (cases hb; done)) <;> (try simp only [bq] at hb) <;> (try (exfalso; omega))
            (first | refine go trivial ?_ | exact go0 trivial)
            show _ = AV.tp [.v (.int .i64 (-(v : Int))), _]; simp
          · rw [htwo, if_neg (fun h => q3 (hff.2 h))]
            clear hff htwo
            refine aw_reg fun K hK => ?_; refine rn (cj rTI @ld) ?_; refine cont_pure hrun ?_; refine rn (cj rTI @ld) ?_; refine hK _ _ ?_; clear hK K
            rw [then_normal]
            (try rw [then_normal]); (try refine aw_seq ?_); refine aw_cond rfl ?_ ?_ <;> intro hb <;> (try (cases hb; done)) <;> (try simp only [bq] at hb) <;> (try (exfalso; omega))
            (first | refine go trivial ?_ | exact go0 trivial)
            all_goals rfl
    · obtain rfl : r = 43 :: d := by injection hrd
      have hbd : By d := fun x hx => hr x (by simp [hx])
      have s2 := slice_one 43 d (d.length + 1) rfl
      rw [List.length_cons] at l1 hl lr sl
      rw [show decide ((43 :: d).head? = some 45) = false from rfl] at hp1
      rw [show decide ((43 :: d).head? = some 43) = true from rfl] at hp2
      refine acall_of Tryz.func51 rfl rfl (by simp [Tryz.ntmps51]) ?_; rw [Tryz.ntmps51, Tryz.results51]
      (first | refine go (cj rTI (cj @e5 (cj @e0 (cj @e1 (cj @e2 (cj @e3 (cj @e4 (cj @e6 (cj @e7 (cj @e8 @e9)))))))))) ?_ | exact go0 (cj rTI (cj @e5 (cj @e0 (cj @e1 (cj @e2 (cj @e3 (cj @e4 (cj @e6 (cj @e7 (cj @e8 @e9)))))))))))
      (try rw [then_normal]); (try refine aw_seq ?_); refine aw_cond rfl ?_ ?_ <;> intro hb <;> (try (cases hb; done)) <;> (try simp only [bq] at hb) <;> (try (exfalso; omega))
      (first | refine go (cj rTI (cj @e5 (cj @e0 (cj @e1 (cj @e2 (cj @e3 (cj @e4 (cj @e6 (cj @e7 (cj @e8 (cj @e9 (cj @l1 (cj @g0 @tz))))))))))))) ?_ | exact go0 (cj rTI (cj @e5 (cj @e0 (cj @e1 (cj @e2 (cj @e3 (cj @e4 (cj @e6 (cj @e7 (cj @e8 (cj @e9 (cj @l1 (cj @g0 @tz))))))))))))))
      (try rw [then_normal]); (try refine aw_seq ?_); refine aw_cond rfl ?_ ?_ <;> intro hb <;> (try (cases hb; done)) <;> (try simp only [bq] at hb) <;> (try (exfalso; omega))
      (first | refine go (cj rTI (cj @e5 (cj @e0 (cj @e1 (cj @e2 (cj @e3 (cj @e4 (cj @e6 (cj @e7 (cj @e8 (cj @e9 (cj @l1 (cj @g0 @tz))))))))))))) ?_ | exact go0 (cj rTI (cj @e5 (cj @e0 (cj @e1 (cj @e2 (cj @e3 (cj @e4 (cj @e6 (cj @e7 (cj @e8 (cj @e9 (cj @l1 (cj @g0 @tz))))))))))))))
      (try rw [then_normal]); (try refine aw_seq ?_); refine aw_cond rfl ?_ ?_ <;> intro hb <;> (try (cases hb; done)) <;> (try simp only [bq] at hb) <;> (try (exfalso; omega))
      (first | refine go (cj rTI (cj @e5 (cj @e0 (cj @e1 (cj @e2 (cj @e3 (cj @e4 (cj @e6 (cj @e7 (cj @e8 (cj @e9 (cj @l1 (cj @g0 @tz))))))))))))) ?_ | exact go0 (cj rTI (cj @e5 (cj @e0 (cj @e1 (cj @e2 (cj @e3 (cj @e4 (cj @e6 (cj @e7 (cj @e8 (cj @e9 (cj @l1 (cj @g0 @tz))))))))))))))
      (try rw [then_normal]); (try refine aw_seq ?_); refine aw_cond rfl ?_ ?_ <;> intro hb <;> (try (cases hb; done)) <;> (try simp only [bq] at hb) <;> (try (exfalso; omega))
      (first | refine go (cj rTI (cj @e5 (cj @e0 (cj @e1 (cj @e2 (cj @e3 (cj @e4 (cj @e6 (cj @e7 (cj @e8 (cj @e9 (cj @l1 (cj @g0 @tz))))))))))))) ?_ | exact go0 (cj rTI (cj @e5 (cj @e0 (cj @e1 (cj @e2 (cj @e3 (cj @e4 (cj @e6 (cj @e7 (cj @e8 (cj @e9 (cj @l1 (cj @g0 @tz))))))))))))))
      (try rw [then_normal]); (try refine aw_seq ?_); refine aw_cond rfl ?_ ?_ <;> intro hb <;> (try (cases hb; done)) <;> (try simp only [bq] at hb) <;> (try (exfalso; omega))
      (first | refine go (cj rTI (cj @e5 (cj @e0 (cj @e1 (cj @e2 (cj @e3 (cj @e4 (cj @e6 (cj @e7 (cj @e8 (cj @e9 (cj @l1 (cj @g0 @tz))))))))))))) ?_ | exact go0 (cj rTI (cj @e5 (cj @e0 (cj @e1 (cj @e2 (cj @e3 (cj @e4 (cj @e6 (cj @e7 (cj @e8 (cj @e9 (cj @l1 (cj @g0 @tz))))))))))))))
      (try rw [then_normal]); (try refine aw_seq ?_); refine aw_cond rfl ?_ ?_ <;> intro hb <;> (try (cases hb; done)) <;> (try simp only [bq] at hb) <;> (try (exfalso; omega))
      (first | refine go (cj rTI (cj @e5 (cj @e0 (cj @e1 (cj @e2 (cj @e3 (cj @e4 (cj @e6 (cj @e7 (cj @e8 (cj @e9 (cj @l1 (cj @g0 @tz))))))))))))) ?_ | exact go0 (cj rTI (cj @e5 (cj @e0 (cj @e1 (cj @e2 (cj @e3 (cj @e4 (cj @e6 (cj @e7 (cj @e8 (cj @e9 (cj @l1 (cj @g0 @tz))))))))))))))
      (try rw [then_normal]); (try refine aw_seq ?_); refine aw_cond rfl ?_ ?_ <;> intro hb <;> (try (cases hb; done)) <;> (try simp only [bq] at hb) <;> (try (exfalso; omega))
      (first | refine go (cj rTI (cj @e5 (cj @e0 (cj @e1 (cj @e2 (cj @e3 (cj @e4 (cj @e6 (cj @e7 (cj @e8 (cj @e9 (cj @l1 (cj @g0 @tz))))))))))))) ?_ | exact go0 (cj rTI (cj @e5 (cj @e0 (cj @e1 (cj @e2 (cj @e3 (cj @e4 (cj @e6 (cj @e7 (cj @e8 (cj @e9 (cj @l1 (cj @g0 @tz))))))))))))))
      (try rw [then_normal]); (try refine aw_seq ?_); refine aw_cond rfl ?_ ?_ <;> intro hb <;> (try (cases hb; done)) <;> (try simp only [bq] at hb) <;> (try (exfalso; omega))
      (first | refine go (cj rTI (cj @e5 (cj @e0 (cj @e1 (cj @e2 (cj @e3 (cj @e4 (cj @e6 (cj @e7 (cj @e8 (cj @e9 (cj @l1 (cj @g0 @tz))))))))))))) ?_ | exact go0 (cj rTI (cj @e5 (cj @e0 (cj @e1 (cj @e2 (cj @e3 (cj @e4 (cj @e6 (cj @e7 (cj @e8 (cj @e9 (cj @l1 (cj @g0 @tz))))))))))))))
      (try rw [then_normal]); (try refine aw_seq ?_); refine aw_cond rfl ?_ ?_ <;> intro hb <;> (try (cases hb; done)) <;> (try simp only [bq] at hb) <;> (try (exfalso; omega))
      (first | refine go (cj rTI (cj @e5 (cj @e0 (cj @e1 (cj @e2 (cj @e3 (cj @e4 (cj @e6 (cj @e7 (cj @e8 (cj @e9 (cj @l1 (cj @g0 @tz))))))))))))) ?_ | exact go0 (cj rTI (cj @e5 (cj @e0 (cj @e1 (cj @e2 (cj @e3 (cj @e4 (cj @e6 (cj @e7 (cj @e8 (cj @e9 (cj @l1 (cj @g0 @tz))))))))))))))
      (try rw [then_normal]); (try refine aw_seq ?_); refine aw_cond rfl ?_ ?_ <;> intro hb <;> (try (cases hb; done)) <;> (try simp only [bq] at hb) <;> (try (exfalso; omega))
      (first | refine go (cj rTI (cj @e5 (cj @e0 (cj @e1 (cj @e2 (cj @e3 (cj @e4 (cj @e6 (cj @e7 (cj @e8 (cj @e9 (cj @l1 (cj @g0 @tz))))))))))))) ?_ | exact go0 (cj rTI (cj @e5 (cj @e0 (cj @e1 (cj @e2 (cj @e3 (cj @e4 (cj @e6 (cj @e7 (cj @e8 (cj @e9 (cj @l1 (cj @g0 @tz))))))))))))))
      rw [then_normal]
      (try rw [then_normal]); (try refine aw_seq ?_); refine aw_cond rfl ?_ ?_ <;> intro hb <;> (try (cases hb; done)) <;> (try simp only [bq] at hb) <;> (try (exfalso; omega))
      (first | refine go (cj rTI (cj @l1 (cj @t1 @sl))) ?_ | exact go0 (cj rTI (cj @l1 (cj @t1 @sl))))
      refine aw_reg fun K hK => ?_; refine rn rTI ?_; refine cont_pure hp1 ?_; refine rn rTI ?_; refine hK _ _ ?_; clear hK K
      rw [then_normal]
      (first | refine go trivial ?_ | exact go0 trivial)
      refine aw_reg fun K hK => ?_; refine rn rTI ?_; refine cont_pure hp2 ?_; refine rn rTI ?_; refine hK _ _ ?_; clear hK K
      rw [then_normal]
      (try rw [then_normal]); (try refine aw_seq ?_); refine aw_cond rfl ?_ ?_ <;> intro hb <;> (try (cases hb; done)) <;> (try simp only [bq] at hb) <;> (try (exfalso; omega))
      (first | refine go (cj rTI (cj @lr (cj @t1 @s2))) ?_ | exact go0 (cj rTI (cj @lr (cj @t1 @s2))))

      rw [hexp]
      have ld := bs_size d
      have hld : d.length ≤ 1000000000 := by omega
      have hrun := run_ax d hbd hld
      have hfl := fr_le d
      by_cases q1 : d.length < 1
      · rw [two_bad d (fun h => by omega)]
        (first | refine go (cj rTI @ld) ?_ | exact go0 (cj rTI @ld))
        (try rw [then_normal]); (try refine aw_seq ?_); refine aw_cond rfl ?_ ?_ <;> intro hb <;> (try (cases hb; done)) <;> (try simp only [bq] at hb) <;> (try (exfalso; omega))
        (first | refine go trivial ?_ | exact go0 trivial)
        all_goals rfl
      · by_cases q2 : 2 < d.length
        · rw [two_bad d (fun h => by omega)]
          (first | refine go (cj rTI @ld) ?_ | exact go0 (cj rTI @ld))
          (try rw [then_normal]); (try refine aw_seq ?_); refine aw_cond rfl ?_ ?_ <;> intro hb <;> (try (cases hb; done)) <;> (try simp only [bq] at hb) <;> (try (exfalso; omega))
          (first | refine go trivial ?_ | exact go0 trivial)
          all_goals rfl
        · have htwo := two_good d (by omega) (by omega)
          have hff := fr_full d
          by_cases q3 : (fr d).length = d.length
          · have hall := hff.1 q3
            have hat := atoi_ax d hall (fun e => by rw [e] at q1; simp at q1) (by omega)
            have hvb : digV d ≤ 99 := digV_two d (by omega) hall
            rw [htwo, if_pos hall]
            clear hff htwo hall
            refine aw_reg fun K hK => ?_; refine rn (cj rTI @ld) ?_; refine cont_pure hrun ?_; refine rn (cj rTI @ld) ?_; refine hK _ _ ?_; clear hK K
            rw [then_normal]
            (try rw [then_normal]); (try refine aw_seq ?_); refine aw_cond rfl ?_ ?_ <;> intro hb <;> (try (cases hb; done)) <;> (try simp only [bq] at hb) <;> (try (exfalso; omega))
            (first | refine go trivial ?_ | exact go0 trivial)
            generalize digV d = v at *
            refine aw_reg fun K hK => ?_; refine rn rTI ?_; refine cont_pure hat ?_; refine rn rTI ?_; refine hK _ _ ?_; clear hK K
            rw [then_normal]
            (first | refine go trivial ?_ | exact go0 trivial)
            (try rw [then_normal]); (try refine aw_seq ?_); refine aw_cond rfl ?_ ?_ <;> intro hb <;> (try (cases hb; done)) <;> (try simp only [bq] at hb) <;> (try (exfalso; omega))
            (first | refine go trivial ?_ | exact go0 trivial)
            show _ = AV.tp [.v (.int .i64 (v : Int)), _]; simp
          · rw [htwo, if_neg (fun h => q3 (hff.2 h))]
            clear hff htwo
            refine aw_reg fun K hK => ?_; refine rn (cj rTI @ld) ?_; refine cont_pure hrun ?_; refine rn (cj rTI @ld) ?_; refine hK _ _ ?_; clear hK K
            rw [then_normal]
            (try rw [then_normal]); (try refine aw_seq ?_); refine aw_cond rfl ?_ ?_ <;> intro hb <;> (try (cases hb; done)) <;> (try simp only [bq] at hb) <;> (try (exfalso; omega))
            (first | refine go trivial ?_ | exact go0 trivial)
            all_goals rfl
    · obtain rfl : r = d := by injection hrd
      have hbd := hr
      have hh1 : decide (r.head? = some 45) = false := by cases r with | nil => rfl | cons a r => simpa using hn1
      have hh2 : decide (r.head? = some 43) = false := by cases r with | nil => rfl | cons a r => simpa using hn2
      rw [hh1] at hp1
      rw [hh2] at hp2
      refine acall_of Tryz.func51 rfl rfl (by simp [Tryz.ntmps51]) ?_; rw [Tryz.ntmps51, Tryz.results51]
      (first | refine go (cj rTI (cj @e5 (cj @e0 (cj @e1 (cj @e2 (cj @e3 (cj @e4 (cj @e6 (cj @e7 (cj @e8 @e9)))))))))) ?_ | exact go0 (cj rTI (cj @e5 (cj @e0 (cj @e1 (cj @e2 (cj @e3 (cj @e4 (cj @e6 (cj @e7 (cj @e8 @e9)))))))))))
      (try rw [then_normal]); (try refine aw_seq ?_); refine aw_cond rfl ?_ ?_ <;> intro hb <;> (try (cases hb; done)) <;> (try simp only [bq] at hb) <;> (try (exfalso; omega))
      (first | refine go (cj rTI (cj @e5 (cj @e0 (cj @e1 (cj @e2 (cj @e3 (cj @e4 (cj @e6 (cj @e7 (cj @e8 (cj @e9 (cj @l1 (cj @g0 @tz))))))))))))) ?_ | exact go0 (cj rTI (cj @e5 (cj @e0 (cj @e1 (cj @e2 (cj @e3 (cj @e4 (cj @e6 (cj @e7 (cj @e8 (cj @e9 (cj @l1 (cj @g0 @tz))))))))))))))
      (try rw [then_normal]); (try refine aw_seq ?_); refine aw_cond rfl ?_ ?_ <;> intro hb <;> (try (cases hb; done)) <;> (try simp only [bq] at hb) <;> (try (exfalso; omega))
      (first | refine go (cj rTI (cj @e5 (cj @e0 (cj @e1 (cj @e2 (cj @e3 (cj @e4 (cj @e6 (cj @e7 (cj @e8 (cj @e9 (cj @l1 (cj @g0 @tz))))))))))))) ?_ | exact go0 (cj rTI (cj @e5 (cj @e0 (cj @e1 (cj @e2 (cj @e3 (cj @e4 (cj @e6 (cj @e7 (cj @e8 (cj @e9 (cj @l1 (cj @g0 @tz))))))))))))))
      (try rw [then_normal]); (try refine aw_seq ?_); refine aw_cond rfl ?_ ?_ <;> intro hb <;> (try (cases hb; done)) <;> (try simp only [bq] at hb) <;> (try (exfalso; omega))
      (first | refine go (cj rTI (cj @e5 (cj @e0 (cj @e1 (cj @e2 (cj @e3 (cj @e4 (cj @e6 (cj @e7 (cj @e8 (cj @e9 (cj @l1 (cj @g0 @tz))))))))))))) ?_ | exact go0 (cj rTI (cj @e5 (cj @e0 (cj @e1 (cj @e2 (cj @e3 (cj @e4 (cj @e6 (cj @e7 (cj @e8 (cj @e9 (cj @l1 (cj @g0 @tz))))))))))))))
      (try rw [then_normal]); (try refine aw_seq ?_); refine aw_cond rfl ?_ ?_ <;> intro hb <;> (try (cases hb; done)) <;> (try simp only [bq] at hb) <;> (try (exfalso; omega))
      (first | refine go (cj rTI (cj @e5 (cj @e0 (cj @e1 (cj @e2 (cj @e3 (cj @e4 (cj @e6 (cj @e7 (cj @e8 (cj @e9 (cj @l1 (cj @g0 @tz))))))))))))) ?_ | exact go0 (cj rTI (cj @e5 (cj @e0 (cj @e1 (cj @e2 (cj @e3 (cj @e4 (cj @e6 (cj @e7 (cj @e8 (cj @e9 (cj @l1 (cj @g0 @tz))))))))))))))
      (try rw [then_normal]); (try refine aw_seq ?_); refine aw_cond rfl ?_ ?_ <;> intro hb <;> (try (cases hb; done)) <;> (try simp only [bq] at hb) <;> (try (exfalso; omega))
      (first | refine go (cj rTI (cj @e5 (cj @e0 (cj @e1 (cj @e2 (cj @e3 (cj @e4 (cj @e6 (cj @e7 (cj @e8 (cj @e9 (cj @l1 (cj @g0 @tz))))))))))))) ?_ | exact go0 (cj rTI (cj @e5 (cj @e0 (cj @e1 (cj @e2 (cj @e3 (cj @e4 (cj @e6 (cj @e7 (cj @e8 (cj @e9 (cj @l1 (cj @g0 @tz))))))))))))))
      (try rw [then_normal]); (try refine aw_seq ?_); refine aw_cond rfl ?_ ?_ <;> intro hb <;> (try (cases hb; done)) <;> (try simp only [bq] at hb) <;> (try (exfalso; omega))
      (first | refine go (cj rTI (cj @e5 (cj @e0 (cj @e1 (cj @e2 (cj @e3 (cj @e4 (cj @e6 (cj @e7 (cj @e8 (cj @e9 (cj @l1 (cj @g0 @tz))))))))))))) ?_ | exact go0 (cj rTI (cj @e5 (cj @e0 (cj @e1 (cj @e2 (cj @e3 (cj @e4 (cj @e6 (cj @e7 (cj @e8 (cj @e9 (cj @l1 (cj @g0 @tz))))))))))))))
      (try rw [then_normal]); (try refine aw_seq ?_); refine aw_cond rfl ?_ ?_ <;> intro hb <;> (try (cases hb; done)) <;> (try simp only [bq] at hb) <;> (try (exfalso; omega))
      (first | refine go (cj rTI (cj @e5 (cj @e0 (cj @e1 (cj @e2 (cj @e3 (cj @e4 (cj @e6 (cj @e7 (cj @e8 (cj @e9 (cj @l1 (cj @g0 @tz))))))))))))) ?_ | exact go0 (cj rTI (cj @e5 (cj @e0 (cj @e1 (cj @e2 (cj @e3 (cj @e4 (cj @e6 (cj @e7 (cj @e8 (cj @e9 (cj @l1 (cj @g0 @tz))))))))))))))
      (try rw [then_normal]); (try refine aw_seq ?_); refine aw_cond rfl ?_ ?_ <;> intro hb <;> (try (cases hb; done)) <;> (try simp only [bq] at hb) <;> (try (exfalso; omega))
      (first | refine go (cj rTI (cj @e5 (cj @e0 (cj @e1 (cj @e2 (cj @e3 (cj @e4 (cj @e6 (cj @e7 (cj @e8 (cj @e9 (cj @l1 (cj @g0 @tz))))))))))))) ?_ | exact go0 (cj rTI (cj @e5 (cj @e0 (cj @e1 (cj @e2 (cj @e3 (cj @e4 (cj @e6 (cj @e7 (cj @e8 (cj @e9 (cj @l1 (cj @g0 @tz))))))))))))))
      (try rw [then_normal]); (try refine aw_seq ?_); refine aw_cond rfl ?_ ?_ <;> intro hb <;> (try (cases hb; done)) <;> (try simp only [bq] at hb) <;> (try (exfalso; omega))
      (first | refine go (cj rTI (cj @e5 (cj @e0 (cj @e1 (cj @e2 (cj @e3 (cj @e4 (cj @e6 (cj @e7 (cj @e8 (cj @e9 (cj @l1 (cj @g0 @tz))))))))))))) ?_ | exact go0 (cj rTI (cj @e5 (cj @e0 (cj @e1 (cj @e2 (cj @e3 (cj @e4 (cj @e6 (cj @e7 (cj @e8 (cj @e9 (cj @l1 (cj @g0 @tz))))))))))))))
      (try rw [then_normal]); (try refine aw_seq ?_); refine aw_cond rfl ?_ ?_ <;> intro hb <;> (try (cases hb; done)) <;> (try simp only [bq] at hb) <;> (try (exfalso; omega))
      (first | refine go (cj rTI (cj @e5 (cj @e0 (cj @e1 (cj @e2 (cj @e3 (cj @e4 (cj @e6 (cj @e7 (cj @e8 (cj @e9 (cj @l1 (cj @g0 @tz))))))))))))) ?_ | exact go0 (cj rTI (cj @e5 (cj @e0 (cj @e1 (cj @e2 (cj @e3 (cj @e4 (cj @e6 (cj @e7 (cj @e8 (cj @e9 (cj @l1 (cj @g0 @tz))))))))))))))
      rw [then_normal]
      (try rw [then_normal]); (try refine aw_seq ?_); refine aw_cond rfl ?_ ?_ <;> intro hb <;> (try (cases hb; done)) <;> (try simp only [bq] at hb) <;> (try (exfalso; omega))
      (first | refine go (cj rTI (cj @l1 (cj @t1 @sl))) ?_ | exact go0 (cj rTI (cj @l1 (cj @t1 @sl))))
      refine aw_reg fun K hK => ?_; refine rn rTI ?_; refine cont_pure hp1 ?_; refine rn rTI ?_; refine hK _ _ ?_; clear hK K
      rw [then_normal]
      (first | refine go trivial ?_ | exact go0 trivial)
      refine aw_reg fun K hK => ?_; refine rn rTI ?_; refine cont_pure hp2 ?_; refine rn rTI ?_; refine hK _ _ ?_; clear hK K
      rw [then_normal]
      (try rw [then_normal]); (try refine aw_seq ?_); refine aw_cond rfl ?_ ?_ <;> intro hb <;> (try (cases hb; done)) <;> (try simp only [bq] at hb) <;> (try (exfalso; omega))
      (first | refine go trivial ?_ | exact go0 trivial)

      rw [hexp]
      have ld := bs_size r
      have hld : r.length ≤ 1000000000 := by omega
      have hrun := run_ax r hbd hld
      have hfl := fr_le r
      by_cases q1 : r.length < 1
      · rw [two_bad r (fun h => by omega)]
        (first | refine go (cj rTI @ld) ?_ | exact go0 (cj rTI @ld))
        (try rw [then_normal]); (try refine aw_seq ?_); refine aw_cond rfl ?_ ?_ <;> intro hb <;> (try (cases hb; done)) <;> (try simp only [bq] at hb) <;> (try (exfalso; omega))
        (first | refine go trivial ?_ | exact go0 trivial)
        all_goals rfl
      · by_cases q2 : 2 < r.length
        · rw [two_bad r (fun h => by omega)]
          (first | refine go (cj rTI @ld) ?_ | exact go0 (cj rTI @ld))
          (try rw [then_normal]); (try refine aw_seq ?_); refine aw_cond rfl ?_ ?_ <;> intro hb <;> (try (cases hb; done)) <;> (try simp only [bq] at hb) <;> (try (exfalso; omega))
          (first | refine go trivial ?_ | exact go0 trivial)
          all_goals rfl
        · have htwo := two_good r (by omega) (by omega)
          have hff := fr_full r
          by_cases q3 : (fr r).length = r.length
          · have hall := hff.1 q3
            have hat := atoi_ax r hall (fun e => by rw [e] at q1; simp at q1) (by omega)
            have hvb : digV r ≤ 99 := digV_two r (by omega) hall
            rw [htwo, if_pos hall]
            clear hff htwo hall
            refine aw_reg fun K hK => ?_; refine rn (cj rTI @ld) ?_; refine cont_pure hrun ?_; refine rn (cj rTI @ld) ?_; refine hK _ _ ?_; clear hK K
            rw [then_normal]
            (try rw [then_normal]); (try refine aw_seq ?_); refine aw_cond rfl ?_ ?_ <;> intro hb <;> (try (cases hb; done)) <;> (try simp only [bq] at hb) <;> (try (exfalso; omega))
            (first | refine go trivial ?_ | exact go0 trivial)
            generalize digV r = v at *
            refine aw_reg fun K hK => ?_; refine rn rTI ?_; refine cont_pure hat ?_; refine rn rTI ?_; refine hK _ _ ?_; clear hK K
            rw [then_normal]
            (first | refine go trivial ?_ | exact go0 trivial)
            (try rw [then_normal]); (try refine aw_seq ?_); refine aw_cond rfl ?_ ?_ <;> intro hb <;> (try (cases hb; done)) <;> (try simp only [bq] at hb) <;> (try (exfalso; omega))
            (first | refine go trivial ?_ | exact go0 trivial)
            show _ = AV.tp [.v (.int .i64 (v : Int)), _]; simp
          · rw [htwo, if_neg (fun h => q3 (hff.2 h))]
            clear hff htwo
            refine aw_reg fun K hK => ?_; refine rn (cj rTI @ld) ?_; refine cont_pure hrun ?_; refine rn (cj rTI @ld) ?_; refine hK _ _ ?_; clear hK K
            rw [then_normal]
            (try rw [then_normal]); (try refine aw_seq ?_); refine aw_cond rfl ?_ ?_ <;> intro hb <;> (try (cases hb; done)) <;> (try simp only [bq] at hb) <;> (try (exfalso; omega))
            (first | refine go trivial ?_ | exact go0 trivial)
            all_goals rfl
  · rw [show expL (c :: r) = none by unfold expL; split <;> simp_all]
    refine acall_of Tryz.func51 rfl rfl (by simp [Tryz.ntmps51]) ?_; rw [Tryz.ntmps51, Tryz.results51]
    (first | refine go (cj rTI (cj @e5 (cj @e0 (cj @e1 (cj @e2 (cj @e3 (cj @e4 (cj @e6 (cj @e7 (cj @e8 @e9)))))))))) ?_ | exact go0 (cj rTI (cj @e5 (cj @e0 (cj @e1 (cj @e2 (cj @e3 (cj @e4 (cj @e6 (cj @e7 (cj @e8 @e9)))))))))))
    (try rw [then_normal]); (try refine aw_seq ?_); refine aw_cond rfl ?_ ?_ <;> intro hb <;> (try (cases hb; done)) <;> (try simp only [bq] at hb) <;> (try (exfalso; omega))
    (first | refine go (cj rTI (cj @e5 (cj @e0 (cj @e1 (cj @e2 (cj @e3 (cj @e4 (cj @e6 (cj @e7 (cj @e8 (cj @e9 (cj @l1 (cj @g0 @tz))))))))))))) ?_ | exact go0 (cj rTI (cj @e5 (cj @e0 (cj @e1 (cj @e2 (cj @e3 (cj @e4 (cj @e6 (cj @e7 (cj @e8 (cj @e9 (cj @l1 (cj @g0 @tz))))))))))))))
    (try rw [then_normal]); (try refine aw_seq ?_); refine aw_cond rfl ?_ ?_ <;> intro hb <;> (try (cases hb; done)) <;> (try simp only [bq] at hb) <;> (try (exfalso; omega))
    (first | refine go (cj rTI (cj @e5 (cj @e0 (cj @e1 (cj @e2 (cj @e3 (cj @e4 (cj @e6 (cj @e7 (cj @e8 (cj @e9 (cj @l1 (cj @g0 @tz))))))))))))) ?_ | exact go0 (cj rTI (cj @e5 (cj @e0 (cj @e1 (cj @e2 (cj @e3 (cj @e4 (cj @e6 (cj @e7 (cj @e8 (cj @e9 (cj @l1 (cj @g0 @tz))))))))))))))
    (try rw [then_normal]); (try refine aw_seq ?_); refine aw_cond rfl ?_ ?_ <;> intro hb <;> (try (cases hb; done)) <;> (try simp only [bq] at hb) <;> (try (exfalso; omega))
    (first | refine go (cj rTI (cj @e5 (cj @e0 (cj @e1 (cj @e2 (cj @e3 (cj @e4 (cj @e6 (cj @e7 (cj @e8 (cj @e9 (cj @l1 (cj @g0 @tz))))))))))))) ?_ | exact go0 (cj rTI (cj @e5 (cj @e0 (cj @e1 (cj @e2 (cj @e3 (cj @e4 (cj @e6 (cj @e7 (cj @e8 (cj @e9 (cj @l1 (cj @g0 @tz))))))))))))))
    (try rw [then_normal]); (try refine aw_seq ?_); refine aw_cond rfl ?_ ?_ <;> intro hb <;> (try (cases hb; done)) <;> (try simp only [bq] at hb) <;> (try (exfalso; omega))
    (first | refine go (cj rTI (cj @e5 (cj @e0 (cj @e1 (cj @e2 (cj @e3 (cj @e4 (cj @e6 (cj @e7 (cj @e8 (cj @e9 (cj @l1 (cj @g0 @tz))))))))))))) ?_ | exact go0 (cj rTI (cj @e5 (cj @e0 (cj @e1 (cj @e2 (cj @e3 (cj @e4 (cj @e6 (cj @e7 (cj @e8 (cj @e9 (cj @l1 (cj @g0 @tz))))))))))))))
    (try rw [then_normal]); (try refine aw_seq ?_); refine aw_cond rfl ?_ ?_ <;> intro hb <;> (try (cases hb; done)) <;> (try simp only [bq] at hb) <;> (try (exfalso; omega))
    (first | refine go (cj rTI (cj @e5 (cj @e0 (cj @e1 (cj @e2 (cj @e3 (cj @e4 (cj @e6 (cj @e7 (cj @e8 (cj @e9 (cj @l1 (cj @g0 @tz))))))))))))) ?_ | exact go0 (cj rTI (cj @e5 (cj @e0 (cj @e1 (cj @e2 (cj @e3 (cj @e4 (cj @e6 (cj @e7 (cj @e8 (cj @e9 (cj @l1 (cj @g0 @tz))))))))))))))
    (try rw [then_normal]); (try refine aw_seq ?_); refine aw_cond rfl ?_ ?_ <;> intro hb <;> (try (cases hb; done)) <;> (try simp only [bq] at hb) <;> (try (exfalso; omega))
    (first | refine go (cj rTI (cj @e5 (cj @e0 (cj @e1 (cj @e2 (cj @e3 (cj @e4 (cj @e6 (cj @e7 (cj @e8 (cj @e9 (cj @l1 (cj @g0 @tz))))))))))))) ?_ | exact go0 (cj rTI (cj @e5 (cj @e0 (cj @e1 (cj @e2 (cj @e3 (cj @e4 (cj @e6 (cj @e7 (cj @e8 (cj @e9 (cj @l1 (cj @g0 @tz))))))))))))))
    (try rw [then_normal]); (try refine aw_seq ?_); refine aw_cond rfl ?_ ?_ <;> intro hb <;> (try (cases hb; done)) <;> (try simp only [bq] at hb) <;> (try (exfalso; omega))
    (first | refine go (cj rTI (cj @e5 (cj @e0 (cj @e1 (cj @e2 (cj @e3 (cj @e4 (cj @e6 (cj @e7 (cj @e8 (cj @e9 (cj @l1 (cj @g0 @tz))))))))))))) ?_ | exact go0 (cj rTI (cj @e5 (cj @e0 (cj @e1 (cj @e2 (cj @e3 (cj @e4 (cj @e6 (cj @e7 (cj @e8 (cj @e9 (cj @l1 (cj @g0 @tz))))))))))))))
    (try rw [then_normal]); (try refine aw_seq ?_); refine aw_cond rfl ?_ ?_ <;> intro hb <;> (try (cases hb; done)) <;> (try simp only [bq] at hb) <;> (try (exfalso; omega))
    (first | refine go (cj rTI (cj @e5 (cj @e0 (cj @e1 (cj @e2 (cj @e3 (cj @e4 (cj @e6 (cj @e7 (cj @e8 (cj @e9 (cj @l1 (cj @g0 @tz))))))))))))) ?_ | exact go0 (cj rTI (cj @e5 (cj @e0 (cj @e1 (cj @e2 (cj @e3 (cj @e4 (cj @e6 (cj @e7 (cj @e8 (cj @e9 (cj @l1 (cj @g0 @tz))))))))))))))
    (try rw [then_normal]); (try refine aw_seq ?_); refine aw_cond rfl ?_ ?_ <;> intro hb <;> (try (cases hb; done)) <;> (try simp only [bq] at hb) <;> (try (exfalso; omega))
    (first | refine go (cj rTI (cj @e5 (cj @e0 (cj @e1 (cj @e2 (cj @e3 (cj @e4 (cj @e6 (cj @e7 (cj @e8 (cj @e9 (cj @l1 (cj @g0 @tz))))))))))))) ?_ | exact go0 (cj rTI (cj @e5 (cj @e0 (cj @e1 (cj @e2 (cj @e3 (cj @e4 (cj @e6 (cj @e7 (cj @e8 (cj @e9 (cj @l1 (cj @g0 @tz))))))))))))))
    (try rw [then_normal]); (try refine aw_seq ?_); refine aw_cond rfl ?_ ?_ <;> intro hb <;> (try (cases hb; done)) <;> (try simp only [bq] at hb) <;> (try (exfalso; omega))
    (first | refine go (cj rTI (cj @e5 (cj @e0 (cj @e1 (cj @e2 (cj @e3 (cj @e4 (cj @e6 (cj @e7 (cj @e8 (cj @e9 (cj @l1 (cj @g0 @tz))))))))))))) ?_ | exact go0 (cj rTI (cj @e5 (cj @e0 (cj @e1 (cj @e2 (cj @e3 (cj @e4 (cj @e6 (cj @e7 (cj @e8 (cj @e9 (cj @l1 (cj @g0 @tz))))))))))))))
    rw [then_normal]
    (try rw [then_normal]); (try refine aw_seq ?_); refine aw_cond rfl ?_ ?_ <;> intro hb <;> (try (cases hb; done)) <;> (try simp only [bq] at hb) <;> (try (exfalso; omega))
    (first | refine go trivial ?_ | exact go0 trivial)
    all_goals rfl
end Go.Proofs.YtfjelkjlfcafgaaGreatDoor.NumV
end
section
/- Texts of numbers: num.Parse. -/
namespace Go.Proofs.YtfjelkjlfcafgaaGreatDoor.NumW
open Go Go.RowKit Go.Proofs.YtfjelkjlfcafgaaGreatDoor.Ax Go.Proofs.YtfjelkjlfcafgaaGreatDoor.Ti Go.Proofs.YtfjelkjlfcafgaaGreatDoor.BigM Go.Proofs.YtfjelkjlfcafgaaGreatDoor.NumS Go.Proofs.YtfjelkjlfcafgaaGreatDoor.NumA Go.Proofs.YtfjelkjlfcafgaaGreatDoor.NumT Go.Proofs.YtfjelkjlfcafgaaGreatDoor.NumU Go.Proofs.YtfjelkjlfcafgaaGreatDoor.NumL Go.Proofs.YtfjelkjlfcafgaaGreatDoor.NumV Go.Proofs.YtfjelkjlfcafgaaGreatDoor.NumP
set_option linter.unusedSimpArgs false
set_option linter.unusedVariables false
set_option maxRecDepth 4000
set_option maxHeartbeats 2000000
theorem rTI : type_of% (cj @ti3 (cj @ti2 (cj @ti4 (cj @ti9 (cj @ti5 (cj @ti36 (cj @ti24 @ti25))))))) := cj @ti3 (cj @ti2 (cj @ti4 (cj @ti9 (cj @ti5 (cj @ti36 (cj @ti24 @ti25))))))

/-- A part that goes on in one way, or ends. -/
theorem aw_way {P : Program} {x : Code} {m0 : Nat} {e : Env} {s : St} {Q : Exit → Env → St → Prop} (I : Env → St → Prop) (h1 : AW P x m0 e s fun ex e' s' => (ex = .normal ∧ I e' s') ∨ (ex = .ret ∧ Q .ret e' s')) (h2 : ∀ e' s', I e' s' → Q .normal e' s') : AW P x m0 e s Q :=
  aw_mono h1 fun ex e' s' h => by
    rcases h with ⟨hn, hI⟩ | ⟨hn, hQ⟩
    · subst hn; exact h2 e' s' hI
    · subst hn; exact hQ
def parseV (p : Int × Int × Int) : AV := .tp [NM p.1 p.2.1, .v (.int .i64 p.2.2)]
theorem slice_to (l : List Nat) (k : Nat) : (bs l).extract 0 k = bs (l.take k) := by
  rw [bs_slice, List.drop_zero, Nat.sub_zero]
theorem slice_from (l : List Nat) (k n : Nat) (hn : n = l.length) : (bs l).extract k n = bs (l.drop k) := by
  rw [bs_slice]
  congr 1
  rw [List.take_of_length_le (by rw [List.length_drop]; omega)]
theorem by_sub {l : List Nat} (h : By l) {m : List Nat} (hm : ∀ c ∈ m, c ∈ l) : By m := fun c hc => h c (hm c hc)
theorem bk_mem (r : List Nat) : ∀ c ∈ bk r, c ∈ r := fun c hc => by rw [← fr_bk r]; exact List.mem_append_right _ hc
theorem cut_mem (l : List Nat) : ∀ c ∈ cut1 l 45, c ∈ l := fun c hc => by
  unfold cut1 at hc
  split at hc
  · exact List.mem_of_mem_tail hc
  · exact hc
theorem cut_len (l : List Nat) : (cut1 l 45).length ≤ l.length := by
  unfold cut1
  split
  · rw [List.length_tail]; omega
  · exact Nat.le_refl _
theorem two_bound (d : List Nat) (v : Int) (h : two d = some v) : 0 ≤ v ∧ v ≤ 99 := by
  unfold two at h
  split at h
  · split at h
    · rename_i hd
      have := (isD_iff _).1 hd
      injection h with h
      omega
    · cases h
  · split at h
    · rename_i hd
      rw [Bool.and_eq_true] at hd
      have h1 := (isD_iff _).1 hd.1
      have h2 := (isD_iff _).1 hd.2
      injection h with h
      omega
    · cases h
  · cases h
theorem exp_bound (d : List Nat) (v : Int) (h : expS d = some v) : -99 ≤ v ∧ v ≤ 99 := by
  unfold expS at h
  split at h
  · rename_i r
    cases hr : two r with
    | none => rw [hr] at h; cases h
    | some w =>
      rw [hr] at h
      have := two_bound r w hr
      have h' : -w = v := by simpa using h
      omega
  · have := two_bound _ v h
    omega
  · have := two_bound _ v h
    omega
theorem letters_bound (l : List Nat) (v : Int) (h : lettersS l = some v) : -99 ≤ v ∧ v ≤ 99 := by
  unfold lettersS at h
  split at h
  all_goals first
    | (injection h with h; omega)
    | exact exp_bound _ _ h
    | cases h
def fin3 (neg : Bool) (ds : List Nat) (x : Int) : Option Int → Int × Int × Int
  | none => (0, 0, 3)
  | some e => finS neg (digV ds) (x + e)
theorem body_no (neg : Bool) (r : List Nat) (h0 : fr r ≠ []) (h1 : ¬ (bk r).head? = some 46) : bodyS neg r = fin3 neg (fr r) 0 (lettersS (bk r)) := by
  unfold bodyS
  rw [if_neg h0]
  split
  · rename_i q hq
    rw [hq] at h1
    exact absurd rfl h1
  · unfold fin3
    split <;> simp_all
theorem body_pt (neg : Bool) (r q : List Nat) (h0 : fr r ≠ []) (h1 : bk r = 46 :: q) : bodyS neg r = if fr q = [] then (0, 0, 3) else fin3 neg (fr r ++ fr q) (-((fr q).length : Int)) (lettersS (bk q)) := by
  unfold bodyS
  rw [if_neg h0, h1]
  simp only
  by_cases h2 : fr q = []
  · rw [if_pos h2, if_pos h2]
  · rw [if_neg h2, if_neg h2]
    unfold fin3
    split
    · rename_i hh; first | rfl | rw [hh]
    · rename_i e hh
      first
        | (rw [hh]; simp only; congr 1; omega)
        | (congr 1; omega)
theorem parse_ax (l : List Nat) (h : By l) (hl : l.length ≤ 1000000000) : PCall Tryz.prog 14 [.v (.string (bs l))] (parseV (parseS l)) := by
  refine pcall_of fun s => ?_
  rw [show idf (parseV (parseS l)) = true from rfl]
  have l1 := bs_size l
  have p0 : (s.push [.v (.int .i64 0), .v (.int .i64 0)]).get s.nx = some [.v (.int .i64 0), .v (.int .i64 0)] := St.push_same _ _
  by_cases q32 : 32 < l.length
  · rw [show parseS l = (0, 0, 3) by unfold parseS; rw [if_pos q32]]
    show ACall _ _ _ _ fun r' s' => r' = .tp [.ag [.v (.int .i64 0), .v (.int .i64 0)], .v (.int .i64 3)] ∧ _
    refine acall_of Tryz.func14 rfl rfl (by simp [Tryz.ntmps14]) ?_; rw [Tryz.ntmps14, Tryz.results14]
    (first | refine go (cj rTI @l1) ?_ | exact go0 (cj rTI @l1))
    (try rw [then_normal]); (try refine aw_seq ?_); refine aw_cond rfl ?_ ?_ <;> intro hb <;> (try (cases hb; done)) <;> (try simp only [bq] at hb) <;> (try (exfalso; omega))
    (first | refine go rTI ?_ | exact go0 rTI)
    exact fun i hi => by rw [if_neg (by omega)]
  · have hcut := cutPrefix_ax l h 45 (by decide)
    have hb1 := by_sub h (cut_mem l)
    have hlc := cut_len l
    rw [parse_cut l (by omega)]
    generalize cut1 l 45 = r at *
    generalize decide (l.head? = some 45) = neg at *
    have hrun := run_ax r hb1 (by omega)
    have lr := bs_size r
    have hfl := fr_le r
    refine acall_of Tryz.func14 rfl rfl (by simp [Tryz.ntmps14]) ?_; rw [Tryz.ntmps14, Tryz.results14]
    (first | refine go (cj rTI @l1) ?_ | exact go0 (cj rTI @l1))
    (try rw [then_normal]); (try refine aw_seq ?_); refine aw_cond rfl ?_ ?_ <;> intro hb <;> (try (cases hb; done)) <;> (try simp only [bq] at hb) <;> (try (exfalso; omega))
    (first | refine go rTI ?_ | exact go0 rTI)
    refine aw_reg fun K hK => ?_; refine rn rTI ?_; refine cont_pure hcut ?_; refine rn rTI ?_; refine hK _ _ ?_; clear hK K
    rw [then_normal]
    (first | refine go trivial ?_ | exact go0 trivial)
    refine aw_reg fun K hK => ?_; refine rn rTI ?_; refine cont_pure hrun ?_; refine rn rTI ?_; refine hK _ _ ?_; clear hK K
    rw [then_normal]
    by_cases q0 : (fr r).length = 0
    · have hf0 : fr r = [] := List.length_eq_zero_iff.1 q0
      have hbs : bodyS neg r = (0, 0, 3) := by unfold bodyS; rw [if_pos hf0]
      rw [hbs]
      show AW _ _ _ _ _ (fpost _ _ fun r' s' => r' = .tp [.ag [.v (.int .i64 0), .v (.int .i64 0)], .v (.int .i64 3)] ∧ _)
      (first | refine go rTI ?_ | exact go0 rTI)
      (try rw [then_normal]); (try refine aw_seq ?_); refine aw_cond rfl ?_ ?_ <;> intro hb <;> (try (cases hb; done)) <;> (try simp only [bq] at hb) <;> (try (exfalso; omega))
      (first | refine go rTI ?_ | exact go0 rTI)
      exact fun i hi => by rw [if_neg (by omega)]
    · have sl1 := slice_to r (fr r).length
      have sl2 := slice_from r (fr r).length r.length rfl
      rw [fr_take] at sl1
      rw [bk_drop] at sl2
      have tz : Int.toNat 0 = 0 := rfl
      (first | refine go rTI ?_ | exact go0 rTI)
      (try rw [then_normal]); (try refine aw_seq ?_); refine aw_cond rfl ?_ ?_ <;> intro hb <;> (try (cases hb; done)) <;> (try simp only [bq] at hb) <;> (try (exfalso; omega))
      (first | refine go (cj rTI (cj @lr (cj @sl1 (cj @sl2 @tz)))) ?_ | exact go0 (cj rTI (cj @lr (cj @sl1 (cj @sl2 @tz)))))
      have hfn : fr r ≠ [] := fun e => q0 (by rw [e]; rfl)
      have hb2 : By (bk r) := by_sub hb1 (bk_mem r)
      have hpre := hasPrefix_ax (bk r) hb2 46 (by decide)
      have hlk : (bk r).length ≤ r.length := by have := congrArg List.length (fr_bk r); rw [List.length_append] at this; omega
      have hfd := fr_all r
      have lk := bs_size (bk r)
      have ppush : ∀ i, i < s.nx → (s.push [.v (.int .i64 0), .v (.int .i64 0)]).get i = s.get i := fun i hi => St.push_ne _ _ _ (by omega)
      refine aw_reg fun K hK => ?_; refine rn rTI ?_; refine cont_pure hpre ?_; refine rn rTI ?_; refine hK _ _ ?_; clear hK K
      rw [then_normal]
      refine aw_way (fun e s' => ∃ (ds r3 : List Nat) (x : Int), e.n = 102 ∧ e.m 2 = .ptr s.nx 0 ∧ e.m 4 = .v (.string (bs r3)) ∧ e.m 5 = .v (.bool neg) ∧ e.m 7 = .v (.string (bs ds)) ∧ e.m 8 = .v (.int .i64 x) ∧ By r3 ∧ r3.length ≤ 32 ∧ (∀ c ∈ ds, isD c = true) ∧ ds.length ≤ 64 ∧ -32 ≤ x ∧ x ≤ 0 ∧ bodyS neg r = fin3 neg ds x (lettersS r3) ∧ s'.get s.nx = some [.v (.int .i64 0), .v (.int .i64 0)] ∧ ∀ i, i < s.nx → s'.get i = s.get i) ?_ ?_
      · by_cases qp : (bk r).head? = some 46
        · rw [decide_eq_true qp]
          obtain ⟨q, hq⟩ : ∃ q, bk r = 46 :: q := by
            cases hk : bk r with
            | nil => rw [hk] at qp; cases qp
            | cons a q =>
              rw [hk] at qp
              exact ⟨q, by rw [show a = 46 by simpa using qp]⟩
          have hbody := body_pt neg r q hfn hq
          have hbq : By q := by_sub hb2 (fun c hc => by rw [hq]; exact List.mem_cons_of_mem _ hc)
          rw [hq] at lk hlk
          rw [List.length_cons] at lk hlk
          have hrq := run_ax q hbq (by omega)
          have hfq := fr_le q
          have s3 := slice_from (46 :: q) 1 (q.length + 1) rfl
          rw [List.drop_one, List.tail_cons] at s3
          have t1 : Int.toNat 1 = 1 := rfl
          rw [hq]
          (try rw [then_normal]); (try refine aw_seq ?_); refine aw_cond rfl ?_ ?_ <;> intro hb <;> (try (cases hb; done)) <;> (try simp only [bq] at hb) <;> (try (exfalso; omega))
          (first | refine go (cj rTI (cj @lk (cj @t1 @s3))) ?_ | exact go0 (cj rTI (cj @lk (cj @t1 @s3))))
          refine aw_reg fun K hK => ?_; refine rn (cj rTI (cj @lk (cj @t1 @s3))) ?_; refine cont_pure hrq ?_; refine rn (cj rTI (cj @lk (cj @t1 @s3))) ?_; refine hK _ _ ?_; clear hK K
          rw [then_normal]
          by_cases qf : fr q = []
          · have qf0 : (fr q).length = 0 := by rw [qf]; rfl
            rw [if_pos qf] at hbody
            rw [hbody]
            (first | refine go rTI ?_ | exact go0 rTI)
            (try rw [then_normal]); (try refine aw_seq ?_); refine aw_cond rfl ?_ ?_ <;> intro hb <;> (try (cases hb; done)) <;> (try simp only [bq] at hb) <;> (try (exfalso; omega))
            (first | refine go rTI ?_ | exact go0 rTI)
            exact .inr ⟨rfl, fun i hi => by rw [if_neg (by omega)]⟩
          · have qf0 : (fr q).length ≠ 0 := fun e => qf (List.length_eq_zero_iff.1 e)
            rw [if_neg qf] at hbody
            have s4 : (bs (46 :: q)).extract 1 (1 + (fr q).length) = bs (fr q) := by
              rw [bs_slice, List.drop_one, List.tail_cons, Nat.add_sub_cancel_left, fr_take]
            have s5 : (bs (46 :: q)).extract (1 + (fr q).length) (q.length + 1) = bs (bk q) := by
              rw [slice_from (46 :: q) (1 + (fr q).length) (q.length + 1) rfl, Nat.add_comm 1, List.drop_succ_cons, bk_drop]
            have k1 : ((1 : Int) + ((fr q).length : Int)).toNat = 1 + (fr q).length := by omega
            have lf1 := bs_size (fr r)
            have lf2 := bs_size (fr q)
            have ap := bs_append (fr r) (fr q)
            have hlq : (bk q).length ≤ q.length := by have := congrArg List.length (fr_bk q); rw [List.length_append] at this; omega
            (first | refine go rTI ?_ | exact go0 rTI)
            (try rw [then_normal]); (try refine aw_seq ?_); refine aw_cond rfl ?_ ?_ <;> intro hb <;> (try (cases hb; done)) <;> (try simp only [bq] at hb) <;> (try (exfalso; omega))
            (first | refine go (cj rTI (cj @lk (cj @t1 (cj @s3 (cj @s4 (cj @s5 (cj @k1 (cj @lf1 (cj @lf2 @ap))))))))) ?_ | exact go0 (cj rTI (cj @lk (cj @t1 (cj @s3 (cj @s4 (cj @s5 (cj @k1 (cj @lf1 (cj @lf2 @ap))))))))))
            refine .inl ⟨rfl, fr r ++ fr q, bk q, -((fr q).length : Int), ?_⟩
            (first | refine rn @Int.zero_sub ?_ | exact rn0 @Int.zero_sub)
            refine ⟨by_sub hbq (bk_mem q), by omega, fun c hc => ?_, by rw [List.length_append]; omega, by omega, by omega, hbody, fun i hi => by rw [if_neg (by omega)]⟩
            rcases List.mem_append.1 hc with hc | hc
            · exact hfd c hc
            · exact fr_all q c hc
        · rw [decide_eq_false qp]
          have hbody := body_no neg r hfn qp
          (try rw [then_normal]); (try refine aw_seq ?_); refine aw_cond rfl ?_ ?_ <;> intro hb <;> (try (cases hb; done)) <;> (try simp only [bq] at hb) <;> (try (exfalso; omega))
          (first | refine go trivial ?_ | exact go0 trivial)
          exact .inl ⟨fr r, bk r, 0, rfl, rfl, rfl, hb2, by omega, hfd, by omega, by omega, by omega, hbody, fun i hi => by rw [if_neg (by omega)]⟩
      · clear hcut hrun sl1 sl2 hpre lk lr l1
        rintro e s' ⟨ds, r3, x, h1, k2, k4, k5, k7, k8, hb3, hl3, hds, hld, hx1, hx2, hbody, g, fr2⟩
        rw [hbody, then_normal]
        have hlet := letters_ax r3 hb3 (by omega)
        have hbd := letters_bound r3
        generalize lettersS r3 = o at *
        cases o with
        | none =>
          show AW _ _ _ _ _ (fpost _ _ fun r' s' => r' = .tp [.ag [.v (.int .i64 0), .v (.int .i64 0)], .v (.int .i64 3)] ∧ _)
          (first | refine go trivial ?_ | exact go0 trivial)
          refine aw_reg fun K hK => ?_; refine rn (cj rTI (cj @k4 (cj @tailV.eq_1 @tailV.eq_2))) ?_; refine cont_pure hlet ?_; refine rn (cj rTI (cj @k4 (cj @tailV.eq_1 @tailV.eq_2))) ?_; refine hK _ _ ?_; clear hK K
          rw [then_normal]
          (first | refine go trivial ?_ | exact go0 trivial)
          (try rw [then_normal]); (try refine aw_seq ?_); refine aw_cond rfl ?_ ?_ <;> intro hb <;> (try (cases hb; done)) <;> (try simp only [bq] at hb) <;> (try (exfalso; omega))
          (first | refine go (cj rTI (cj @h1 (cj @k2 @g))) ?_ | exact go0 (cj rTI (cj @h1 (cj @k2 @g))))
          intro i hi
          rw [if_neg (by omega)]
          exact fr2 i hi
        | some ee =>
          obtain ⟨b1, b2⟩ := hbd ee rfl
          obtain ⟨P1, P2⟩ := fin_parse neg ds (x + ee) hds
          have hbds : By ds := fun c hc => by have := (isD_iff c).1 (hds c hc); omega
          have hbl : By (lead ds) := by_sub hbds (lead_sub ds)
          have hll := lead_len ds
          have htl := trimLeft_ax ds hbds
          have htr := trimRight_ax (lead ds) hbl (by omega)
          have e0 : ((bs (lead ds)).toList == (ByteArray.mk #[]).toList) = decide (lead ds = []) := bs_beq (lead ds) [] hbl (fun c hc => by cases hc)
          show AW _ _ _ _ _ (fpost _ _ fun r' s' => r' = parseV (finS neg (digV ds) (x + ee)) ∧ _)
          by_cases ql : lead ds = []
          · rw [P1 ql, decide_eq_true ql] at *
            show AW _ _ _ _ _ (fpost _ _ fun r' s' => r' = .tp [.ag [.v (.int .i64 0), .v (.int .i64 0)], .v (.int .i64 0)] ∧ _)
            clear P1 P2
            (first | refine go trivial ?_ | exact go0 trivial)
            refine aw_reg fun K hK => ?_; refine rn (cj rTI (cj @k4 (cj @tailV.eq_1 @tailV.eq_2))) ?_; refine cont_pure hlet ?_; refine rn (cj rTI (cj @k4 (cj @tailV.eq_1 @tailV.eq_2))) ?_; refine hK _ _ ?_; clear hK K
            rw [then_normal]
            (first | refine go trivial ?_ | exact go0 trivial)
            (try rw [then_normal]); (try refine aw_seq ?_); refine aw_cond rfl ?_ ?_ <;> intro hb <;> (try (cases hb; done)) <;> (try simp only [bq] at hb) <;> (try (exfalso; omega))
            (first | refine go (cj rTI (cj @h1 (cj @k2 (cj @k7 (cj @k8 @g))))) ?_ | exact go0 (cj rTI (cj @h1 (cj @k2 (cj @k7 (cj @k8 @g))))))
            refine aw_reg fun K hK => ?_; refine rn (cj rTI @k7) ?_; refine cont_pure htl ?_; refine rn (cj rTI @k7) ?_; refine hK _ _ ?_; clear hK K
            rw [then_normal]
            (first | refine go (cj rTI @e0) ?_ | exact go0 (cj rTI @e0))
            (try rw [then_normal]); (try refine aw_seq ?_); refine aw_cond rfl ?_ ?_ <;> intro hb <;> (try (cases hb; done)) <;> (try simp only [bq] at hb) <;> (try (exfalso; omega))
            (first | refine go (cj rTI (cj @h1 (cj @k2 @g))) ?_ | exact go0 (cj rTI (cj @h1 (cj @k2 @g))))
            intro i hi
            rw [if_neg (by omega)]
            exact fr2 i hi
          · rw [decide_eq_false ql] at e0
            obtain ⟨T1, T2, T3, T4⟩ := P2 ql
            have lT := bs_size (trail (lead ds))
            have lL := bs_size (lead ds)
            have hpi := fun h9 => parseInt_ax (trail (lead ds)) T2 T1 h9
            clear P1 P2
            generalize trail (lead ds) = T at *
            obtain ⟨n, hn⟩ : ∃ n, n = (lead ds).length - T.length := ⟨_, rfl⟩
            rw [← hn] at T4
            by_cases q9 : T.length > 9
            · rw [if_pos (.inl q9)] at T4
              rw [T4]
              show AW _ _ _ _ _ (fpost _ _ fun r' s' => r' = .tp [.ag [.v (.int .i64 0), .v (.int .i64 0)], .v (.int .i64 30)] ∧ _)
              (first | refine go trivial ?_ | exact go0 trivial)
              refine aw_reg fun K hK => ?_; refine rn (cj rTI (cj @k4 (cj @tailV.eq_1 @tailV.eq_2))) ?_; refine cont_pure hlet ?_; refine rn (cj rTI (cj @k4 (cj @tailV.eq_1 @tailV.eq_2))) ?_; refine hK _ _ ?_; clear hK K
              rw [then_normal]
              (first | refine go trivial ?_ | exact go0 trivial)
              (try rw [then_normal]); (try refine aw_seq ?_); refine aw_cond rfl ?_ ?_ <;> intro hb <;> (try (cases hb; done)) <;> (try simp only [bq] at hb) <;> (try (exfalso; omega))
              (first | refine go (cj rTI (cj @h1 (cj @k2 (cj @k7 (cj @k8 @g))))) ?_ | exact go0 (cj rTI (cj @h1 (cj @k2 (cj @k7 (cj @k8 @g))))))
              refine aw_reg fun K hK => ?_; refine rn (cj rTI @k7) ?_; refine cont_pure htl ?_; refine rn (cj rTI @k7) ?_; refine hK _ _ ?_; clear hK K
              rw [then_normal]
              (first | refine go (cj rTI @e0) ?_ | exact go0 (cj rTI @e0))
              (try rw [then_normal]); (try refine aw_seq ?_); refine aw_cond rfl ?_ ?_ <;> intro hb <;> (try (cases hb; done)) <;> (try simp only [bq] at hb) <;> (try (exfalso; omega))
              (first | refine go trivial ?_ | exact go0 trivial)
              refine aw_reg fun K hK => ?_; refine rn rTI ?_; refine cont_pure htr ?_; refine rn rTI ?_; refine hK _ _ ?_; clear hK K
              rw [then_normal]
              (first | refine go (cj rTI (cj @lT @lL)) ?_ | exact go0 (cj rTI (cj @lT @lL)))
              (try rw [then_normal]); (try refine aw_seq ?_); refine aw_cond rfl ?_ ?_ <;> intro hb <;> (try (cases hb; done)) <;> (try simp only [bq] at hb) <;> (try (exfalso; omega))
              (first | refine go (cj rTI (cj @h1 (cj @k2 @g))) ?_ | exact go0 (cj rTI (cj @h1 (cj @k2 @g))))
              intro i hi
              rw [if_neg (by omega)]
              exact fr2 i hi
            · have hpi := hpi (by omega)
              have e3 : ((lead ds).length : Int) - (T.length : Int) = (n : Int) := by omega
              have hv9 : digV T < 1000000000 := by
                have h1' := dig_lt T T2
                have h2' : 10 ^ T.length ≤ 10 ^ 9 := Nat.pow_le_pow_right (by decide) (by omega)
                omega
              obtain ⟨X, hX⟩ : ∃ X, X = x + ee + (n : Int) := ⟨_, rfl⟩
              rw [← hX] at T4
              by_cases q18 : X < -18
              · rw [if_pos (.inr (.inl q18))] at T4
                rw [T4]
                show AW _ _ _ _ _ (fpost _ _ fun r' s' => r' = .tp [.ag [.v (.int .i64 0), .v (.int .i64 0)], .v (.int .i64 30)] ∧ _)
                (first | refine go trivial ?_ | exact go0 trivial)
                refine aw_reg fun K hK => ?_; refine rn (cj rTI (cj @k4 (cj @tailV.eq_1 @tailV.eq_2))) ?_; refine cont_pure hlet ?_; refine rn (cj rTI (cj @k4 (cj @tailV.eq_1 @tailV.eq_2))) ?_; refine hK _ _ ?_; clear hK K
                rw [then_normal]
                (first | refine go trivial ?_ | exact go0 trivial)
                (try rw [then_normal]); (try refine aw_seq ?_); refine aw_cond rfl ?_ ?_ <;> intro hb <;> (try (cases hb; done)) <;> (try simp only [bq] at hb) <;> (try (exfalso; omega))
                (first | refine go (cj rTI (cj @h1 (cj @k2 (cj @k7 (cj @k8 @g))))) ?_ | exact go0 (cj rTI (cj @h1 (cj @k2 (cj @k7 (cj @k8 @g))))))
                refine aw_reg fun K hK => ?_; refine rn (cj rTI @k7) ?_; refine cont_pure htl ?_; refine rn (cj rTI @k7) ?_; refine hK _ _ ?_; clear hK K
                rw [then_normal]
                (first | refine go (cj rTI @e0) ?_ | exact go0 (cj rTI @e0))
                (try rw [then_normal]); (try refine aw_seq ?_); refine aw_cond rfl ?_ ?_ <;> intro hb <;> (try (cases hb; done)) <;> (try simp only [bq] at hb) <;> (try (exfalso; omega))
                (first | refine go trivial ?_ | exact go0 trivial)
                refine aw_reg fun K hK => ?_; refine rn rTI ?_; refine cont_pure htr ?_; refine rn rTI ?_; refine hK _ _ ?_; clear hK K
                rw [then_normal]
                (first | refine go (cj rTI (cj @lT (cj @lL (cj @k8 @e3)))) ?_ | exact go0 (cj rTI (cj @lT (cj @lL (cj @k8 @e3)))))
                (try rw [then_normal]); (try refine aw_seq ?_); refine aw_cond rfl ?_ ?_ <;> intro hb <;> (try (cases hb; done)) <;> (try simp only [bq] at hb) <;> (try (exfalso; omega))
                (first | refine go (cj rTI (cj @h1 (cj @k2 @g))) ?_ | exact go0 (cj rTI (cj @h1 (cj @k2 @g))))
                intro i hi
                rw [if_neg (by omega)]
                exact fr2 i hi
              · by_cases q19 : X > 9
                · rw [if_pos (.inr (.inr q19))] at T4
                  rw [T4]
                  show AW _ _ _ _ _ (fpost _ _ fun r' s' => r' = .tp [.ag [.v (.int .i64 0), .v (.int .i64 0)], .v (.int .i64 30)] ∧ _)
                  (first | refine go trivial ?_ | exact go0 trivial)
                  refine aw_reg fun K hK => ?_; refine rn (cj rTI (cj @k4 (cj @tailV.eq_1 @tailV.eq_2))) ?_; refine cont_pure hlet ?_; refine rn (cj rTI (cj @k4 (cj @tailV.eq_1 @tailV.eq_2))) ?_; refine hK _ _ ?_; clear hK K
                  rw [then_normal]
                  (first | refine go trivial ?_ | exact go0 trivial)
                  (try rw [then_normal]); (try refine aw_seq ?_); refine aw_cond rfl ?_ ?_ <;> intro hb <;> (try (cases hb; done)) <;> (try simp only [bq] at hb) <;> (try (exfalso; omega))
                  (first | refine go (cj rTI (cj @h1 (cj @k2 (cj @k7 (cj @k8 @g))))) ?_ | exact go0 (cj rTI (cj @h1 (cj @k2 (cj @k7 (cj @k8 @g))))))
                  refine aw_reg fun K hK => ?_; refine rn (cj rTI @k7) ?_; refine cont_pure htl ?_; refine rn (cj rTI @k7) ?_; refine hK _ _ ?_; clear hK K
                  rw [then_normal]
                  (first | refine go (cj rTI @e0) ?_ | exact go0 (cj rTI @e0))
                  (try rw [then_normal]); (try refine aw_seq ?_); refine aw_cond rfl ?_ ?_ <;> intro hb <;> (try (cases hb; done)) <;> (try simp only [bq] at hb) <;> (try (exfalso; omega))
                  (first | refine go trivial ?_ | exact go0 trivial)
                  refine aw_reg fun K hK => ?_; refine rn rTI ?_; refine cont_pure htr ?_; refine rn rTI ?_; refine hK _ _ ?_; clear hK K
                  rw [then_normal]
                  (first | refine go (cj rTI (cj @lT (cj @lL (cj @k8 @e3)))) ?_ | exact go0 (cj rTI (cj @lT (cj @lL (cj @k8 @e3)))))
                  (try rw [then_normal]); (try refine aw_seq ?_); refine aw_cond rfl ?_ ?_ <;> intro hb <;> (try (cases hb; done)) <;> (try simp only [bq] at hb) <;> (try (exfalso; omega))
                  (first | refine go (cj rTI (cj @h1 (cj @k2 @g))) ?_ | exact go0 (cj rTI (cj @h1 (cj @k2 @g))))
                  intro i hi
                  rw [if_neg (by omega)]
                  exact fr2 i hi
                · rw [if_neg (fun h => h.elim q9 fun h => h.elim q18 q19)] at T4
                  rw [T4]
                  clear T4
                  generalize digV T = v at *
                  cases neg
                  · show AW _ _ _ _ _ (fpost _ _ fun r' s' => r' = .tp [.ag [.v (.int .i64 v), .v (.int .i64 X)], .v (.int .i64 0)] ∧ _)
                    (first | refine go trivial ?_ | exact go0 trivial)
                    refine aw_reg fun K hK => ?_; refine rn (cj rTI (cj @k4 (cj @tailV.eq_1 @tailV.eq_2))) ?_; refine cont_pure hlet ?_; refine rn (cj rTI (cj @k4 (cj @tailV.eq_1 @tailV.eq_2))) ?_; refine hK _ _ ?_; clear hK K
                    rw [then_normal]
                    (first | refine go trivial ?_ | exact go0 trivial)
                    (try rw [then_normal]); (try refine aw_seq ?_); refine aw_cond rfl ?_ ?_ <;> intro hb <;> (try (cases hb; done)) <;> (try simp only [bq] at hb) <;> (try (exfalso; omega))
                    (first | refine go (cj rTI (cj @h1 (cj @k2 (cj @k7 (cj @k8 @g))))) ?_ | exact go0 (cj rTI (cj @h1 (cj @k2 (cj @k7 (cj @k8 @g))))))
                    refine aw_reg fun K hK => ?_; refine rn (cj rTI @k7) ?_; refine cont_pure htl ?_; refine rn (cj rTI @k7) ?_; refine hK _ _ ?_; clear hK K
                    rw [then_normal]
                    (first | refine go (cj rTI @e0) ?_ | exact go0 (cj rTI @e0))
                    (try rw [then_normal]); (try refine aw_seq ?_); refine aw_cond rfl ?_ ?_ <;> intro hb <;> (try (cases hb; done)) <;> (try simp only [bq] at hb) <;> (try (exfalso; omega))
                    (first | refine go trivial ?_ | exact go0 trivial)
                    refine aw_reg fun K hK => ?_; refine rn rTI ?_; refine cont_pure htr ?_; refine rn rTI ?_; refine hK _ _ ?_; clear hK K
                    rw [then_normal]
                    (first | refine go (cj rTI (cj @lT (cj @lL (cj @k8 @e3)))) ?_ | exact go0 (cj rTI (cj @lT (cj @lL (cj @k8 @e3)))))
                    (try rw [then_normal]); (try refine aw_seq ?_); refine aw_cond rfl ?_ ?_ <;> intro hb <;> (try (cases hb; done)) <;> (try simp only [bq] at hb) <;> (try (exfalso; omega))
                    (first | refine go rTI ?_ | exact go0 rTI)
                    refine aw_reg fun K hK => ?_; refine rn rTI ?_; refine cont_pure hpi ?_; refine rn rTI ?_; refine hK _ _ ?_; clear hK K
                    rw [then_normal]
                    (first | refine go (cj rTI @k5) ?_ | exact go0 (cj rTI @k5))
                    (try rw [then_normal]); (try refine aw_seq ?_); refine aw_cond rfl ?_ ?_ <;> intro hb <;> (try (cases hb; done)) <;> (try simp only [bq] at hb) <;> (try (exfalso; omega))
                    (first | refine go (cj rTI (cj @h1 (cj @k2 (cj @k5 (cj @g @e3))))) ?_ | exact go0 (cj rTI (cj @h1 (cj @k2 (cj @k5 (cj @g @e3))))))
                    rw [hX]
                    exact ⟨rfl, fun i hi => by rw [if_neg (by omega)]; exact fr2 i hi⟩
                  · show AW _ _ _ _ _ (fpost _ _ fun r' s' => r' = .tp [.ag [.v (.int .i64 (-(v : Int))), .v (.int .i64 X)], .v (.int .i64 0)] ∧ _)
                    (first | refine go trivial ?_ | exact go0 trivial)
                    refine aw_reg fun K hK => ?_; refine rn (cj rTI (cj @k4 (cj @tailV.eq_1 @tailV.eq_2))) ?_; refine cont_pure hlet ?_; refine rn (cj rTI (cj @k4 (cj @tailV.eq_1 @tailV.eq_2))) ?_; refine hK _ _ ?_; clear hK K
                    rw [then_normal]
                    (first | refine go trivial ?_ | exact go0 trivial)
                    (try rw [then_normal]); (try refine aw_seq ?_); refine aw_cond rfl ?_ ?_ <;> intro hb <;> (try (cases hb; done)) <;> (try simp only [bq] at hb) <;> (try (exfalso; omega))
                    (first | refine go (cj rTI (cj @h1 (cj @k2 (cj @k7 (cj @k8 @g))))) ?_ | exact go0 (cj rTI (cj @h1 (cj @k2 (cj @k7 (cj @k8 @g))))))
                    refine aw_reg fun K hK => ?_; refine rn (cj rTI @k7) ?_; refine cont_pure htl ?_; refine rn (cj rTI @k7) ?_; refine hK _ _ ?_; clear hK K
                    rw [then_normal]
                    (first | refine go (cj rTI @e0) ?_ | exact go0 (cj rTI @e0))
                    (try rw [then_normal]); (try refine aw_seq ?_); refine aw_cond rfl ?_ ?_ <;> intro hb <;> (try (cases hb; done)) <;> (try simp only [bq] at hb) <;> (try (exfalso; omega))
                    (first | refine go trivial ?_ | exact go0 trivial)
                    refine aw_reg fun K hK => ?_; refine rn rTI ?_; refine cont_pure htr ?_; refine rn rTI ?_; refine hK _ _ ?_; clear hK K
                    rw [then_normal]
                    (first | refine go (cj rTI (cj @lT (cj @lL (cj @k8 @e3)))) ?_ | exact go0 (cj rTI (cj @lT (cj @lL (cj @k8 @e3)))))
                    (try rw [then_normal]); (try refine aw_seq ?_); refine aw_cond rfl ?_ ?_ <;> intro hb <;> (try (cases hb; done)) <;> (try simp only [bq] at hb) <;> (try (exfalso; omega))
                    (first | refine go rTI ?_ | exact go0 rTI)
                    refine aw_reg fun K hK => ?_; refine rn rTI ?_; refine cont_pure hpi ?_; refine rn rTI ?_; refine hK _ _ ?_; clear hK K
                    rw [then_normal]
                    (first | refine go (cj rTI @k5) ?_ | exact go0 (cj rTI @k5))
                    (try rw [then_normal]); (try refine aw_seq ?_); refine aw_cond rfl ?_ ?_ <;> intro hb <;> (try (cases hb; done)) <;> (try simp only [bq] at hb) <;> (try (exfalso; omega))
                    (first | refine go (cj rTI (cj @h1 (cj @k2 (cj @k5 (cj @g (cj @e3 @Int.zero_sub)))))) ?_ | exact go0 (cj rTI (cj @h1 (cj @k2 (cj @k5 (cj @g (cj @e3 @Int.zero_sub)))))))
                    rw [hX]
                    exact ⟨rfl, fun i hi => by rw [if_neg (by omega)]; exact fr2 i hi⟩
end Go.Proofs.YtfjelkjlfcafgaaGreatDoor.NumW
end
section
/- Texts of numbers: num.Text, where FormatInt writes what it should. -/
namespace Go.Proofs.YtfjelkjlfcafgaaGreatDoor.NumX
open Go Go.RowKit Go.Proofs.YtfjelkjlfcafgaaGreatDoor.Ax Go.Proofs.YtfjelkjlfcafgaaGreatDoor.Ti Go.Proofs.YtfjelkjlfcafgaaGreatDoor.BigM Go.Proofs.YtfjelkjlfcafgaaGreatDoor.NumS Go.Proofs.YtfjelkjlfcafgaaGreatDoor.NumA Go.Proofs.YtfjelkjlfcafgaaGreatDoor.NumT Go.Proofs.YtfjelkjlfcafgaaGreatDoor.NumU Go.Proofs.YtfjelkjlfcafgaaGreatDoor.NumL Go.Proofs.YtfjelkjlfcafgaaGreatDoor.NumW
set_option linter.unusedSimpArgs false
set_option linter.unusedVariables false
set_option maxRecDepth 4000
set_option maxHeartbeats 2000000
theorem rTI : type_of% (cj @ti3 (cj @ti2 (cj @ti4 (cj @ti9 (cj @ti5 (cj @ti36 (cj @ti24 @ti25))))))) := cj @ti3 (cj @ti2 (cj @ti4 (cj @ti9 (cj @ti5 (cj @ti36 (cj @ti24 @ti25))))))

theorem itoa_ax (i : Nat) (h : i = 16 ∨ i = 17 ∨ i = 18) : PCall Tryz.prog 64 [.v (.int .i64 i)] (.v (.string (bs (decN i)))) := by
  refine pcall_lift (us := [.int .i64 i]) (enters_of Tryz.func64 rfl rfl) (fun k => .v _) fun w => ?_
  refine (Tryz.strconv_Itoa_small i (by omega) w).mono ?_
  rintro en w' ⟨rfl, rfl⟩
  refine ⟨?_, Below.refl _ _⟩
  have e : Lib.decDigits i = (decN i).map UInt8.ofNat := by
    rcases h with rfl | rfl | rfl <;> simp [Lib.decDigits, decN, digs_pos, digs_zero]
  rw [e]
  rfl
theorem format_47 : PCall Tryz.prog 63 [.v (.int .i64 47), .v (.int .i64 10)] (.v (.string (bs (decS 47)))) := by
  refine pcall_lift (us := [.int .i64 47, .int .i64 10]) (enters_of Tryz.func63 rfl rfl) (fun k => .v _) fun w => ?_
  refine (Tryz.strconv_FormatInt_10_small 47 (by omega) w).mono ?_
  rintro en w' ⟨rfl, rfl⟩
  refine ⟨?_, Below.refl _ _⟩
  have e : Lib.decDigits 47 = (decS 47).map UInt8.ofNat := by
    simp [Lib.decDigits, decS, decN, digs_pos, digs_zero]
  rw [e]
  rfl
def textV (m x : Int) : AV := if validN m x = true then .tp [.v (.string (bs (textS m x))), .v (.int .i64 0)] else .tp [.v (.string (bs [])), .v (.int .i64 30)]
theorem decS_len (m : Int) (h1 : -999999999 ≤ m) (h2 : m ≤ 999999999) : (decS m).length ≤ 10 := by
  unfold decS
  split
  · simp
  · rw [List.length_append]
    have := decN_len m.natAbs 9 (by omega)
    split <;> simp <;> omega
theorem text_ax (m x : Int) (hF : validN m x = true → PCall Tryz.prog 63 [.v (.int .i64 m), .v (.int .i64 10)] (.v (.string (bs (decS m))))) : PCall Tryz.prog 17 [NM m x] (textV m x) := by
  refine pcall_of fun s => ?_
  have hv := valid_ax m x
  unfold NM at hv ⊢
  unfold textV
  by_cases q : validN m x = true
  · have hF := hF q
    rw [if_pos q]
    rw [q] at hv
    obtain ⟨m1, m2, k1, k2⟩ := RefM.validN_m m x q
    have hld := decS_len m m1 m2
    have lD := bs_size (decS m)
    by_cases qx : x < -15
    · have hi := itoa_ax x.natAbs (by omega)
      have e1 : textS m x = decS m ++ [101, 45] ++ decN x.natAbs := by unfold textS; rw [if_pos qx]
      rw [e1]
      have e2 : -x = (x.natAbs : Int) := by omega
      have c1 : bs (decS m) ++ (ByteArray.mk #[101, 45]) = bs (decS m ++ [101, 45]) := by
        show bs (decS m) ++ bs [101, 45] = _
        exact bs_append _ _
      have c2 := bs_append (decS m ++ [101, 45]) (decN x.natAbs)
      have lE := bs_size (decS m ++ [101, 45])
      have lN := bs_size (decN x.natAbs)
      have lN2 := decN_len x.natAbs 2 (by omega)
      have l2 : (ByteArray.mk #[101, 45]).size = 2 := rfl
      rw [List.length_append] at lE
      rw [show ([101, 45] : List Nat).length = 2 from rfl] at lE
      clear e1
      refine acall_of Tryz.func17 rfl rfl (by simp [Tryz.ntmps17]) ?_; rw [Tryz.ntmps17, Tryz.results17]
      (first | refine go rTI ?_ | exact go0 rTI)
      refine aw_reg fun K hK => ?_; refine rn rTI ?_; refine cont_pure hv ?_; refine rn rTI ?_; refine hK _ _ ?_; clear hK K
      rw [then_normal]
      (try rw [then_normal]); (try refine aw_seq ?_); refine aw_cond rfl ?_ ?_ <;> intro hb <;> (try (cases hb; done)) <;> (try simp only [bq] at hb) <;> (try (exfalso; omega))
      (first | refine go trivial ?_ | exact go0 trivial)
      refine aw_reg fun K hK => ?_; refine rn rTI ?_; refine cont_pure hF ?_; refine rn rTI ?_; refine hK _ _ ?_; clear hK K
      rw [then_normal]
      (first | refine go rTI ?_ | exact go0 rTI)
      (try rw [then_normal]); (try refine aw_seq ?_); refine aw_cond rfl ?_ ?_ <;> intro hb <;> (try (cases hb; done)) <;> (try simp only [bq] at hb) <;> (try (exfalso; omega))
      generalize x.natAbs = i at *
      refine aw_seq ?_
      refine aw_reg fun K hK => ?_; refine rn (cj rTI (cj @c1 (cj @c2 (cj @lD (cj @lE (cj @lN (cj @l2 (cj @Int.zero_sub @e2)))))))) ?_; refine cont_pure hi ?_; refine rn (cj rTI (cj @c1 (cj @c2 (cj @lD (cj @lE (cj @lN (cj @l2 (cj @Int.zero_sub @e2)))))))) ?_; refine hK _ _ ?_; clear hK K
      (first | refine go rTI ?_ | exact go0 rTI)
      exact fun i hi => if_neg (by omega)
    · obtain ⟨kk, hkk⟩ : ∃ kk : Nat, kk = ((x + 15) / 3).toNat := ⟨_, rfl⟩
      obtain ⟨z, hz⟩ : ∃ z : Nat, z = ((x + 15) % 3).toNat := ⟨_, rfl⟩
      have e1 : textS m x = decS m ++ List.replicate z 48 ++ letterS kk := by unfold textS; rw [if_neg qx, hkk, hz]
      rw [e1]
      have e2 : (x + 15) / 3 = (kk : Int) := by omega
      have e3 : x + 15 - 3 * (kk : Int) = (z : Int) := by omega
      have hz3 : z < 3 := by omega
      have hk9 : kk < 9 := by omega
      have s1 : (ByteArray.mk #[48, 48]).extract 0 z = bs (List.replicate z 48) := by
        have : z = 0 ∨ z = 1 ∨ z = 2 := by omega
        rcases this with rfl | rfl | rfl <;> rfl
      have tz : Int.toNat 0 = 0 := rfl
      have l00 : (ByteArray.mk #[48, 48]).size = 2 := rfl
      have c1 := bs_append (decS m) (List.replicate z 48)
      have c2 := bs_append (decS m ++ List.replicate z 48) (letterS kk)
      have lZ := bs_size (List.replicate z 48)
      have lE := bs_size (decS m ++ List.replicate z 48)
      have lK := bs_size (letterS kk)
      have lK3 := (letter_reads kk (by omega)).2.2
      rw [List.length_replicate] at lZ
      rw [List.length_append, List.length_replicate] at lE
      have hd : (([AV.v (.string (ByteArray.mk #[102])), .v (.string (ByteArray.mk #[112])), .v (.string (ByteArray.mk #[110])), .v (.string (ByteArray.mk #[117])), .v (.string (ByteArray.mk #[109])), .v (.string (ByteArray.mk #[])), .v (.string (ByteArray.mk #[107])), .v (.string (ByteArray.mk #[109, 101, 103])), .v (.string (ByteArray.mk #[103]))]).drop kk).head? = some (.v (.string (bs (letterS kk)))) := by
        have : kk = 0 ∨ kk = 1 ∨ kk = 2 ∨ kk = 3 ∨ kk = 4 ∨ kk = 5 ∨ kk = 6 ∨ kk = 7 ∨ kk = 8 := by omega
        rcases this with rfl | rfl | rfl | rfl | rfl | rfl | rfl | rfl | rfl <;> rfl
      clear e1
      refine acall_of Tryz.func17 rfl rfl (by simp [Tryz.ntmps17]) ?_; rw [Tryz.ntmps17, Tryz.results17]
      (first | refine go rTI ?_ | exact go0 rTI)
      refine aw_reg fun K hK => ?_; refine rn rTI ?_; refine cont_pure hv ?_; refine rn rTI ?_; refine hK _ _ ?_; clear hK K
      rw [then_normal]
      (try rw [then_normal]); (try refine aw_seq ?_); refine aw_cond rfl ?_ ?_ <;> intro hb <;> (try (cases hb; done)) <;> (try simp only [bq] at hb) <;> (try (exfalso; omega))
      (first | refine go trivial ?_ | exact go0 trivial)
      refine aw_reg fun K hK => ?_; refine rn rTI ?_; refine cont_pure hF ?_; refine rn rTI ?_; refine hK _ _ ?_; clear hK K
      rw [then_normal]
      (first | refine go rTI ?_ | exact go0 rTI)
      (try rw [then_normal]); (try refine aw_seq ?_); refine aw_cond rfl ?_ ?_ <;> intro hb <;> (try (cases hb; done)) <;> (try simp only [bq] at hb) <;> (try (exfalso; omega))
      (first | refine go (cj rTI @e2) ?_ | exact go0 (cj rTI @e2))
      generalize letterS kk = lk at *
      refine aw_drw (.take 0 (.take 1 (.take 2 (.take 3 (.take 4 (.take 5 (.take 6 (.take 7 (.take 8 (.take 10 (.one 9 (.one 11 (.one 12 (.one 13 (.one 14 (.one 15 (.done))))))))))))))))) [s.nx] (by kernel_rfl) (by kernel_rfl) fun K hK => ?_; refine dr (cj rTI (cj @e3 (cj @s1 (cj @tz (cj @l00 (cj @c1 (cj @c2 (cj @lD (cj @lZ (cj @lE (cj @lK (cj @hd @Nat.zero_add)))))))))))) ?_; refine hK _ _ ?_; clear hK K
      (first | refine go rTI ?_ | exact go0 rTI)
      exact fun i hi => by rw [if_neg (by omega), if_neg (by omega)]
  · have q' : validN m x = false := by simpa using q
    rw [if_neg q]
    rw [q'] at hv
    refine acall_of Tryz.func17 rfl rfl (by simp [Tryz.ntmps17]) ?_; rw [Tryz.ntmps17, Tryz.results17]
    (first | refine go rTI ?_ | exact go0 rTI)
    refine aw_reg fun K hK => ?_; refine rn rTI ?_; refine cont_pure hv ?_; refine rn rTI ?_; refine hK _ _ ?_; clear hK K
    rw [then_normal]
    (try rw [then_normal]); (try refine aw_seq ?_); refine aw_cond rfl ?_ ?_ <;> intro hb <;> (try (cases hb; done)) <;> (try simp only [bq] at hb) <;> (try (exfalso; omega))
    (first | refine go trivial ?_ | exact go0 trivial)
    exact ⟨rfl, fun i hi => if_neg (by omega)⟩
end Go.Proofs.YtfjelkjlfcafgaaGreatDoor.NumX
end
section
/- The laws of layer 3: awake, decimal. -/
namespace Go.Proofs.YtfjelkjlfcafgaaGreatDoor.NumY
open Go Go.RowKit Go.Proofs.YtfjelkjlfcafgaaGreatDoor.Ax Go.Proofs.YtfjelkjlfcafgaaGreatDoor.Ti Go.Proofs.YtfjelkjlfcafgaaGreatDoor.BigM Go.Proofs.YtfjelkjlfcafgaaGreatDoor.NumS Go.Proofs.YtfjelkjlfcafgaaGreatDoor.NumA Go.Proofs.YtfjelkjlfcafgaaGreatDoor.NumB Go.Proofs.YtfjelkjlfcafgaaGreatDoor.NumT Go.Proofs.YtfjelkjlfcafgaaGreatDoor.NumU Go.Proofs.YtfjelkjlfcafgaaGreatDoor.NumL Go.Proofs.YtfjelkjlfcafgaaGreatDoor.NumW Go.Proofs.YtfjelkjlfcafgaaGreatDoor.NumX
set_option linter.unusedSimpArgs false
set_option linter.unusedVariables false
set_option maxRecDepth 4000
set_option maxHeartbeats 2000000
theorem rTI : type_of% (cj @ti3 (cj @ti2 (cj @ti4 (cj @ti9 (cj @ti5 (cj @ti35 (cj @ti36 (cj @ti116 (cj @ti24 @ti25))))))))) := cj @ti3 (cj @ti2 (cj @ti4 (cj @ti9 (cj @ti5 (cj @ti35 (cj @ti36 (cj @ti116 (cj @ti24 @ti25))))))))

theorem wake_parse : parseS [52, 46, 55, 107] = (47, 2, 0) := by
  have h1 := parse_sign false [52] [46, 55, 107] (by simp [isD]) (by simp) (by simp)
  simp only [Bool.false_eq_true, if_false, List.singleton_append] at h1
  have h2 := body_point false [52] [55] [107] 3 (by simp [isD]) (by simp) (by simp [isD]) (by simp) (fun c hc => by cases hc; rfl) rfl
  have h3 := fin_ok false 47 0 2 2 (by decide) (by decide) (by decide) rfl (by decide) (by decide)
  rw [h1]
  exact h2.trans h3
theorem wake_dec : decS 47 = [52, 55] := by simp [decS, decN, digs_pos, digs_zero]
theorem wake_text : textS 47 2 = [52, 55, 48, 48] := by
  unfold textS
  rw [wake_dec]
  decide
theorem wake_grid : RefM.gridN 25 (-10) = .tp [.v (.int .i64 2), .v (.int .i64 0)] := by kernel_rfl
theorem eq_num : eqOk Tryz.prog 24 = true := by kernel_rfl
theorem awake_ax : PCall Tryz.prog 13 [] (.v (.bool true)) := by
  refine pcall_of fun s => ?_
  have p1 := parse_ax [52, 46, 55, 107] (fun c hc => by simp at hc; omega) (by simp)
  rw [wake_parse] at p1
  have p2 := text_ax 47 2 (fun _ => format_47)
  have p2v : textV 47 2 = .tp [.v (.string (bs [52, 55, 48, 48])), .v (.int .i64 0)] := by
    unfold textV
    rw [if_pos (by decide), wake_text]
  rw [p2v] at p2
  have p3 := grid_ax 25 (-10)
  rw [wake_grid] at p3
  have p4 := valid_ax 47 2
  rw [show validN 47 2 = true by decide] at p4
  have p5 := valid_ax 10 0
  rw [show validN 10 0 = false by decide] at p5
  have e1 : ((bs [52, 55, 48, 48]).toList == (ByteArray.mk #[52, 55, 48, 48]).toList) = true := beq_self_eq_true _
  unfold parseV NM at p1
  unfold NM at p2 p3 p4 p5
  refine acall_of Tryz.func13 rfl rfl (by simp [Tryz.ntmps13]) ?_; rw [Tryz.ntmps13, Tryz.results13]
  (first | refine go trivial ?_ | exact go0 trivial)
  refine aw_reg fun K hK => ?_; refine rn rTI ?_; refine cont_pure p1 ?_; refine rn rTI ?_; refine hK _ _ ?_; clear hK K
  rw [then_normal]
  (first | refine go trivial ?_ | exact go0 trivial)
  refine aw_reg fun K hK => ?_; refine rn rTI ?_; refine cont_pure p2 ?_; refine rn rTI ?_; refine hK _ _ ?_; clear hK K
  rw [then_normal]
  (first | refine go trivial ?_ | exact go0 trivial)
  refine aw_reg fun K hK => ?_; refine rn rTI ?_; refine cont_pure p3 ?_; refine rn rTI ?_; refine hK _ _ ?_; clear hK K
  rw [then_normal]
  (first | refine go trivial ?_ | exact go0 trivial)
  refine aw_reg fun K hK => ?_; refine rn (cj rTI (cj @e1 @eq_num)) ?_; refine cont_pure p4 ?_; (first | refine rn (cj rTI (cj @e1 @eq_num)) ?_ | exact rn0 (cj rTI (cj @e1 @eq_num))); refine cont_pure p5 ?_; refine rn (cj rTI (cj @e1 @eq_num)) ?_; refine hK _ _ ?_; clear hK K
  (first | refine go trivial ?_ | exact go0 trivial)
  exact fun i hi => if_neg (by omega)
theorem bs_dig (c : Nat) : ByteArray.mk #[unbyte (AV.v (.int .u8 (48 + (c : Int))))] = bs [48 + c] := RefJ.bs_dig c
theorem decP_step (n : Nat) (h : 10 ≤ n) : decP n = decP (n / 10) ++ [48 + n % 10] := by
  unfold decP
  rw [if_neg (by omega), if_neg (by omega)]
  unfold decN
  rw [digs_pos 10 n (by decide) (by omega), List.reverse_cons, List.map_append]
  rfl
theorem decimal_ax (n : Nat) : n < 4294967296 → PCall Tryz.prog 19 [.v (.int .u32 n)] (.v (.string (bs (decP n)))) := by
  induction n using Nat.strongRecOn with
  | _ n ih =>
    intro hn
    refine pcall_of fun s => ?_
    by_cases q : n < 10
    · have e : decP n = [48 + n] := by
        have : n = 0 ∨ n = 1 ∨ n = 2 ∨ n = 3 ∨ n = 4 ∨ n = 5 ∨ n = 6 ∨ n = 7 ∨ n = 8 ∨ n = 9 := by omega
        rcases this with rfl | rfl | rfl | rfl | rfl | rfl | rfl | rfl | rfl | rfl <;> simp [decP, decN, digs_pos, digs_zero]
      rw [e]
      have b1 := bs_dig n
      refine acall_of Tryz.func19 rfl rfl (by simp [Tryz.ntmps19]) ?_; rw [Tryz.ntmps19, Tryz.results19]
      (first | refine go trivial ?_ | exact go0 trivial)
      (try rw [then_normal]); (try refine aw_seq ?_); refine aw_cond rfl ?_ ?_ <;> intro hb <;> (try (cases hb; done)) <;> (try simp only [bq] at hb) <;> (try (exfalso; omega))
      repeat (first | refine aw_seq ?_ | refine aw_block ?_ | (refine aw_reg fun K hK => ?_; simp (disch := omega) only [↓core, ↓List.getElem?_toArray, ↓List.getElem?_cons_succ, ↓List.getElem?_cons_zero, ↓onO_some, more, xbuild, if_pos, if_neg, onO_some, onO_none, onV_eq, xbuiltin, xlen, xload, loadA, xstore, spl, xfield, xindexAddr, xindex, xslice, bnd, xbin, xint, xshift, xstr, xeq, xun, xconv, xmake, xappend, xsrc, xbuildSlice, fillA, xminmax, gval, isK, mapM_nil_o, mapM_cons_o, AV.cells, AV.boxable, AV.one, TI.agg, resA, retA, zrow_one, eq_self, List.map, List.map_cons, List.map_nil, Option.map_some, Option.map_none, Option.bind_some, Option.bind_none, ↓reduceIte, Nat.reduceLT, Nat.reduceEqDiff, Nat.reduceAdd, Nat.reduceMul, Nat.mul_one, Nat.reduceLeDiff, decide_true, decide_false, true_and, and_true, if_true, if_false, List.toList_toArray, List.size_toArray, beq_self_eq_true, Bool.true_eq_false, Bool.false_eq_true, forall_const, false_implies, implies_true, undef, IntKind.bits, List.drop_zero, List.drop_succ_cons, List.take_succ_cons, List.take_zero, List.length_cons, List.length_nil, List.set_cons_zero, List.set_cons_succ, List.head?_cons, List.all_cons, List.all_nil, List.replicate_succ, List.replicate_zero, Bool.and_true, Bool.and_self, Value.oneCell', Bool.true_and, Bool.or_true, Bool.or_false, Bool.not_true, Bool.not_false, ti3, ti2, ti4, ti9, ti5, ti35, ti36, ti116, ti24, ti25, isByte, b1]; refine hK _ _ ?_; clear hK K) | (refine aw_skip ?_; try simp (disch := omega) only [↓core, ↓List.getElem?_toArray, ↓List.getElem?_cons_succ, ↓List.getElem?_cons_zero, ↓onO_some, more, xbuild, if_pos, if_neg, onO_some, onO_none, onV_eq, xbuiltin, xlen, xload, loadA, xstore, spl, xfield, xindexAddr, xindex, xslice, bnd, xbin, xint, xshift, xstr, xeq, xun, xconv, xmake, xappend, xsrc, xbuildSlice, fillA, xminmax, gval, isK, mapM_nil_o, mapM_cons_o, AV.cells, AV.boxable, AV.one, TI.agg, resA, retA, zrow_one, eq_self, List.map, List.map_cons, List.map_nil, Option.map_some, Option.map_none, Option.bind_some, Option.bind_none, ↓reduceIte, Nat.reduceLT, Nat.reduceEqDiff, Nat.reduceAdd, Nat.reduceMul, Nat.mul_one, Nat.reduceLeDiff, decide_true, decide_false, true_and, and_true, if_true, if_false, List.toList_toArray, List.size_toArray, beq_self_eq_true, Bool.true_eq_false, Bool.false_eq_true, forall_const, false_implies, implies_true, undef, IntKind.bits, List.drop_zero, List.drop_succ_cons, List.take_succ_cons, List.take_zero, List.length_cons, List.length_nil, List.set_cons_zero, List.set_cons_succ, List.head?_cons, List.all_cons, List.all_nil, List.replicate_succ, List.replicate_zero, Bool.and_true, Bool.and_self, Value.oneCell', Bool.true_and, Bool.or_true, Bool.or_false, Bool.not_true, Bool.not_false, ti3, ti2, ti4, ti9, ti5, ti35, ti36, ti116, ti24, ti25, isByte, b1]) | (refine aw_exit ?_; try simp (disch := omega) only [↓core, ↓List.getElem?_toArray, ↓List.getElem?_cons_succ, ↓List.getElem?_cons_zero, ↓onO_some, more, xbuild, if_pos, if_neg, onO_some, onO_none, onV_eq, xbuiltin, xlen, xload, loadA, xstore, spl, xfield, xindexAddr, xindex, xslice, bnd, xbin, xint, xshift, xstr, xeq, xun, xconv, xmake, xappend, xsrc, xbuildSlice, fillA, xminmax, gval, isK, mapM_nil_o, mapM_cons_o, AV.cells, AV.boxable, AV.one, TI.agg, resA, retA, zrow_one, eq_self, List.map, List.map_cons, List.map_nil, Option.map_some, Option.map_none, Option.bind_some, Option.bind_none, ↓reduceIte, Nat.reduceLT, Nat.reduceEqDiff, Nat.reduceAdd, Nat.reduceMul, Nat.mul_one, Nat.reduceLeDiff, decide_true, decide_false, true_and, and_true, if_true, if_false, List.toList_toArray, List.size_toArray, beq_self_eq_true, Bool.true_eq_false, Bool.false_eq_true, forall_const, false_implies, implies_true, undef, IntKind.bits, List.drop_zero, List.drop_succ_cons, List.take_succ_cons, List.take_zero, List.length_cons, List.length_nil, List.set_cons_zero, List.set_cons_succ, List.head?_cons, List.all_cons, List.all_nil, List.replicate_succ, List.replicate_zero, Bool.and_true, Bool.and_self, Value.oneCell', Bool.true_and, Bool.or_true, Bool.or_false, Bool.not_true, Bool.not_false, ti3, ti2, ti4, ti9, ti5, ti35, ti36, ti116, ti24, ti25, isByte, b1]) | (refine aw_ret ?_; try simp (disch := omega) only [↓core, ↓List.getElem?_toArray, ↓List.getElem?_cons_succ, ↓List.getElem?_cons_zero, ↓onO_some, more, xbuild, if_pos, if_neg, onO_some, onO_none, onV_eq, xbuiltin, xlen, xload, loadA, xstore, spl, xfield, xindexAddr, xindex, xslice, bnd, xbin, xint, xshift, xstr, xeq, xun, xconv, xmake, xappend, xsrc, xbuildSlice, fillA, xminmax, gval, isK, mapM_nil_o, mapM_cons_o, AV.cells, AV.boxable, AV.one, TI.agg, resA, retA, zrow_one, eq_self, List.map, List.map_cons, List.map_nil, Option.map_some, Option.map_none, Option.bind_some, Option.bind_none, ↓reduceIte, Nat.reduceLT, Nat.reduceEqDiff, Nat.reduceAdd, Nat.reduceMul, Nat.mul_one, Nat.reduceLeDiff, decide_true, decide_false, true_and, and_true, if_true, if_false, List.toList_toArray, List.size_toArray, beq_self_eq_true, Bool.true_eq_false, Bool.false_eq_true, forall_const, false_implies, implies_true, undef, IntKind.bits, List.drop_zero, List.drop_succ_cons, List.take_succ_cons, List.take_zero, List.length_cons, List.length_nil, List.set_cons_zero, List.set_cons_succ, List.head?_cons, List.all_cons, List.all_nil, List.replicate_succ, List.replicate_zero, Bool.and_true, Bool.and_self, Value.oneCell', Bool.true_and, Bool.or_true, Bool.or_false, Bool.not_true, Bool.not_false, ti3, ti2, ti4, ti9, ti5, ti35, ti36, ti116, ti24, ti25, isByte, b1]))
      exact fun i hi => if_neg (by omega)
    · have ih := ih (n / 10) (Nat.div_lt_self (by omega) (by decide)) (by omega)
      have b1 := bs_dig (n % 10)
      have ap := bs_append (decP (n / 10)) [48 + n % 10]
      have l1 := bs_size (decP (n / 10))
      have l2 := bs_size [48 + n % 10]
      have l3 := (decP_spec (n / 10) (by omega)).2.2.2
      rw [decP_step n (by omega)]
      have e1 : (n : Int) / 10 = ((n / 10 : Nat) : Int) := by omega
      have e2 : (n : Int) % 10 = ((n % 10 : Nat) : Int) := by omega
      have e3 : n % 10 < 10 := Nat.mod_lt _ (by decide)
      generalize n % 10 = m at *
      generalize decP (n / 10) = ds at *
      generalize n / 10 = k at *
      refine acall_of Tryz.func19 rfl rfl (by simp [Tryz.ntmps19]) ?_; rw [Tryz.ntmps19, Tryz.results19]
      (first | refine go trivial ?_ | exact go0 trivial)
      (try rw [then_normal]); (try refine aw_seq ?_); refine aw_cond rfl ?_ ?_ <;> intro hb <;> (try (cases hb; done)) <;> (try simp only [bq] at hb) <;> (try (exfalso; omega))
      (first | refine go trivial ?_ | exact go0 trivial)
      refine aw_drw (.take 0 (.take 1 (.take 3 (.take 4 (.take 5 (.take 6 (.two 2 (.one 7 (.one 8 (.one 9 (.one 10 (.done))))) 7 (.two 2 (.one 8 (.one 9 (.one 10 (.done)))) 8 (.one 2 (.one 9 (.one 10 (.done)))))))))))) [] (by kernel_rfl) (by kernel_rfl) fun K hK => ?_; simp (disch := omega) only [↓core, ↓List.getElem?_toArray, ↓List.getElem?_cons_succ, ↓List.getElem?_cons_zero, ↓onO_some, more, xbuild, if_pos, if_neg, onO_some, onO_none, onV_eq, xbuiltin, xlen, xload, loadA, xstore, spl, xfield, xindexAddr, xindex, xslice, bnd, xbin, xint, xshift, xstr, xeq, xun, xconv, xmake, xappend, xsrc, xbuildSlice, fillA, xminmax, gval, isK, mapM_nil_o, mapM_cons_o, AV.cells, AV.boxable, AV.one, TI.agg, resA, retA, zrow_one, eq_self, List.map, List.map_cons, List.map_nil, Option.map_some, Option.map_none, Option.bind_some, Option.bind_none, ↓reduceIte, Nat.reduceLT, Nat.reduceEqDiff, Nat.reduceAdd, Nat.reduceMul, Nat.mul_one, Nat.reduceLeDiff, decide_true, decide_false, true_and, and_true, if_true, if_false, List.toList_toArray, List.size_toArray, beq_self_eq_true, Bool.true_eq_false, Bool.false_eq_true, forall_const, false_implies, implies_true, undef, IntKind.bits, List.drop_zero, List.drop_succ_cons, List.take_succ_cons, List.take_zero, List.length_cons, List.length_nil, List.set_cons_zero, List.set_cons_succ, List.head?_cons, List.all_cons, List.all_nil, List.replicate_succ, List.replicate_zero, Bool.and_true, Bool.and_self, Value.oneCell', Bool.true_and, Bool.or_true, Bool.or_false, Bool.not_true, Bool.not_false, ↓drows, gt_true, gt_false, tk, held_nil, held_cons, List.mem_cons, List.not_mem_nil, or_false, or_true, true_or, false_or, eq_self, and_self, ti3, ti2, ti4, ti9, ti5, ti35, ti36, ti116, ti24, ti25, e1, e2, isByte, b1, ap, l1, l2]; have hK2 : ∀ e' s', e'.m 2 = .v (.string (bs (ds ++ [48 + m]))) → (∀ i, i < s.nx → s'.get i = s.get i) → K e' s' := (fun e' s' k1 k2 => by refine hK e' s' ?_; rw [then_normal]; (first | refine go @k1 ?_ | exact go0 @k1); exact k2); refine ⟨?_, ?_, ?_⟩ <;> (refine cont_pure ih ?_; simp (disch := omega) only [↓core, ↓List.getElem?_toArray, ↓List.getElem?_cons_succ, ↓List.getElem?_cons_zero, ↓onO_some, more, xbuild, if_pos, if_neg, onO_some, onO_none, onV_eq, xbuiltin, xlen, xload, loadA, xstore, spl, xfield, xindexAddr, xindex, xslice, bnd, xbin, xint, xshift, xstr, xeq, xun, xconv, xmake, xappend, xsrc, xbuildSlice, fillA, xminmax, gval, isK, mapM_nil_o, mapM_cons_o, AV.cells, AV.boxable, AV.one, TI.agg, resA, retA, zrow_one, eq_self, List.map, List.map_cons, List.map_nil, Option.map_some, Option.map_none, Option.bind_some, Option.bind_none, ↓reduceIte, Nat.reduceLT, Nat.reduceEqDiff, Nat.reduceAdd, Nat.reduceMul, Nat.mul_one, Nat.reduceLeDiff, decide_true, decide_false, true_and, and_true, if_true, if_false, List.toList_toArray, List.size_toArray, beq_self_eq_true, Bool.true_eq_false, Bool.false_eq_true, forall_const, false_implies, implies_true, undef, IntKind.bits, List.drop_zero, List.drop_succ_cons, List.take_succ_cons, List.take_zero, List.length_cons, List.length_nil, List.set_cons_zero, List.set_cons_succ, List.head?_cons, List.all_cons, List.all_nil, List.replicate_succ, List.replicate_zero, Bool.and_true, Bool.and_self, Value.oneCell', Bool.true_and, Bool.or_true, Bool.or_false, Bool.not_true, Bool.not_false, ↓drows, gt_true, gt_false, tk, held_nil, held_cons, List.mem_cons, List.not_mem_nil, or_false, or_true, true_or, false_or, eq_self, and_self, ti3, ti2, ti4, ti9, ti5, ti35, ti36, ti116, ti24, ti25, e1, e2, isByte, b1, ap, l1, l2]; refine hK2 _ _ (by (first | refine rn trivial ?_ | exact rn0 trivial)) (fun i hi => ?_); exact St.push_ne _ _ _ (by omega))
end Go.Proofs.YtfjelkjlfcafgaaGreatDoor.NumY
end
section
/- The law NumShift, walked. -/
namespace Go.Proofs.YtfjelkjlfcafgaaGreatDoor.NumZ
open Go Go.RowKit Go.Proofs.YtfjelkjlfcafgaaGreatDoor.Ax Go.Proofs.YtfjelkjlfcafgaaGreatDoor.Ti Go.Proofs.YtfjelkjlfcafgaaGreatDoor.BigM Go.Proofs.YtfjelkjlfcafgaaGreatDoor.NumS Go.Proofs.YtfjelkjlfcafgaaGreatDoor.NumA Go.Proofs.YtfjelkjlfcafgaaGreatDoor.NumB Go.Proofs.YtfjelkjlfcafgaaGreatDoor.NumT Go.Proofs.YtfjelkjlfcafgaaGreatDoor.NumU Go.Proofs.YtfjelkjlfcafgaaGreatDoor.NumL Go.Proofs.YtfjelkjlfcafgaaGreatDoor.NumW Go.Proofs.YtfjelkjlfcafgaaGreatDoor.NumX Go.Proofs.YtfjelkjlfcafgaaGreatDoor.NumY
set_option linter.unusedSimpArgs false
set_option linter.unusedVariables false
set_option maxRecDepth 4000
set_option maxHeartbeats 2000000
theorem rTI : type_of% (cj @ti3 (cj @ti2 (cj @ti4 (cj @ti9 (cj @ti5 (cj @ti35 (cj @ti36 (cj @ti116 (cj @ti24 @ti25))))))))) := cj @ti3 (cj @ti2 (cj @ti4 (cj @ti9 (cj @ti5 (cj @ti35 (cj @ti36 (cj @ti116 (cj @ti24 @ti25))))))))

def PL : List AV := (List.range 10).map fun k => .v (.string (bs (powerS k)))
theorem hd_PL (k : Nat) (h : k < 10) : (PL.drop k).head? = some (.v (.string (bs (powerS k)))) := by
  have : k = 0 ∨ k = 1 ∨ k = 2 ∨ k = 3 ∨ k = 4 ∨ k = 5 ∨ k = 6 ∨ k = 7 ∨ k = 8 ∨ k = 9 := by omega
  rcases this with rfl | rfl | rfl | rfl | rfl | rfl | rfl | rfl | rfl | rfl <;> rfl
theorem power_by (k : Nat) (h : k < 10) : By (powerS k) := by
  have : k = 0 ∨ k = 1 ∨ k = 2 ∨ k = 3 ∨ k = 4 ∨ k = 5 ∨ k = 6 ∨ k = 7 ∨ k = 8 ∨ k = 9 := by omega
  rcases this with rfl | rfl | rfl | rfl | rfl | rfl | rfl | rfl | rfl | rfl <;> (intro c hc; simp [powerS] at hc; omega)
theorem fin_bound (neg : Bool) (m : Nat) (x : Int) : -999999999 ≤ (finS neg m x).1 ∧ (finS neg m x).1 ≤ 999999999 := by
  unfold finS
  split
  · simp
  · split
    · rename_i h
      cases neg
      · simp only [Bool.false_eq_true, if_false]; omega
      · simp only [if_true]; omega
    · simp
theorem by_app {a b : List Nat} (ha : By a) (hb : By b) : By (a ++ b) := fun c hc => by
  rcases List.mem_append.1 hc with hc | hc
  · exact ha c hc
  · exact hb c hc
theorem shift_ax (n w : Nat) (hn : n < 4294967296) (hw : w < 256) : PCall Tryz.prog 5 [.v (.int .u32 n), .v (.int .u8 w)] (.v (.bool true)) := by
  refine pcall_of fun s => ?_
  obtain ⟨k, hk⟩ : ∃ k, k = w % 10 := ⟨_, rfl⟩
  have hk10 : k < 10 := by omega
  have ek : (w : Int) % 10 = (k : Int) := by omega
  have hdec := decimal_ax n hn
  obtain ⟨d1, d2, d3, d4⟩ := decP_spec n hn
  have hbd : By (decP n) := fun c hc => by have := (isD_iff c).1 (d1 c hc); omega
  obtain ⟨s1, s2, s3⟩ := shift_law n k hn hk10
  obtain ⟨f1, f2⟩ := fin_turn n (3 * (k : Int) - 15)
  have fb := fin_bound false n (3 * (k : Int) - 15)
  have lk3 := (letter_reads k hk10).2.2
  have pk3 := (power_reads k hk10).2.2
  have hbl := letter_by k
  have hbp := power_by k hk10
  have p1 := parse_ax (decP n ++ letterS k) (by_app hbd hbl) (by rw [List.length_append]; omega)
  have p2 := parse_ax (decP n ++ powerS k) (by_app hbd hbp) (by rw [List.length_append]; omega)
  have p3 := parse_ax (45 :: (decP n ++ (46 :: 48 :: letterS k))) (fun c hc => by
    rcases List.mem_cons.1 hc with rfl | hc
    · decide
    · rcases List.mem_append.1 hc with hc | hc
      · exact hbd c hc
      · rcases List.mem_cons.1 hc with rfl | hc
        · decide
        · rcases List.mem_cons.1 hc with rfl | hc
          · decide
          · exact hbl c hc) (by simp only [List.length_append, List.length_cons]; omega)
  rw [s1] at p1
  rw [s2] at p2
  rw [s3] at p3
  have c1 := bs_append (decP n) (letterS k)
  have c2 := bs_append (decP n) (powerS k)
  have c3 : (ByteArray.mk #[45]) ++ bs (decP n) = bs (45 :: decP n) := by
    show bs [45] ++ bs (decP n) = _
    exact bs_append _ _
  have c4 : bs (45 :: decP n) ++ (ByteArray.mk #[46, 48]) = bs (45 :: decP n ++ [46, 48]) := by
    show bs (45 :: decP n) ++ bs [46, 48] = _
    exact bs_append _ _
  have c5 : bs (45 :: decP n ++ [46, 48]) ++ bs (letterS k) = bs (45 :: (decP n ++ (46 :: 48 :: letterS k))) := by
    rw [bs_append, List.append_assoc]
    rfl
  have l1 := bs_size (decP n)
  have l2 := bs_size (letterS k)
  have l3 := bs_size (powerS k)
  have l4 := bs_size (45 :: decP n)
  have l5 := bs_size (45 :: decP n ++ [46, 48])
  rw [List.length_cons] at l4
  rw [List.length_append, List.length_cons, show ([46, 48] : List Nat).length = 2 from rfl] at l5
  have m1 : (ByteArray.mk #[45]).size = 1 := rfl
  have m2 : (ByteArray.mk #[46, 48]).size = 2 := rfl
  have o1 := hd_NL k hk10
  have o2 := hd_PL k hk10
  have hb : ∃ a b c, finS false n (3 * (k : Int) - 15) = (a, b, c) := ⟨_, _, _, rfl⟩
  have hb2 : ∃ a b c, finS true (n * 10) (3 * (k : Int) - 15 - 1) = (a, b, c) := ⟨_, _, _, rfl⟩
  obtain ⟨a, b, c, h1⟩ := hb
  obtain ⟨a', b', c', h2⟩ := hb2
  rw [h1, h2] at f1 f2
  rw [h1] at fb p1 p2
  rw [h2] at p3
  have f1' : a' = -a := f1
  have f2' : (b', c') = (b, c) := f2
  injection f2' with f3 f4
  subst f1' f3 f4
  have fb1 : -999999999 ≤ a := fb.1
  have fb2 : a ≤ 999999999 := fb.2
  clear f1 f2 fb s1 s2 s3 h1 h2
  unfold parseV NM at p1 p2 p3
  refine acall_of Tryz.func5 rfl rfl (by simp [Tryz.ntmps5]) ?_; rw [Tryz.ntmps5, Tryz.results5]
  (first | refine go trivial ?_ | exact go0 trivial)
  refine aw_reg fun K hK => ?_; refine rn rTI ?_; refine cont_pure awake_ax ?_; refine rn rTI ?_; refine hK _ _ ?_; clear hK K
  rw [then_normal]
  (try rw [then_normal]); (try refine aw_seq ?_); refine aw_cond rfl ?_ ?_ <;> intro hb <;> (try (cases hb; done)) <;> (try simp only [bq] at hb) <;> (try (exfalso; omega))
  (first | refine go (cj rTI @ek) ?_ | exact go0 (cj rTI @ek))
  obtain ⟨t, ht⟩ : ∃ t, t = (s.push [AV.v (.string (ByteArray.mk #[102])), AV.v (.string (ByteArray.mk #[112])), AV.v (.string (ByteArray.mk #[110])), AV.v (.string (ByteArray.mk #[117])), AV.v (.string (ByteArray.mk #[109])), AV.v (.string (ByteArray.mk #[])), AV.v (.string (ByteArray.mk #[107])), AV.v (.string (ByteArray.mk #[109, 101, 103])), AV.v (.string (ByteArray.mk #[103])), AV.v (.string (ByteArray.mk #[116]))]).push [AV.v (.string (ByteArray.mk #[101, 45, 49, 53])), AV.v (.string (ByteArray.mk #[101, 45, 49, 50])), AV.v (.string (ByteArray.mk #[101, 45, 57])), AV.v (.string (ByteArray.mk #[101, 45, 54])), AV.v (.string (ByteArray.mk #[101, 45, 51])), AV.v (.string (ByteArray.mk #[101, 48])), AV.v (.string (ByteArray.mk #[101, 51])), AV.v (.string (ByteArray.mk #[101, 43, 54])), AV.v (.string (ByteArray.mk #[101, 57])), AV.v (.string (ByteArray.mk #[101, 49, 50]))] := ⟨_, rfl⟩
  rw [← ht]
  have tn : t.nx = s.nx + 2 := by rw [ht]; rfl
  have t0 : t.get s.nx = some NL := by rw [ht, St.push_ne _ _ _ (by show s.nx ≠ s.nx + 1; omega), St.push_same]; rfl
  have t1 : t.get (s.nx + 1) = some PL := by rw [ht]; exact (St.push_same _ _).trans rfl
  have to : ∀ i, i < s.nx → t.get i = s.get i := fun i hi => by rw [ht, St.push_ne _ _ _ (by show i ≠ s.nx + 1; omega), St.push_ne _ _ _ (by omega)]
  clear ht
  refine aw_reg fun K hK => ?_; refine rn rTI ?_; refine cont_pure hdec ?_; refine rn rTI ?_; refine hK _ _ ?_; clear hK K
  rw [then_normal]
  (first | refine go trivial ?_ | exact go0 trivial)
  generalize letterS k = lk at *
  generalize powerS k = pk at *
  refine aw_reg fun K hK => ?_; refine rn (cj rTI (cj @t0 (cj @o1 (cj @c1 (cj @l1 (cj @l2 @Nat.zero_add)))))) ?_; refine cont_pure p1 ?_; refine rn (cj rTI (cj @t0 (cj @o1 (cj @c1 (cj @l1 (cj @l2 @Nat.zero_add)))))) ?_; refine hK _ _ ?_; clear hK K
  rw [then_normal]
  (first | refine go trivial ?_ | exact go0 trivial)
  refine aw_reg fun K hK => ?_; refine rn (cj rTI (cj @tn (cj @t1 (cj @o2 (cj @c2 (cj @l1 (cj @l3 @Nat.zero_add))))))) ?_; refine cont_pure p2 ?_; refine rn (cj rTI (cj @tn (cj @t1 (cj @o2 (cj @c2 (cj @l1 (cj @l3 @Nat.zero_add))))))) ?_; refine hK _ _ ?_; clear hK K
  rw [then_normal]
  (first | refine go trivial ?_ | exact go0 trivial)
  refine aw_reg fun K hK => ?_; refine rn (cj rTI (cj @tn (cj @t0 (cj @o1 (cj @c3 (cj @c4 (cj @c5 (cj @l1 (cj @l2 (cj @l4 (cj @l5 (cj @m1 (cj @m2 @Nat.zero_add))))))))))))) ?_; refine cont_pure p3 ?_; refine rn (cj rTI (cj @tn (cj @t0 (cj @o1 (cj @c3 (cj @c4 (cj @c5 (cj @l1 (cj @l2 (cj @l4 (cj @l5 (cj @m1 (cj @m2 @Nat.zero_add))))))))))))) ?_; refine hK _ _ ?_; clear hK K
  rw [then_normal]
  (first | refine go (cj rTI (cj @tn (cj @eq_num @Int.zero_sub))) ?_ | exact go0 (cj rTI (cj @tn (cj @eq_num @Int.zero_sub))))
  exact fun i hi => by rw [if_neg (by omega), if_neg (by omega), if_neg (by omega)]; exact to i hi
theorem shift_int (n w : Int) (hn : 0 ≤ n ∧ n ≤ 4294967295) (hw : 0 ≤ w ∧ w ≤ 255) : PCall Tryz.prog 5 [.v (.int .u32 n), .v (.int .u8 w)] (.v (.bool true)) := by
  obtain ⟨a, rfl⟩ := Int.eq_ofNat_of_zero_le hn.1
  obtain ⟨b, rfl⟩ := Int.eq_ofNat_of_zero_le hw.1
  exact shift_ax a b (by omega) (by omega)
end Go.Proofs.YtfjelkjlfcafgaaGreatDoor.NumZ
end
section
/- A world in which the listed tables lie as the program's text lays them; and what the list says of the table of tens. -/
namespace Go.Proofs.YtfjelkjlfcafgaaGreatDoor.NumLaid
open Go.Proofs.YtfjelkjlfcafgaaGreatDoor.Ax
set_option linter.unusedVariables false
set_option maxRecDepth 100000

theorem own : ownKnob Tryz.prog.godebug = none := by kernel_rfl
theorem laidOut : laidOutB Tryz.prog = true := by kernel_rfl

noncomputable def laidWorld (os : Os) : World := World.laidAll Tryz.prog os Rows.numShiftRow.laid
theorem laidWorld_os (os : Os) : (laidWorld os).os = os := World.laidAll_os _ _ _
theorem laid_met (os : Os) (args : Array Value) : laidMet Tryz.prog Rows.numShiftRow.laid ((laidWorld os).forCall (fun _ _ => 0) ⟨#[], args, []⟩).memory := laidMet_laidAll args (by kernel_rfl) (by kernel_rfl)

theorem laidMet_tail {P : Program} {w : World} {x : String × DataW Unit} {l : List (String × DataW Unit)} (h : laidMet P (x :: l) w) : laidMet P l w := by
  obtain ⟨ps, ⟨g1, t1, c1, f1, p1, q1, a1, a2, a3, a4, a5, rfl⟩, hn, hc⟩ := h
  exact ⟨q1, a5, (List.nodup_append.1 hn).2.1, fun b off hb => hc b off (List.mem_append_right _ hb)⟩

theorem pow_eq : (Rows.laid_internal_strconv_uint64pow10 : DataW Unit) = Lib.tabData .u64 Lib.pow10Tab := by kernel_rfl
theorem tabs {w : World} (h : laidMet Tryz.prog Rows.numShiftRow.laid w) : Tabs w.cell? := by
  have h1 := laidMet_tail (laidMet_tail h)
  rw [pow_eq] at h1
  obtain ⟨ps, ⟨g', t', cs, fuel, p, q, hg', ht', hvar, hd, _, _⟩, _⟩ := h1
  obtain rfl := Option.some.inj ((show Tryz.prog.globalNamed "internal/strconv.uint64pow10" = some 2 by kernel_rfl).symm.trans hg')
  obtain rfl := Option.some.inj ((show (Tryz.prog.globals[2]?).map (·.type) = some 227 by kernel_rfl).symm.trans ht')
  have hc := Lib.cells_of_tab (e := 165) (n := 20) Tryz.underlying227 Tryz.underlying165 (by kernel_rfl) (by kernel_rfl) hd
  refine ⟨fun i hi => ?_, trivial⟩
  have hT : Lib.TabIs Tryz.prog w "internal/strconv.uint64pow10" .u64 Lib.pow10Tab := by
    unfold Lib.TabIs
    rw [hvar, ← hc]
  have := hT.cell (g := 2) (by kernel_rfl) i (by rw [Lib.pow10Tab_length]; exact hi)
  rw [Lib.pow10Tab_at i hi] at this
  exact this
theorem tabSize {w : World} (h : laidMet Tryz.prog Rows.numShiftRow.laid w) : TabSize w := by
  have h1 := laidMet_tail (laidMet_tail h)
  rw [pow_eq] at h1
  obtain ⟨ps, ⟨g', t', cs, fuel, p, q, hg', ht', hvar, hd, _, _⟩, _⟩ := h1
  obtain rfl := Option.some.inj ((show Tryz.prog.globalNamed "internal/strconv.uint64pow10" = some 2 by kernel_rfl).symm.trans hg')
  obtain rfl := Option.some.inj ((show (Tryz.prog.globals[2]?).map (·.type) = some 227 by kernel_rfl).symm.trans ht')
  have hc := Lib.cells_of_tab (e := 165) (n := 20) Tryz.underlying227 Tryz.underlying165 (by kernel_rfl) (by kernel_rfl) hd
  refine ⟨?_, trivial⟩
  simp only [World.var?, hg', Option.bind_some] at hvar
  split at hvar
  · rename_i c t fr hb
    injection hvar with hvar
    subst hvar
    refine ⟨_, _, _, hb, ?_⟩
    rw [← Array.length_toList, hc]
    simp [Lib.pow10Tab]
  · cases hvar
/-- What the machine hands on is what the library's contract asks. -/
theorem tabIs {w : World} (h : Tabs w.cell?) (hz : TabSize w) : Lib.TabIs Tryz.prog w "internal/strconv.uint64pow10" .u64 Lib.pow10Tab := by
  obtain ⟨c, e, f, h1, h2⟩ := hz.1
  have hg : Tryz.prog.globalNamed "internal/strconv.uint64pow10" = some 2 := by kernel_rfl
  unfold Lib.TabIs
  have hv : w.var? Tryz.prog "internal/strconv.uint64pow10" = some c := by
    simp only [World.var?, hg, Option.bind_some, h1]
  rw [hv]
  congr 1
  apply Array.ext
  · rw [h2]; simp [Lib.pow10Tab]
  intro i h3 h4
  have h5 := World.var?_cell hg hv i
  rw [h.1 i (by omega), Array.getElem?_eq_getElem h3] at h5
  injection h5 with h5
  rw [← h5]
  simp [Lib.pow10Tab]
theorem rel_two {k : KW} {z0 z1 : AV} {u0 u1 : Value} (h0 : Rel k z0 u0) (h1 : Rel k z1 u1) : ∀ (j : Nat) (z : AV) (u : Value), [z0, z1][j]? = some z → [u0, u1][j]? = some u → Rel k z u := by
  intro j z u hz hu
  match j with
  | 0 => cases hz; cases hu; exact h0
  | 1 => cases hz; cases hu; exact h1
  | j + 2 => simp at hz
theorem relL_mk1 {k : KW} {z0 : AV} {u0 : Value} (h0 : Rel k z0 u0) : RelL k [z0] [u0] := by
  refine ⟨rfl, fun j z u hz hu => ?_⟩
  match j with
  | 0 => cases hz; cases hu; exact h0
  | j + 1 => simp at hz
theorem relL_mk2 {k : KW} {z0 z1 : AV} {u0 u1 : Value} (h0 : Rel k z0 u0) (h1 : Rel k z1 u1) : RelL k [z0, z1] [u0, u1] := ⟨rfl, rel_two h0 h1⟩
theorem relL_mk3 {k : KW} {z0 z1 z2 : AV} {u0 u1 u2 : Value} (h0 : Rel k z0 u0) (h1 : Rel k z1 u1) (h2 : Rel k z2 u2) : RelL k [z0, z1, z2] [u0, u1, u2] := by
  refine ⟨rfl, fun j z u hz hu => ?_⟩
  match j with
  | 0 => cases hz; cases hu; exact h0
  | 1 => cases hz; cases hu; exact h1
  | 2 => cases hz; cases hu; exact h2
  | j + 3 => simp at hz
end Go.Proofs.YtfjelkjlfcafgaaGreatDoor.NumLaid
end
section
/- A struct of two integers, read at a call's beginning. -/
namespace Go.Proofs.YtfjelkjlfcafgaaGreatDoor.NumOpen
open Go Go.ChangeShapes Go.WideShapes Go.ChangeAt Go.RowKit
set_option linter.unusedVariables false
variable {H : Type} {enc : TypeId × Value → H} {P : Program} {w : World} {base : Nat} {spare : Nat → Bool} {held : Bool}
theorem open_two {r : Reach} {b0 : Nat} {t t0 t1 : TypeId} {k0 k1 : IntKind} {fs : Array Field} {v : Value} {d : DataW H} {ps : List MemPlace} (ht : P.underlying t = some (.struct fs)) (hfs : fs.toList.map (fun f => (f.type, f.offset)) = [(t0, 0), (t1, 1)])
    (hc : P.cellsOf t = 2) (c0 : P.cellsOf t0 = 1) (c1 : P.cellsOf t1 = 1) (h0 : P.underlying t0 = some (.int k0)) (h1 : P.underlying t1 = some (.int k1))
    (hval : Value.okWide P w r b0 t v) (hd : DataW.Trod enc P w base spare held t v d ps) :
    ∃ m x, v = .agg #[.int k0 m, .int k1 x] ∧ (Lit.int k0 m).wf = true ∧ (Lit.int k1 x).wf = true := by
  obtain ⟨cs, rfl, hs⟩ := okWide_struct ht hval
  obtain ⟨fuel, hf⟩ := hd
  cases fuel with
  | zero => simp [DataW.trod] at hf
  | succ fuel =>
    have hcs : (Value.agg cs).cells.toList = cs.toList := rfl
    rw [hcs] at hf
    simp only [DataW.trod, ht] at hf
    obtain ⟨x0, x1, hx⟩ : ∃ x0 x1, cs = #[x0, x1] := by
      rw [hc] at hs
      obtain ⟨l⟩ := cs
      match l, hs with
      | [a, b], _ => exact ⟨a, b, rfl⟩
    subst hx
    split at hf
    · obtain ⟨xs, hm, hx⟩ := Option.map_eq_some_iff.1 hf
      obtain ⟨f0, f1, hff, e0, e1, e2, e3⟩ : ∃ f0 f1, fs.toList = [f0, f1] ∧ f0.type = t0 ∧ f0.offset = 0 ∧ f1.type = t1 ∧ f1.offset = 1 := by
        generalize fs.toList = l at hfs
        obtain ⟨a, b, rfl⟩ : ∃ a b, l = [a, b] := by
          have hl := congrArg List.length hfs
          rw [List.length_map] at hl
          match l, hl with
          | [a, b], _ => exact ⟨a, b, rfl⟩
        · have h := hfs
          simp only [List.map_cons, List.map_nil, List.cons.injEq, Prod.mk.injEq, and_true] at h
          exact ⟨a, b, rfl, h.1.1, h.1.2, h.2.1, h.2.2⟩
      rw [hff] at hm
      simp only [List.mapM_cons, List.mapM_nil, Option.bind_eq_bind, Option.bind_eq_some_iff, Option.pure_def, e0, e1, e2, e3, c0, c1, List.drop_zero, List.take_succ_cons, List.take_zero, List.drop_succ_cons] at hm
      obtain ⟨y0, g0, z, ⟨y1, g1, _⟩, _⟩ := hm
      obtain ⟨n0, p0, q0, r0⟩ := DataW.trod_int h0 g0
      obtain ⟨n1, p1, q1, r1⟩ := DataW.trod_int h1 g1
      injection p0 with p0
      injection p1 with p1
      subst p0 p1
      exact ⟨n0, n1, rfl, r0, r1⟩
    · cases hf
end Go.Proofs.YtfjelkjlfcafgaaGreatDoor.NumOpen
end
section
/- The order of decimal numbers: plain. -/
namespace Go.Proofs.YtfjelkjlfcafgaaGreatDoor.NumC
open Go.Proofs.YtfjelkjlfcafgaaGreatDoor.RefC Go.Proofs.YtfjelkjlfcafgaaGreatDoor.RefK Go.Proofs.YtfjelkjlfcafgaaGreatDoor.RefM
def V (m k : Int) : Int := m * ((10 ^ (k + 18).toNat : Nat) : Int)
theorem low_cross (n d : Int) : (low n d).1 * d = n * (low n d).2 := by
  have h1 : ((Nat.gcd n.natAbs d.natAbs : Nat) : Int) ∣ n := Int.ofNat_dvd_left.2 (Nat.gcd_dvd_left _ _)
  have h2 : ((Nat.gcd n.natAbs d.natAbs : Nat) : Int) ∣ d := Int.ofNat_dvd_left.2 (Nat.gcd_dvd_right _ _)
  unfold low
  generalize ((Nat.gcd n.natAbs d.natAbs : Nat) : Int) = g at *
  obtain ⟨a, rfl⟩ := h1
  obtain ⟨b, rfl⟩ := h2
  by_cases hg : g = 0
  · subst hg; simp
  split
  · show (-(g * a)).tdiv g * (g * b) = g * a * (-(g * b)).tdiv g
    rw [Int.neg_tdiv, Int.neg_tdiv, Int.mul_tdiv_cancel_left _ hg, Int.mul_tdiv_cancel_left _ hg, Int.neg_mul, Int.mul_neg, ← Int.mul_assoc, Int.mul_comm a g]
  · show (g * a).tdiv g * (g * b) = g * a * (g * b).tdiv g
    rw [Int.mul_tdiv_cancel_left _ hg, Int.mul_tdiv_cancel_left _ hg, ← Int.mul_assoc, Int.mul_comm a g]
theorem ofN_val (m k : Int) (h : -18 ≤ k) : (ofN m k).1 * ((10 ^ 18 : Nat) : Int) = V m k * (ofN m k).2 := by
  unfold ofN V
  split
  · obtain ⟨j, hj⟩ : ∃ j, j = (-k).toNat := ⟨_, rfl⟩
    have h1 : (k + 18).toNat = 18 - j := by omega
    have h2 : (10 : Nat) ^ 18 = 10 ^ j * 10 ^ (18 - j) := by rw [← Nat.pow_add]; congr 1; omega
    have h3 := low_cross m ((10 ^ j : Nat) : Int)
    rw [← hj, h1, h2, Int.natCast_mul, ← Int.mul_assoc, h3, Int.mul_assoc, Int.mul_assoc, Int.mul_comm (low m _).2]
  · obtain ⟨j, hj⟩ : ∃ j, j = k.toNat := ⟨_, rfl⟩
    have h1 : (k + 18).toNat = j + 18 := by omega
    rw [← hj, h1, Nat.pow_add, Int.natCast_mul]
    show m * _ * _ = m * _ * 1
    rw [Int.mul_one, Int.mul_assoc]
theorem sgn_mul (p z : Int) (hp : 0 < p) : sgn (p * z) = sgn z := by
  unfold sgn
  have h1 : p * z < 0 ↔ z < 0 := by
    constructor
    · intro h
      by_cases hz : 0 ≤ z
      · have := Int.mul_nonneg (Int.le_of_lt hp) hz; omega
      · omega
    · intro h; exact Int.mul_neg_of_pos_of_neg hp h
  have h2 : p * z = 0 ↔ z = 0 := by
    constructor
    · intro h; rcases Int.mul_eq_zero.1 h with h | h <;> omega
    · intro h; rw [h, Int.mul_zero]
  simp only [h1, h2]
theorem sgn_val (m k m' k' : Int) (h : -18 ≤ k) (h' : -18 ≤ k') : sgn ((ofN m k).1 * (ofN m' k').2 - (ofN m' k').1 * (ofN m k).2) = sgn (V m k - V m' k') := by
  have e1 := ofN_val m k h
  have e2 := ofN_val m' k' h'
  have p1 := ofN_pos m k
  have p2 := ofN_pos m' k'
  have hT : 0 < ((10 ^ 18 : Nat) : Int) := by decide
  generalize ((10 ^ 18 : Nat) : Int) = T at *
  generalize (ofN m k).1 = n at *
  generalize (ofN m k).2 = d at *
  generalize (ofN m' k').1 = n' at *
  generalize (ofN m' k').2 = d' at *
  generalize V m k = A at *
  generalize V m' k' = A' at *
  have hk : T * (n * d' - n' * d) = (d * d') * (A - A') := by
    rw [Int.mul_sub, Int.mul_sub, ← Int.mul_assoc, ← Int.mul_assoc, Int.mul_comm T n, Int.mul_comm T n', e1, e2]
    have a1 : A * d * d' = d * d' * A := by rw [Int.mul_assoc, Int.mul_comm]
    have a2 : A' * d' * d = d * d' * A' := by rw [Int.mul_assoc, Int.mul_comm, Int.mul_comm d' d]
    rw [a1, a2]
  rw [← sgn_mul T _ hT, hk, sgn_mul _ _ (Int.mul_pos p1 p2)]
theorem valid_k (m k : Int) (h : validN m k = true) : -18 ≤ k := (validN_m m k h).2.2.1
theorem valid_zero (m k : Int) (h : validN m k = true) (hm : m.tmod 10 = 0) : m = 0 ∧ k = 0 := by
  unfold validN at h
  rw [if_pos hm] at h
  simpa using h
theorem V_inj_le (m k m' k' : Int) (h : validN m k = true) (h' : validN m' k' = true) (hk : k ≤ k') (hV : V m k = V m' k') : m = m' ∧ k = k' := by
  have b := valid_k m k h
  obtain ⟨i, hi⟩ : ∃ i, i = (k + 18).toNat := ⟨_, rfl⟩
  obtain ⟨j, hj⟩ : ∃ j, (k' + 18).toNat = i + j := ⟨(k' + 18).toNat - i, by omega⟩
  unfold V at hV
  rw [← hi, hj, Nat.pow_add, Int.natCast_mul, Int.mul_comm (((10 ^ i : Nat) : Int)), ← Int.mul_assoc] at hV
  have hp : ((10 ^ i : Nat) : Int) ≠ 0 := by have := Nat.pow_pos (n := i) (show 0 < 10 by omega); omega
  have hm : m = m' * ((10 ^ j : Nat) : Int) := Int.eq_of_mul_eq_mul_right hp hV
  cases j with
  | zero => exact ⟨by simpa using hm, by omega⟩
  | succ j =>
    have hz : m.tmod 10 = 0 := by
      rw [hm, Nat.pow_succ, Int.natCast_mul, ← Int.mul_assoc]
      exact Int.mul_tmod_left _ _
    obtain ⟨h0, h1⟩ := valid_zero m k h hz
    have hm' : m' = 0 := by
      rw [h0] at hm
      rcases Int.mul_eq_zero.1 hm.symm with e | e
      · exact e
      · have := Nat.pow_pos (n := j + 1) (show 0 < 10 by omega); omega
    have := valid_zero m' k' h' (by rw [hm']; rfl)
    omega
theorem V_inj (m k m' k' : Int) (h : validN m k = true) (h' : validN m' k' = true) (hV : V m k = V m' k') : m = m' ∧ k = k' := by
  by_cases hk : k ≤ k'
  · exact V_inj_le m k m' k' h h' hk hV
  · have := V_inj_le m' k' m k h' h (by omega) hV.symm
    exact ⟨this.1.symm, this.2.symm⟩
theorem sgn_neg (a b : Int) : sgn (b - a) = -sgn (a - b) := by
  unfold sgn
  split <;> split <;> (try split) <;> (try split) <;> omega
theorem sgn_three (z : Int) : sgn z = -1 ∨ sgn z = 0 ∨ sgn z = 1 := by
  unfold sgn
  split
  · exact .inl rfl
  · split
    · exact .inr (.inl rfl)
    · exact .inr (.inr rfl)
theorem sgn_zero (z : Int) : sgn z = 0 ↔ z = 0 := by
  unfold sgn
  split <;> (try split) <;> omega
theorem sgn_trans (a b c : Int) (h1 : sgn (a - b) ≤ 0) (h2 : sgn (b - c) ≤ 0) : sgn (a - c) ≤ 0 ∧ (sgn (a - c) < 0 ∨ sgn (a - b) = 0 ∧ sgn (b - c) = 0) := by
  unfold sgn at *
  split at h1 <;> (try split at h1) <;> split at h2 <;> (try split at h2) <;> split <;> (try split) <;> omega
end Go.Proofs.YtfjelkjlfcafgaaGreatDoor.NumC
end
section
/- The law NumOrder, walked. -/
namespace Go.Proofs.YtfjelkjlfcafgaaGreatDoor.NumO
open Go Go.RowKit Go.Proofs.YtfjelkjlfcafgaaGreatDoor.Ax Go.Proofs.YtfjelkjlfcafgaaGreatDoor.Ti Go.Proofs.YtfjelkjlfcafgaaGreatDoor.BigM Go.Proofs.YtfjelkjlfcafgaaGreatDoor.NumC Go.Proofs.YtfjelkjlfcafgaaGreatDoor.NumA Go.Proofs.YtfjelkjlfcafgaaGreatDoor.NumB Go.Proofs.YtfjelkjlfcafgaaGreatDoor.NumY
set_option linter.unusedSimpArgs false
set_option linter.unusedVariables false
set_option maxRecDepth 4000
set_option maxHeartbeats 2000000
theorem rTI : type_of% (cj @ti3 (cj @ti2 (cj @ti4 (cj @ti9 (cj @ti5 (cj @ti24 (cj @ti25 (cj @ti45 (cj @ti43 @ti41))))))))) := cj @ti3 (cj @ti2 (cj @ti4 (cj @ti9 (cj @ti5 (cj @ti24 (cj @ti25 (cj @ti45 (cj @ti43 @ti41))))))))

theorem ofN_good (m k : Int) (h : validN m k = true) : BigT.Good (RefM.ofN m k).1 (RefM.ofN m k).2 := by
  obtain ⟨m1, m2, k1, k2⟩ := validN_m m k h
  obtain ⟨l1, l2⟩ := ofN_lw2 m k m1 m2 k1 k2
  refine ⟨RefM.ofN_pos m k, ?_, by omega, by omega⟩
  unfold RefM.ofN
  split
  · exact low_one' m _ (by have := Nat.pow_pos (n := (-k).toNat) (show 0 < 10 by omega); omega)
  · exact Nat.gcd_one_right _
/-- What the law asks of the signs. -/
def c3 (a x b y : Int) : Int := RefC.sgn (V a x - V b y)
theorem cmp3 (a x b y : Int) (ha : validN a x = true) (hb : validN b y = true) : RefM.cmpNN a x b y = .tp [.v (.int .i64 (c3 a x b y)), .v (.int .i64 0)] := by
  rw [cmpNN_eq, if_pos ⟨ha, hb⟩]
  have := sgn_val a x b y (valid_k a x ha) (valid_k b y hb)
  unfold c3
  rw [← this]
  rfl
theorem rat3 (a x b y : Int) (ha : validN a x = true) (hb : validN b y = true) : BigI.sgn ((RefM.ofN a x).1 * (RefM.ofN b y).2 - (RefM.ofN b y).1 * (RefM.ofN a x).2) = c3 a x b y := by
  have := sgn_val a x b y (valid_k a x ha) (valid_k b y hb)
  unfold c3
  rw [← this]
  rfl
theorem c3_eq (a x b y : Int) (ha : validN a x = true) (hb : validN b y = true) : c3 a x b y = 0 ↔ a = b ∧ x = y := by
  unfold c3
  rw [sgn_zero]
  constructor
  · intro h; exact V_inj a x b y ha hb (by omega)
  · rintro ⟨rfl, rfl⟩; omega
theorem c3_neg (a x b y : Int) : c3 b y a x = -c3 a x b y := sgn_neg _ _
theorem c3_three (a x b y : Int) : c3 a x b y = -1 ∨ c3 a x b y = 0 ∨ c3 a x b y = 1 := sgn_three _
theorem c3_trans (a x b y c z : Int) (h1 : c3 a x b y ≤ 0) (h2 : c3 b y c z ≤ 0) : c3 a x c z ≤ 0 ∧ (c3 a x c z < 0 ∨ c3 a x b y = 0 ∧ c3 b y c z = 0) := sgn_trans _ _ _ h1 h2
theorem order_ax (a x b y c z : Int) : PCall Tryz.prog 7 [NM a x, NM b y, NM c z] (.v (.bool true)) := by
  refine pcall_of fun s => ?_
  have pa := RefM.valid_ax a x
  have pb := RefM.valid_ax b y
  have pc := RefM.valid_ax c z
  by_cases ha : validN a x = true
  · by_cases hb : validN b y = true
    · by_cases hc : validN c z = true
      · have q1 := cmp_ax a x b y
        have q2 := cmp_ax b y a x
        have q3 := cmp_ax b y c z
        have q4 := cmp_ax a x c z
        rw [cmp3 _ _ _ _ (by assumption) (by assumption)] at q1 q2 q3 q4
        have v1 := value_ax a x
        have v2 := value_ax b y
        rw [valueN_eq, if_pos (by assumption)] at v1 v2
        have r1 := BigT.ratCmp_ax _ _ _ _ (ofN_good a x ha) (ofN_good b y hb)
        rw [rat3 _ _ _ _ ha hb] at r1
        have t1 := c3_eq a x b y ha hb
        have t2 := c3_trans a x b y c z
        rw [c3_neg a x b y] at q2
        have t3 := c3_three a x b y
        have t4 := c3_three b y c z
        have t5 := c3_three a x c z
        rw [show RefM.validN a x = true from ha] at pa
        rw [show RefM.validN b y = true from hb] at pb
        rw [show RefM.validN c z = true from hc] at pc
        generalize c3 a x b y = ab at *
        generalize c3 b y c z = bc at *
        generalize c3 a x c z = ac at *
        generalize (RefM.ofN a x).1 = n1 at *
        generalize (RefM.ofN a x).2 = d1 at *
        generalize (RefM.ofN b y).1 = n2 at *
        generalize (RefM.ofN b y).2 = d2 at *
        rw [BigS.rc_eq] at v1 v2
        rw [BigS.rc_eq, BigS.rc_eq] at r1
        unfold NM RefM.NM at *
        refine acall_of Tryz.func7 rfl rfl (by simp [Tryz.ntmps7]) ?_; rw [Tryz.ntmps7, Tryz.results7]
        (first | refine go trivial ?_ | exact go0 trivial)
        refine aw_reg fun K hK => ?_; refine rn (cj rTI (cj @BigA.wl_idf @BigA.wl_one)) ?_; refine cont_pure awake_ax ?_; refine rn (cj rTI (cj @BigA.wl_idf @BigA.wl_one)) ?_; refine hK _ _ ?_; clear hK K
        rw [then_normal]
        (try rw [then_normal]); (try refine aw_seq ?_); refine aw_cond rfl ?_ ?_ <;> intro hb <;> (try (cases hb; done)) <;> (try simp only [bq] at hb) <;> (try (exfalso; omega))
        (first | refine go trivial ?_ | exact go0 trivial)
        refine aw_reg fun K hK => ?_; refine rn (cj rTI (cj @BigA.wl_idf @BigA.wl_one)) ?_; refine cont_pure pa ?_; (first | refine rn (cj rTI (cj @BigA.wl_idf @BigA.wl_one)) ?_ | exact rn0 (cj rTI (cj @BigA.wl_idf @BigA.wl_one))); refine cont_pure pb ?_; (first | refine rn (cj rTI (cj @BigA.wl_idf @BigA.wl_one)) ?_ | exact rn0 (cj rTI (cj @BigA.wl_idf @BigA.wl_one))); refine cont_pure pc ?_; refine rn (cj rTI (cj @BigA.wl_idf @BigA.wl_one)) ?_; refine hK _ _ ?_; clear hK K
        (try rw [then_normal]); (try refine aw_seq ?_); refine aw_cond rfl ?_ ?_ <;> intro hb <;> (try (cases hb; done)) <;> (try simp only [bq] at hb) <;> (try (exfalso; omega))
        (first | refine go trivial ?_ | exact go0 trivial)
        refine aw_reg fun K hK => ?_; refine rn (cj rTI (cj @BigA.wl_idf @BigA.wl_one)) ?_; refine cont_pure q1 ?_; refine rn (cj rTI (cj @BigA.wl_idf @BigA.wl_one)) ?_; refine hK _ _ ?_; clear hK K
        rw [then_normal]
        (first | refine go trivial ?_ | exact go0 trivial)
        refine aw_reg fun K hK => ?_; refine rn (cj rTI (cj @BigA.wl_idf @BigA.wl_one)) ?_; refine cont_pure q2 ?_; refine rn (cj rTI (cj @BigA.wl_idf @BigA.wl_one)) ?_; refine hK _ _ ?_; clear hK K
        rw [then_normal]
        (first | refine go trivial ?_ | exact go0 trivial)
        refine aw_reg fun K hK => ?_; refine rn (cj rTI (cj @BigA.wl_idf @BigA.wl_one)) ?_; refine cont_pure q3 ?_; refine rn (cj rTI (cj @BigA.wl_idf @BigA.wl_one)) ?_; refine hK _ _ ?_; clear hK K
        rw [then_normal]
        (first | refine go trivial ?_ | exact go0 trivial)
        refine aw_reg fun K hK => ?_; refine rn (cj rTI (cj @BigA.wl_idf @BigA.wl_one)) ?_; refine cont_pure q4 ?_; refine rn (cj rTI (cj @BigA.wl_idf @BigA.wl_one)) ?_; refine hK _ _ ?_; clear hK K
        rw [then_normal]
        (first | refine go trivial ?_ | exact go0 trivial)
        refine aw_reg fun K hK => ?_; refine rn (cj rTI (cj @BigA.wl_idf @BigA.wl_one)) ?_; refine cont_pure v1 ?_; refine rn (cj rTI (cj @BigA.wl_idf @BigA.wl_one)) ?_; refine hK _ _ ?_; clear hK K
        rw [then_normal]
        (first | refine go trivial ?_ | exact go0 trivial)
        refine aw_reg fun K hK => ?_; refine rn (cj rTI (cj @BigA.wl_idf @BigA.wl_one)) ?_; refine cont_pure v2 ?_; refine rn (cj rTI (cj @BigA.wl_idf @BigA.wl_one)) ?_; refine hK _ _ ?_; clear hK K
        rw [then_normal]
        (first | refine go trivial ?_ | exact go0 trivial)
        refine aw_reg fun K hK => ?_; refine rn (cj rTI (cj @BigA.wl_idf @BigA.wl_one)) ?_; refine cont_pure r1 ?_; refine rn (cj rTI (cj @BigA.wl_idf @BigA.wl_one)) ?_; refine hK _ _ ?_; clear hK K
        rw [then_normal]
        clear q1 q2 q3 q4 v1 v2 r1 pa pb pc
        have tn : ab = 0 ∨ ((a == b && x == y) = false ∧ (ab = -1 ∨ ab = 1)) := by
          rcases t3 with h | h | h
          · refine .inr ⟨?_, .inl h⟩
            rw [Bool.eq_false_iff]; intro q; simp only [Bool.and_eq_true, beq_iff_eq] at q; have := t1.2 q; omega
          · exact .inl h
          · refine .inr ⟨?_, .inr h⟩
            rw [Bool.eq_false_iff]; intro q; simp only [Bool.and_eq_true, beq_iff_eq] at q; have := t1.2 q; omega
        rcases tn with rfl | ⟨hne, rfl | rfl⟩
        · obtain ⟨rfl, rfl⟩ := t1.1 rfl
          (first | refine go (cj rTI (cj @BigA.wl_idf (cj @BigA.wl_one @eq_num))) ?_ | exact go0 (cj rTI (cj @BigA.wl_idf (cj @BigA.wl_one @eq_num))))
          (try rw [then_normal]); (try refine aw_seq ?_); refine aw_cond rfl ?_ ?_ <;> intro hb <;> (try (cases hb; done)) <;> (try simp only [bq] at hb) <;> (try (exfalso; omega))
          rcases t4 with rfl | rfl | rfl <;> rcases t5 with rfl | rfl | rfl
          all_goals first
            | (exfalso; have := t2 (by omega) (by omega); omega)
            | ((first | refine go (cj rTI (cj @BigA.wl_idf (cj @BigA.wl_one @eq_num))) ?_ | exact go0 (cj rTI (cj @BigA.wl_idf (cj @BigA.wl_one @eq_num)))); (repeat' refine And.intro ?_ ?_) <;> (first | done | exact rfl | (intro i hi; exact rn0 trivial; done) | (exact rn0 trivial; done) | skip))
        · (first | refine go (cj rTI (cj @BigA.wl_idf (cj @BigA.wl_one (cj @eq_num @hne)))) ?_ | exact go0 (cj rTI (cj @BigA.wl_idf (cj @BigA.wl_one (cj @eq_num @hne)))))
          (try rw [then_normal]); (try refine aw_seq ?_); refine aw_cond rfl ?_ ?_ <;> intro hb <;> (try (cases hb; done)) <;> (try simp only [bq] at hb) <;> (try (exfalso; omega))
          rcases t4 with rfl | rfl | rfl <;> rcases t5 with rfl | rfl | rfl
          all_goals first
            | (exfalso; have := t2 (by omega) (by omega); omega)
            | ((first | refine go (cj rTI (cj @BigA.wl_idf (cj @BigA.wl_one @eq_num))) ?_ | exact go0 (cj rTI (cj @BigA.wl_idf (cj @BigA.wl_one @eq_num)))); (repeat' refine And.intro ?_ ?_) <;> (first | done | exact rfl | (intro i hi; exact rn0 trivial; done) | (exact rn0 trivial; done) | skip))
        · (first | refine go (cj rTI (cj @BigA.wl_idf (cj @BigA.wl_one (cj @eq_num @hne)))) ?_ | exact go0 (cj rTI (cj @BigA.wl_idf (cj @BigA.wl_one (cj @eq_num @hne)))))
          (try rw [then_normal]); (try refine aw_seq ?_); refine aw_cond rfl ?_ ?_ <;> intro hb <;> (try (cases hb; done)) <;> (try simp only [bq] at hb) <;> (try (exfalso; omega))
          rcases t4 with rfl | rfl | rfl <;> rcases t5 with rfl | rfl | rfl
          all_goals first
            | (exfalso; have := t2 (by omega) (by omega); omega)
            | ((first | refine go (cj rTI (cj @BigA.wl_idf (cj @BigA.wl_one @eq_num))) ?_ | exact go0 (cj rTI (cj @BigA.wl_idf (cj @BigA.wl_one @eq_num)))); (repeat' refine And.intro ?_ ?_) <;> (first | done | exact rfl | (intro i hi; exact rn0 trivial; done) | (exact rn0 trivial; done) | skip))
      · have hc' : RefM.validN c z = false := Bool.eq_false_iff.2 hc
        rw [show RefM.validN a x = true from ha] at pa
        rw [show RefM.validN b y = true from hb] at pb
        rw [hc'] at pc
        unfold NM RefM.NM at *
        refine acall_of Tryz.func7 rfl rfl (by simp [Tryz.ntmps7]) ?_; rw [Tryz.ntmps7, Tryz.results7]
        (first | refine go trivial ?_ | exact go0 trivial)
        refine aw_reg fun K hK => ?_; refine rn (cj rTI (cj @BigA.wl_idf @BigA.wl_one)) ?_; refine cont_pure awake_ax ?_; refine rn (cj rTI (cj @BigA.wl_idf @BigA.wl_one)) ?_; refine hK _ _ ?_; clear hK K
        rw [then_normal]
        (try rw [then_normal]); (try refine aw_seq ?_); refine aw_cond rfl ?_ ?_ <;> intro hb <;> (try (cases hb; done)) <;> (try simp only [bq] at hb) <;> (try (exfalso; omega))
        (first | refine go trivial ?_ | exact go0 trivial)
        refine aw_reg fun K hK => ?_; refine rn (cj rTI (cj @BigA.wl_idf @BigA.wl_one)) ?_; refine cont_pure pa ?_; (first | refine rn (cj rTI (cj @BigA.wl_idf @BigA.wl_one)) ?_ | exact rn0 (cj rTI (cj @BigA.wl_idf @BigA.wl_one))); refine cont_pure pb ?_; (first | refine rn (cj rTI (cj @BigA.wl_idf @BigA.wl_one)) ?_ | exact rn0 (cj rTI (cj @BigA.wl_idf @BigA.wl_one))); refine cont_pure pc ?_; refine rn (cj rTI (cj @BigA.wl_idf @BigA.wl_one)) ?_; refine hK _ _ ?_; clear hK K
        (try rw [then_normal]); (try refine aw_seq ?_); refine aw_cond rfl ?_ ?_ <;> intro hb <;> (try (cases hb; done)) <;> (try simp only [bq] at hb) <;> (try (exfalso; omega))
        (first | refine go trivial ?_ | exact go0 trivial)
        (repeat' refine And.intro ?_ ?_) <;> (first | done | exact rfl | (intro i hi; exact rn0 trivial; done) | (exact rn0 trivial; done) | skip)
    · have hb' : RefM.validN b y = false := Bool.eq_false_iff.2 hb
      rw [show RefM.validN a x = true from ha] at pa
      rw [hb'] at pb
      unfold NM RefM.NM at *
      refine acall_of Tryz.func7 rfl rfl (by simp [Tryz.ntmps7]) ?_; rw [Tryz.ntmps7, Tryz.results7]
      (first | refine go trivial ?_ | exact go0 trivial)
      refine aw_reg fun K hK => ?_; refine rn (cj rTI (cj @BigA.wl_idf @BigA.wl_one)) ?_; refine cont_pure awake_ax ?_; refine rn (cj rTI (cj @BigA.wl_idf @BigA.wl_one)) ?_; refine hK _ _ ?_; clear hK K
      rw [then_normal]
      (try rw [then_normal]); (try refine aw_seq ?_); refine aw_cond rfl ?_ ?_ <;> intro hb <;> (try (cases hb; done)) <;> (try simp only [bq] at hb) <;> (try (exfalso; omega))
      (first | refine go trivial ?_ | exact go0 trivial)
      refine aw_reg fun K hK => ?_; refine rn (cj rTI (cj @BigA.wl_idf @BigA.wl_one)) ?_; refine cont_pure pa ?_; (first | refine rn (cj rTI (cj @BigA.wl_idf @BigA.wl_one)) ?_ | exact rn0 (cj rTI (cj @BigA.wl_idf @BigA.wl_one))); refine cont_pure pb ?_; refine rn (cj rTI (cj @BigA.wl_idf @BigA.wl_one)) ?_; refine hK _ _ ?_; clear hK K
      (try rw [then_normal]); (try refine aw_seq ?_); refine aw_cond rfl ?_ ?_ <;> intro hb <;> (try (cases hb; done)) <;> (try simp only [bq] at hb) <;> (try (exfalso; omega))
      (first | refine go trivial ?_ | exact go0 trivial)
      (repeat' refine And.intro ?_ ?_) <;> (first | done | exact rfl | (intro i hi; exact rn0 trivial; done) | (exact rn0 trivial; done) | skip)
  · have ha' : RefM.validN a x = false := Bool.eq_false_iff.2 ha
    rw [ha'] at pa
    unfold NM RefM.NM at *
    refine acall_of Tryz.func7 rfl rfl (by simp [Tryz.ntmps7]) ?_; rw [Tryz.ntmps7, Tryz.results7]
    (first | refine go trivial ?_ | exact go0 trivial)
    refine aw_reg fun K hK => ?_; refine rn (cj rTI (cj @BigA.wl_idf @BigA.wl_one)) ?_; refine cont_pure awake_ax ?_; refine rn (cj rTI (cj @BigA.wl_idf @BigA.wl_one)) ?_; refine hK _ _ ?_; clear hK K
    rw [then_normal]
    (try rw [then_normal]); (try refine aw_seq ?_); refine aw_cond rfl ?_ ?_ <;> intro hb <;> (try (cases hb; done)) <;> (try simp only [bq] at hb) <;> (try (exfalso; omega))
    (first | refine go trivial ?_ | exact go0 trivial)
    refine aw_reg fun K hK => ?_; refine rn (cj rTI (cj @BigA.wl_idf @BigA.wl_one)) ?_; refine cont_pure pa ?_; refine rn (cj rTI (cj @BigA.wl_idf @BigA.wl_one)) ?_; refine hK _ _ ?_; clear hK K
    (try rw [then_normal]); (try refine aw_seq ?_); refine aw_cond rfl ?_ ?_ <;> intro hb <;> (try (cases hb; done)) <;> (try simp only [bq] at hb) <;> (try (exfalso; omega))
    (first | refine go trivial ?_ | exact go0 trivial)
    (repeat' refine And.intro ?_ ?_) <;> (first | done | exact rfl | (intro i hi; exact rn0 trivial; done) | (exact rn0 trivial; done) | skip)
end Go.Proofs.YtfjelkjlfcafgaaGreatDoor.NumO
end
section
/- The document's reading of a number, place by place: plain. -/
namespace Go.Proofs.YtfjelkjlfcafgaaGreatDoor.NumQ
open Go.Proofs.YtfjelkjlfcafgaaGreatDoor.BigM Go.Proofs.YtfjelkjlfcafgaaGreatDoor.NumS Go.Proofs.YtfjelkjlfcafgaaGreatDoor.NumP Go.Proofs.YtfjelkjlfcafgaaGreatDoor.NumT Go.Proofs.YtfjelkjlfcafgaaGreatDoor.NumU Go.Proofs.YtfjelkjlfcafgaaGreatDoor.NumW
/-- At the place p of r: has a point been met, the digits' number, the exponent. -/
def At (r : List Nat) (p : Nat) (pt : Bool) (a : Nat) (x : Int) : Prop :=
  (pt = false ∧ p ≤ (fr r).length ∧ a = digV (r.take p) ∧ x = 0) ∨
  (pt = true ∧ ∃ q j, bk r = 46 :: q ∧ fr r ≠ [] ∧ fr q ≠ [] ∧ j ≤ (fr q).length ∧ p = (fr r).length + 1 + j ∧ a = digV (fr r ++ q.take j) ∧ x = -(j : Int))
theorem at_zero (r : List Nat) : At r 0 false 0 0 := .inl ⟨rfl, Nat.zero_le _, rfl, rfl⟩
theorem pt_get (r q : List Nat) (h : bk r = 46 :: q) (j : Nat) : r.getD ((fr r).length + 1 + j) 0 = q.getD j 0 := by
  have e := fr_bk r
  rw [h] at e
  generalize fr r = f at *
  subst e
  rw [List.getD_eq_getElem?_getD, List.getElem?_append_right (by omega), show f.length + 1 + j - f.length = j + 1 by omega, List.getElem?_cons_succ, List.getD_eq_getElem?_getD]
theorem pt_drop (r q : List Nat) (h : bk r = 46 :: q) (j : Nat) : r.drop ((fr r).length + 1 + j) = q.drop j := by
  have e := fr_bk r
  rw [h] at e
  generalize fr r = f at *
  subst e
  rw [List.drop_append, List.drop_of_length_le (by omega), List.nil_append, show f.length + 1 + j - f.length = j + 1 by omega]
  rfl
theorem pt_len (r q : List Nat) (h : bk r = 46 :: q) : r.length = (fr r).length + 1 + q.length := by
  have e := congrArg List.length (fr_bk r)
  rw [h, List.length_append, List.length_cons] at e
  omega
theorem at_le {r : List Nat} {p : Nat} {pt : Bool} {a : Nat} {x : Int} (h : At r p pt a x) : p ≤ r.length ∧ -(r.length : Int) ≤ x ∧ x ≤ 0 := by
  rcases h with ⟨_, h1, _, h2⟩ | ⟨_, q, j, h1, _, _, h2, h3, _, h4⟩
  · have := fr_le r; omega
  · have := fr_le q; have := pt_len r q h1; omega
theorem at_lt {r : List Nat} {p : Nat} {pt : Bool} {a : Nat} {x : Int} (h : At r p pt a x) : a < 10 ^ r.length := by
  have mono : ∀ i : Nat, i ≤ r.length → (10 : Nat) ^ i ≤ 10 ^ r.length := fun i hi => Nat.pow_le_pow_right (by decide) hi
  rcases h with ⟨_, h1, h2, _⟩ | ⟨_, q, j, h1, _, _, h2, h3, h4, _⟩
  · rw [h2]
    have hf := fr_le r
    have e : r.take p = (fr r).take p := by
      conv => lhs; rw [← fr_bk r]
      rw [List.take_append_of_le_length h1]
    refine Nat.lt_of_lt_of_le (dig_lt _ fun c hc => ?_) (mono _ ?_)
    · rw [e] at hc; exact fr_all r c (List.mem_of_mem_take hc)
    · rw [List.length_take]; omega
  · rw [h4]
    have hf := fr_le q
    have hl := pt_len r q h1
    have e : q.take j = (fr q).take j := by
      conv => lhs; rw [← fr_bk q]
      rw [List.take_append_of_le_length h2]
    refine Nat.lt_of_lt_of_le (dig_lt _ fun c hc => ?_) (mono _ ?_)
    · rcases List.mem_append.1 hc with hc | hc
      · exact fr_all r c hc
      · rw [e] at hc; exact fr_all q c (List.mem_of_mem_take hc)
    · rw [List.length_append, List.length_take]; omega
theorem at_dig {r : List Nat} {p : Nat} {pt : Bool} {a : Nat} {x : Int} (h : At r p pt a x) (hp : p < r.length) (hd : isD (r.getD p 0) = true) : At r (p + 1) pt (10 * a + (r.getD p 0 - 48)) (if pt then x - 1 else x) := by
  rcases h with ⟨rfl, h1, h2, h3⟩ | ⟨rfl, q, j, h1, h5, h6, h2, h3, h4, h7⟩
  · have hlt : p < (fr r).length := by
      rcases Nat.lt_or_ge p (fr r).length with q | q
      · exact q
      · have e : p = (fr r).length := by omega
        rw [e, run_stop r (by omega)] at hd
        cases hd
    refine .inl ⟨rfl, by omega, ?_, h3⟩
    rw [h2, take_snoc r p hp, digV_snoc]
  · rw [h3, pt_get r q h1] at hd ⊢
    have hl := pt_len r q h1
    have hq : j < q.length := by omega
    have hlt : j < (fr q).length := by
      rcases Nat.lt_or_ge j (fr q).length with q' | q'
      · exact q'
      · have e : j = (fr q).length := by omega
        rw [e, run_stop q (by omega)] at hd
        cases hd
    refine .inr ⟨rfl, q, j + 1, h1, h5, h6, by omega, by omega, ?_, ?_⟩
    · rw [h4, take_snoc q j hq, ← List.append_assoc, digV_snoc]
    · simp only [if_true]; omega
theorem at_pt {r : List Nat} {p : Nat} {a : Nat} {x : Int} (h : At r p false a x) (hp : p < r.length) (hc : r.getD p 0 = 46) : p = (fr r).length ∧ bk r = 46 :: r.drop (p + 1) ∧ a = digV (fr r) ∧ x = 0 := by
  rcases h with ⟨_, h1, h2, h3⟩ | ⟨h, _⟩
  · have e : p = (fr r).length := by
      rcases Nat.lt_or_ge p (fr r).length with q | q
      · have := (run_step r p q).2
        rw [hc] at this
        cases this
      · omega
    refine ⟨e, ?_, ?_, h3⟩
    · rw [← bk_drop, ← e, List.drop_eq_getElem_cons hp]
      rw [List.getD_eq_getElem?_getD, List.getElem?_eq_getElem hp] at hc
      rw [show r[p] = 46 from hc]
    · rw [h2, e, fr_take]
  · cases h
theorem fr_head (q : List Nat) : fr q ≠ [] ↔ 0 < q.length ∧ isD (q.getD 0 0) = true := by
  cases q with
  | nil => simp [fr]
  | cons c q =>
    rw [fr]
    by_cases h : isD c = true
    · simp [h]
    · simp [h]
theorem drop_get (r : List Nat) (p i : Nat) : (r.drop p).getD i 0 = r.getD (p + i) 0 := by
  rw [List.getD_eq_getElem?_getD, List.getElem?_drop, List.getD_eq_getElem?_getD]
theorem at_bad {r : List Nat} {p : Nat} {a : Nat} {x : Int} (neg : Bool) (h : At r p false a x) (hp : p < r.length) (hc : r.getD p 0 = 46) (h0 : 0 < p) (hb : p + 1 < r.length → isD (r.getD (p + 1) 0) = false) : bodyS neg r = (0, 0, 3) := by
  obtain ⟨h1, h2, h3, h4⟩ := at_pt h hp hc
  have hne : fr r ≠ [] := fun e => by rw [e] at h1; simp at h1; omega
  rw [body_pt neg r _ hne h2, if_pos]
  rcases Decidable.em (fr (r.drop (p + 1)) = []) with q | q
  · exact q
  · obtain ⟨g1, g2⟩ := (fr_head _).1 q
    rw [List.length_drop] at g1
    rw [drop_get, Nat.add_zero, hb (by omega)] at g2
    cases g2
theorem at_dot {r : List Nat} {p : Nat} {a : Nat} {x : Int} (h : At r p false a x) (hp : p < r.length) (hc : r.getD p 0 = 46) (h0 : 0 < p) (hb : p + 1 < r.length) (hd : isD (r.getD (p + 1) 0) = true) : At r (p + 1) true a x := by
  obtain ⟨h1, h2, h3, h4⟩ := at_pt h hp hc
  refine .inr ⟨rfl, r.drop (p + 1), 0, h2, fun e => by rw [e] at h1; simp at h1; omega, (fr_head _).2 ⟨by rw [List.length_drop]; omega, by rw [drop_get]; exact hd⟩, Nat.zero_le _, by omega, by rw [h3, List.take_zero, List.append_nil], by rw [h4]; rfl⟩
theorem at_none {r : List Nat} {a : Nat} {x : Int} {pt : Bool} (neg : Bool) (_h : At r 0 pt a x) (he : 0 < r.length → isD (r.getD 0 0) = false) : bodyS neg r = (0, 0, 3) := by
  unfold bodyS
  rw [if_pos]
  rcases Decidable.em (fr r = []) with q | q
  · exact q
  · obtain ⟨g1, g2⟩ := (fr_head _).1 q
    rw [he g1] at g2
    cases g2
theorem at_end {r : List Nat} {p : Nat} {a : Nat} {x : Int} {pt : Bool} (neg : Bool) (h : At r p pt a x) (h0 : 0 < p) (he : p < r.length → isD (r.getD p 0) = false ∧ ¬ (r.getD p 0 = 46 ∧ pt = false)) :
    bodyS neg r = match lettersS (r.drop p) with
      | none => (0, 0, 3)
      | some e => finS neg a (x + e) := by
  rcases h with ⟨rfl, h1, h2, h3⟩ | ⟨rfl, q, j, h1, h5, h6, h2, h3, h4, h7⟩
  · have e : p = (fr r).length := by
      rcases Nat.lt_or_ge p (fr r).length with q | q
      · have := run_step r p q
        rw [(he this.1).1] at this
        cases this.2
      · omega
    have hne : fr r ≠ [] := fun e' => by rw [e'] at e; simp at e; omega
    have hpt : ¬ (bk r).head? = some 46 := by
      intro hh
      rw [← bk_drop, ← e] at hh
      have hl : p < r.length := by
        rcases Nat.lt_or_ge p r.length with q | q
        · exact q
        · rw [List.drop_of_length_le q] at hh; cases hh
      rw [List.drop_eq_getElem_cons hl, List.head?_cons] at hh
      injection hh with hh
      refine (he hl).2 ⟨?_, rfl⟩
      rw [List.getD_eq_getElem?_getD, List.getElem?_eq_getElem hl]
      exact hh
    rw [body_no neg r hne hpt, ← bk_drop, ← e, h2, h3, e, fr_take]
    unfold fin3
    rfl
  · have hl := pt_len r q h1
    rw [h3, pt_get r q h1] at he
    have e : j = (fr q).length := by
      rcases Nat.lt_or_ge j (fr q).length with q' | q'
      · have := run_step q j q'
        rw [(he (by omega)).1] at this
        cases this.2
      · omega
    rw [body_pt neg r q h5 h1, if_neg h6, h3, pt_drop r q h1, e, bk_drop, h4, h7, e, fr_take]
    unfold fin3
    rfl
end Go.Proofs.YtfjelkjlfcafgaaGreatDoor.NumQ
end
section
/- The document's Parse reads what parseS says. -/
namespace Go.Proofs.YtfjelkjlfcafgaaGreatDoor.NumR
open Go Go.RowKit Go.Proofs.YtfjelkjlfcafgaaGreatDoor.Ax Go.Proofs.YtfjelkjlfcafgaaGreatDoor.Ti Go.Proofs.YtfjelkjlfcafgaaGreatDoor.BigM Go.Proofs.YtfjelkjlfcafgaaGreatDoor.RefA Go.Proofs.YtfjelkjlfcafgaaGreatDoor.RefC Go.Proofs.YtfjelkjlfcafgaaGreatDoor.RefD Go.Proofs.YtfjelkjlfcafgaaGreatDoor.RefF Go.Proofs.YtfjelkjlfcafgaaGreatDoor.RefG Go.Proofs.YtfjelkjlfcafgaaGreatDoor.RefI Go.Proofs.YtfjelkjlfcafgaaGreatDoor.RefK Go.Proofs.YtfjelkjlfcafgaaGreatDoor.NumS Go.Proofs.YtfjelkjlfcafgaaGreatDoor.NumP Go.Proofs.YtfjelkjlfcafgaaGreatDoor.NumT Go.Proofs.YtfjelkjlfcafgaaGreatDoor.NumU Go.Proofs.YtfjelkjlfcafgaaGreatDoor.NumL Go.Proofs.YtfjelkjlfcafgaaGreatDoor.NumW Go.Proofs.YtfjelkjlfcafgaaGreatDoor.NumQ
set_option linter.unusedSimpArgs false
set_option linter.unusedVariables false
set_option maxRecDepth 4000
set_option maxHeartbeats 2000000
theorem rTI : type_of% (cj @ti3 (cj @ti2 (cj @ti4 (cj @ti9 (cj @ti5 (cj @ti24 @ti105)))))) := cj @ti3 (cj @ti2 (cj @ti4 (cj @ti9 (cj @ti5 (cj @ti24 @ti105)))))

/-- A box's cell read more loosely. -/
theorem aw_boxle {P : Program} {code : Code} {m0 : Nat} {e : Env} {s : St} {Q : Exit → Env → St → Prop} (i j : Nat) (c : List AV) (z z' : AV) (hi : s.get i = some c) (hj : c[j]? = some z) (hl : Le z z') (h : AW P code m0 e (s.set i (c.set j z')) Q) : AW P code m0 e s Q := by
  intro w0 kb k w a hk hs he
  obtain ⟨hc, hb⟩ := hs.box i c hi
  have alive : ∀ i' c', (s.set i (c.set j z')).get i' = some c' → ∃ c'', s.get i' = some c'' := fun i' c' h' => by
    by_cases q : i' = i
    · exact ⟨c, by rw [q]; exact hi⟩
    · rw [St.set_ne _ _ _ _ q] at h'; exact ⟨c', h'⟩
  refine h w0 kb k w a hk ⟨hs.m, hs.fz, fun i' c' h' => ?_, fun i' c' h' => ?_, fun i' j' c' d' h1 h2 => ?_, hs.shp, hs.tz⟩ he
  · obtain ⟨c'', h''⟩ := alive i' c' h'
    exact hs.lt i' c'' h''
  · by_cases q : i' = i
    · subst q
      rw [St.set_same] at h'
      injection h' with h'
      subst h'
      refine ⟨by simpa using hc, fun j' hj2 => ?_⟩
      obtain ⟨x, f1, f2, f3, f4⟩ := hb j' hj2
      refine ⟨x, f1, f2, f3, fun y hy => ?_⟩
      by_cases ej : j = j'
      · subst ej
        have hlt : j < c.length := (List.getElem?_eq_some_iff.1 hj).1
        rw [List.getElem?_set_self hlt] at hy
        injection hy with hy
        subst hy
        exact hl _ _ (f4 _ hj)
      · rw [List.getElem?_set_ne ej] at hy
        exact f4 y hy
    · rw [St.set_ne _ _ _ _ q] at h'
      exact hs.box i' c' h'
  · obtain ⟨c'', h1'⟩ := alive i' c' h1
    obtain ⟨d'', h2'⟩ := alive j' d' h2
    exact hs.sep i' j' c'' d'' h1' h2'
theorem ten_le (m k a : Nat) (hm : 0 < m) (h : m * 10 ^ k = a) (ha : a < 10 ^ 34) : k ≤ 34 := by
  rcases Nat.lt_or_ge 34 k with q | q
  · have h1 : 10 ^ 34 ≤ 10 ^ k := Nat.pow_le_pow_right (by decide) (by omega)
    have h2 : 10 ^ k ≤ m * 10 ^ k := Nat.le_mul_of_pos_left _ hm
    omega
  · exact q
theorem fin_strip (neg : Bool) (a m : Nat) (x y : Int) (ha : 0 < a) (hm : m % 10 ≠ 0) (h : strip a x = strip m y) : finS neg a x = if m ≤ 999999999 ∧ -18 ≤ y ∧ y ≤ 9 then (if neg then -(m : Int) else m, y, 0) else (0, 0, 30) := by
  unfold finS
  rw [if_neg (by omega), h, strip_stop m y (by omega)]
theorem valid_strip (neg : Bool) (m : Nat) (y : Int) (hm : m % 10 ≠ 0) : RefM.validN (if neg then -(m : Int) else m) y = decide (m ≤ 999999999 ∧ -18 ≤ y ∧ y ≤ 9) := by
  unfold RefM.validN
  rw [if_neg (by
    rw [tmod10]
    cases neg
    · simpa using hm
    · simpa using hm)]
  cases neg
  · simp only [Bool.false_eq_true, if_false]
    rw [Bool.eq_iff_iff]
    simp only [Bool.and_eq_true, decide_eq_true_eq]
    omega
  · simp only [if_true]
    rw [Bool.eq_iff_iff]
    simp only [Bool.and_eq_true, decide_eq_true_eq]
    omega
/-- At the loop that strips the noughts. -/
structure StI (s : St) (neg : Bool) (a m : Nat) (y x v : Int) (e : Env) (s' : St) : Prop where
  en : e.n = 144
  hm : 0 < m
  hk : ∃ k : Nat, m * 10 ^ k = a ∧ y = x + v + k
  e2 : e.m 2 = .ptr s.nx 0
  e5 : e.m 5 = .v (.bool neg)
  e7 : e.m 7 = .ptr (s.nx + 1) 0
  e8 : e.m 8 = .ptr (s.nx + 2) 0
  e9 : e.m 9 = .v (.int .i64 y)
  g0 : s'.get s.nx = some [.v (.int .i64 0), .v (.int .i64 0)]
  g1 : s'.get (s.nx + 1) = some [.v (.bool (ng m)), .sl (lz m) (DL (digs B (m : Int).natAbs))]
  g2 : s'.get (s.nx + 2) = some [.v (.bool (ng 10)), .sl (lz 10) (DL (digs B (10 : Int).natAbs))]
  nx : s.nx + 3 ≤ s'.nx
  fr : ∀ i, i < s.nx → s'.get i = s.get i
/-- At the digits' loop. -/
structure PI (s : St) (l : List Nat) (neg : Bool) (b : Nat) (p : Nat) (pt : Bool) (a : Nat) (x : Int) (e : Env) (s' : St) : Prop where
  en : e.n = 144
  at' : At (l.drop b) p pt a x
  e0 : e.m 0 = .v (.string (bs l))
  e2 : e.m 2 = .ptr s.nx 0
  e4 : e.m 4 = .v (.int .i64 ((b + p : Nat) : Int))
  e5 : e.m 5 = .v (.bool neg)
  e6 : e.m 6 = .v (.int .i64 (b : Int))
  e7 : e.m 7 = .ptr (s.nx + 1) 0
  e8 : e.m 8 = .ptr (s.nx + 2) 0
  e9 : e.m 9 = .v (.int .i64 x)
  e10 : e.m 10 = .v (.bool pt)
  g0 : s'.get s.nx = some [.v (.int .i64 0), .v (.int .i64 0)]
  g1 : s'.get (s.nx + 1) = some [.v (.bool (ng a)), .sl (lz a) (DL (digs B (a : Int).natAbs))]
  g2 : s'.get (s.nx + 2) = some [.v (.bool (ng 10)), .sl (lz 10) (DL (digs B (10 : Int).natAbs))]
  nx : s'.nx = s.nx + 3
  fr : ∀ i, i < s.nx → s'.get i = s.get i
theorem lz_dec (a : Nat) (h : a < 10 ^ 34) : lz (a : Int) ≤ 10 := (ln_lt _ 10).1 (by
  rw [Int.natAbs_natCast]
  exact Nat.lt_of_lt_of_le h (by decide))
theorem getD_drop (l : List Nat) (b p : Nat) : (l.drop b).getD p 0 = l.getD (b + p) 0 := by
  rw [List.getD_eq_getElem?_getD, List.getElem?_drop, List.getD_eq_getElem?_getD]
/-- Behind the digits. -/
def PE (s : St) (l : List Nat) (neg : Bool) (b : Nat) (e : Env) (s' : St) : Prop :=
  ∃ (p : Nat) (pt : Bool) (a : Nat) (x : Int), PI s l neg b p pt a x e s' ∧ (p = 0 → bodyS neg (l.drop b) = (0, 0, 3)) ∧ (0 < p → bodyS neg (l.drop b) = match lettersS ((l.drop b).drop p) with
      | none => (0, 0, 3)
      | some v => finS neg a (x + v))
theorem parseD_ax (l : List Nat) (h : By l) (hl : l.length ≤ 1000000000) : PCall Tryz.prog 15 [.v (.string (bs l))] (parseV (parseS l)) := by
  refine pcall_of fun s => ?_
  rw [show idf (parseV (parseS l)) = true from rfl]
  have l1 := bs_size l
  by_cases q32 : 32 < l.length
  · rw [show parseS l = (0, 0, 3) by unfold parseS; rw [if_pos q32]]
    show ACall _ _ _ _ fun r' s' => r' = .tp [.ag [.v (.int .i64 0), .v (.int .i64 0)], .v (.int .i64 3)] ∧ _
    refine acall_of Tryz.func15 rfl rfl (by simp [Tryz.ntmps15]) ?_; rw [Tryz.ntmps15, Tryz.results15]
    (first | refine go (cj rTI (cj @dl_idf (cj @dl_ln (cj @dl_one @l1)))) ?_ | exact go0 (cj rTI (cj @dl_idf (cj @dl_ln (cj @dl_one @l1)))))
    (try rw [then_normal]); (try refine aw_seq ?_); refine aw_cond rfl ?_ ?_ <;> intro hb <;> (try (cases hb; done)) <;> (try simp only [bq] at hb) <;> (try (exfalso; omega))
    (first | refine go (cj rTI (cj @dl_idf (cj @dl_ln @dl_one))) ?_ | exact go0 (cj rTI (cj @dl_idf (cj @dl_ln @dl_one))))
    exact fun i hi => by rw [if_neg (by omega)]
  · obtain ⟨neg, hneg⟩ : ∃ neg, neg = decide (l.head? = some 45) := ⟨_, rfl⟩
    obtain ⟨b, hb0⟩ : ∃ b : Nat, b = if neg then 1 else 0 := ⟨_, rfl⟩
    have hcut : cut1 l 45 = l.drop b := by
      unfold cut1
      by_cases q : l.head? = some 45
      · rw [if_pos q, hb0, hneg, decide_eq_true q]; cases l <;> rfl
      · rw [if_neg q, hb0, hneg, decide_eq_false q]; rfl
    rw [parse_cut l (by omega), hcut, ← hneg]
    have p10 := small_ax 10 (by omega) (by omega)
    have hbl : b ≤ 1 := by rw [hb0]; split <;> omega
    have hbn : neg = true → 0 < l.length := fun q => by
      rw [hneg] at q
      cases l with
      | nil => simp at q
      | cons c t => simp
    refine acall_of Tryz.func15 rfl rfl (by simp [Tryz.ntmps15]) ?_; rw [Tryz.ntmps15, Tryz.results15]
    (first | refine go (cj rTI (cj @dl_idf (cj @dl_ln (cj @dl_one @l1)))) ?_ | exact go0 (cj rTI (cj @dl_idf (cj @dl_ln (cj @dl_one @l1)))))
    (try rw [then_normal]); (try refine aw_seq ?_); refine aw_cond rfl ?_ ?_ <;> intro hb <;> (try (cases hb; done)) <;> (try simp only [bq] at hb) <;> (try (exfalso; omega))
    refine aw_skip ?_
    refine aw_seq ?_
    refine aw_reg fun K hK => ?_; refine rn (cj rTI (cj @dl_idf (cj @dl_ln @dl_one))) ?_; refine hK _ _ ?_; clear hK K
    refine aw_mid (fun e s' => e.n = 144 ∧ e.m 0 = .v (.string (bs l)) ∧ e.m 2 = .ptr s.nx 0 ∧ e.m 4 = .v (.int .i64 0) ∧ e.m 5 = .v (.bool neg) ∧ s' = s.push [.v (.int .i64 0), .v (.int .i64 0)]) ?_ ?_
    · have hg := bs_get l h 0
      have z0 : Int.toNat 0 = 0 := rfl
      cases l with
      | nil =>
        subst hneg
        have l1' : (bs []).size = 0 := l1
        refine aw_reg fun K hK => ?_; refine rn (cj rTI (cj @dl_idf (cj @dl_ln (cj @dl_one @l1')))) ?_; refine hK _ _ ?_; clear hK K
        (repeat' refine And.intro ?_ ?_) <;> (first | done | exact rfl | (intro i hi; exact rn0 trivial; done) | (exact rn0 trivial; done) | skip)
      | cons c t =>
        have hc : c < 256 := h c (List.mem_cons_self ..)
        rw [List.getD_cons_zero] at hg
        rw [List.length_cons] at l1
        have e2 : decide ((c :: t).head? = some 45) = decide (c = 45) := by simp
        rw [e2] at hneg
        generalize bs (c :: t) = W at *
        clear e2
        by_cases q : c = 45
        · subst q
          subst hneg
          refine aw_reg fun K hK => ?_; refine rn (cj rTI (cj @dl_idf (cj @dl_ln (cj @dl_one (cj @l1 (cj @z0 @hg)))))) ?_; refine hK _ _ ?_; clear hK K
          (repeat' refine And.intro ?_ ?_) <;> (first | done | exact rfl | (intro i hi; exact rn0 trivial; done) | (exact rn0 trivial; done) | skip)
        · rw [decide_eq_false q] at hneg
          subst hneg
          refine aw_reg fun K hK => ?_; refine rn (cj rTI (cj @dl_idf (cj @dl_ln (cj @dl_one (cj @l1 (cj @z0 @hg)))))) ?_; refine hK _ _ ?_; clear hK K
          (repeat' refine And.intro ?_ ?_) <;> (first | done | exact rfl | (intro i hi; exact rn0 trivial; done) | (exact rn0 trivial; done) | skip)
    · rintro e s' ⟨h1, k0, k2, k4, k5, rfl⟩
      refine aw_mid (fun e s' => e.n = 144 ∧ e.m 0 = .v (.string (bs l)) ∧ e.m 2 = .ptr s.nx 0 ∧ e.m 4 = .v (.int .i64 (b : Int)) ∧ e.m 5 = .v (.bool neg) ∧ s' = s.push [.v (.int .i64 0), .v (.int .i64 0)]) ?_ ?_
      · cases neg
        · subst hb0
          (first | refine go (cj rTI (cj @dl_idf (cj @dl_ln (cj @dl_one (cj @h1 (cj @k0 (cj @k2 (cj @k4 @k5)))))))) ?_ | exact go0 (cj rTI (cj @dl_idf (cj @dl_ln (cj @dl_one (cj @h1 (cj @k0 (cj @k2 (cj @k4 @k5)))))))))
          (try rw [then_normal]); (try refine aw_seq ?_); refine aw_cond rfl ?_ ?_ <;> intro hb <;> (try (cases hb; done)) <;> (try simp only [bq] at hb) <;> (try (exfalso; omega))
          (first | refine go (cj rTI (cj @dl_idf (cj @dl_ln (cj @dl_one (cj @h1 (cj @k0 (cj @k2 (cj @k4 @k5)))))))) ?_ | exact go0 (cj rTI (cj @dl_idf (cj @dl_ln (cj @dl_one (cj @h1 (cj @k0 (cj @k2 (cj @k4 @k5)))))))))
          (repeat' refine And.intro ?_ ?_) <;> (first | done | exact rfl | (intro i hi; exact rn0 (cj rTI (cj @dl_idf (cj @dl_ln (cj @dl_one (cj @h1 (cj @k0 (cj @k2 (cj @k4 @k5)))))))); done) | (exact rn0 (cj rTI (cj @dl_idf (cj @dl_ln (cj @dl_one (cj @h1 (cj @k0 (cj @k2 (cj @k4 @k5)))))))); done) | skip)
        · subst hb0
          (first | refine go (cj rTI (cj @dl_idf (cj @dl_ln (cj @dl_one (cj @h1 (cj @k0 (cj @k2 (cj @k4 @k5)))))))) ?_ | exact go0 (cj rTI (cj @dl_idf (cj @dl_ln (cj @dl_one (cj @h1 (cj @k0 (cj @k2 (cj @k4 @k5)))))))))
          (try rw [then_normal]); (try refine aw_seq ?_); refine aw_cond rfl ?_ ?_ <;> intro hb <;> (try (cases hb; done)) <;> (try simp only [bq] at hb) <;> (try (exfalso; omega))
          (first | refine go (cj rTI (cj @dl_idf (cj @dl_ln (cj @dl_one (cj @h1 (cj @k0 (cj @k2 (cj @k4 @k5)))))))) ?_ | exact go0 (cj rTI (cj @dl_idf (cj @dl_ln (cj @dl_one (cj @h1 (cj @k0 (cj @k2 (cj @k4 @k5)))))))))
          (repeat' refine And.intro ?_ ?_) <;> (first | done | exact rfl | (intro i hi; exact rn0 (cj rTI (cj @dl_idf (cj @dl_ln (cj @dl_one (cj @h1 (cj @k0 (cj @k2 (cj @k4 @k5)))))))); done) | (exact rn0 (cj rTI (cj @dl_idf (cj @dl_ln (cj @dl_one (cj @h1 (cj @k0 (cj @k2 (cj @k4 @k5)))))))); done) | skip)
      · clear h1 k0 k2 k4 k5 e
        rintro e s' ⟨h1, k0, k2, k4, k5, rfl⟩
        have e10 := NI_eq 10
        rw [e10] at p10
        refine aw_seq ?_
        refine aw_reg fun K hK => ?_; refine rn (cj rTI (cj @dl_idf (cj @dl_ln (cj @dl_one (cj @h1 (cj @k0 (cj @k2 (cj @k4 @k5)))))))) ?_; refine hK _ _ ?_; clear hK K
        refine aw_seq ?_
        refine aw_reg fun K hK => ?_; refine rn (cj rTI (cj @dl_idf (cj @dl_ln (cj @dl_one (cj @h1 (cj @k0 (cj @k2 (cj @k4 @k5)))))))) ?_; refine hK _ _ ?_; clear hK K
        refine aw_seq ?_
        refine aw_reg fun K hK => ?_; refine rn (cj rTI (cj @dl_idf (cj @dl_ln (cj @dl_one (cj @h1 (cj @k0 (cj @k2 (cj @k4 @k5)))))))) ?_; refine cont_pure p10 ?_; refine rn (cj rTI (cj @dl_idf (cj @dl_ln (cj @dl_one (cj @h1 (cj @k0 (cj @k2 (cj @k4 @k5)))))))) ?_; refine hK _ _ ?_; clear hK K
        refine aw_seq ?_
        refine aw_reg fun K hK => ?_; refine rn (cj rTI (cj @dl_idf (cj @dl_ln (cj @dl_one (cj @h1 (cj @k0 (cj @k2 (cj @k4 @k5)))))))) ?_; refine hK _ _ ?_; clear hK K
        refine aw_seq ?_
        refine aw_reg fun K hK => ?_; refine rn (cj rTI (cj @dl_idf (cj @dl_ln (cj @dl_one (cj @h1 (cj @k0 (cj @k2 (cj @k4 @k5)))))))) ?_; refine hK _ _ ?_; clear hK K
        refine aw_seq ?_
        refine aw_boxle (s.nx + 1) 1 _ _ (.sl 0 []) (by (first | refine rn (cj rTI (cj @dl_idf (cj @dl_ln @dl_one))) ?_ | exact rn0 (cj rTI (cj @dl_idf (cj @dl_ln @dl_one)))); rfl) rfl (Le.nil 0 0 rfl) ?_
        refine Ax.aw_way (PE s l neg b) ?_ ?_
        · refine aw_block ?_
          refine aw_loop (fun n e s' => ∃ p pt a x, n = l.length - p ∧ PI s l neg b p pt a x e s') l.length ?_ ?_
          · refine ⟨0, false, 0, 0, by omega, ?_⟩
            constructor
            all_goals (first | exact at_zero _ | skip)
            all_goals ((repeat' refine And.intro ?_ ?_) <;> (first | done | exact rfl | (intro i hi; exact rn0 (cj rTI (cj @dl_idf (cj @dl_ln (cj @dl_one (cj @h1 (cj @k0 (cj @k2 (cj @k4 (cj @k5 @Nat.add_zero))))))))); done) | (exact rn0 (cj rTI (cj @dl_idf (cj @dl_ln (cj @dl_one (cj @h1 (cj @k0 (cj @k2 (cj @k4 (cj @k5 @Nat.add_zero))))))))); done) | skip))
            all_goals (rw [St.set_same]; simp [ng, lz, ln, DL, digs_zero])
          · clear h1 k0 k2 k4 k5 e
            rintro n e s' ⟨p, pt, a, x, hn, hI⟩
            have h1 := hI.en
            have k0 := hI.e0
            have k2 := hI.e2
            have k4 := hI.e4
            have k5 := hI.e5
            have k6 := hI.e6
            have k7 := hI.e7
            have k8 := hI.e8
            have k9 := hI.e9
            have k10 := hI.e10
            have g0 := hI.g0
            have g1 := hI.g1
            have g2 := hI.g2
            have hnx := hI.nx
            have hA := hI.at'
            obtain ⟨a1, a2, a3⟩ := at_le hA
            have a4 := at_lt hA
            have hld : (l.drop b).length = l.length - b := List.length_drop
            have hg := bs_get l h (b + p)
            have z3 : ((b + p : Nat) : Int) + 1 = ((b + (p + 1) : Nat) : Int) := by omega
            by_cases q : b + p < l.length
            · have hc : l.getD (b + p) 0 < 256 := by
                rw [List.getD_eq_getElem?_getD, List.getElem?_eq_getElem q]
                exact h _ (List.getElem_mem q)
              have hdg := isDigit_ax _ hc
              have hA2 := @at_dig (l.drop b) p pt a x hA (by omega)
              rw [getD_drop] at hA2
              by_cases q2 : isD (l.getD (b + p) 0) = true
              · obtain ⟨d1, d2⟩ := (isD_iff _).1 q2
                have hA3 := hA2 q2
                rw [q2] at hdg
                have a5 : a < 10 ^ 34 := Nat.lt_of_lt_of_le a4 (Nat.pow_le_pow_right (by decide) (by omega))
                clear a4 hA2 q2
                generalize l.getD (b + p) 0 = c at *
                have pt1 := timesN_ax a 10 (by have := lz_dec a a5; have : lz 10 ≤ 4 := lz_small 10 (by omega) (by omega); omega)
                have ps := small_ax ((c - 48 : Nat) : Int) (by omega) (by omega)
                have pp := plusN_ax ((a : Int) * 10) ((c - 48 : Nat) : Int) (by
                  have : lz ((a * 10 : Nat) : Int) ≤ 11 := (ln_lt _ 11).1 (by
                    rw [Int.natAbs_natCast]
                    exact Nat.lt_of_lt_of_le (show a * 10 < 10 ^ 35 by rw [Nat.pow_succ]; omega) (by decide))
                  have e : ((a * 10 : Nat) : Int) = (a : Int) * 10 := by omega
                  rw [e] at this
                  omega) (by have : lz ((c - 48 : Nat) : Int) ≤ 4 := lz_small _ (by omega) (by omega); omega)
                rw [show (a : Int) * 10 + ((c - 48 : Nat) : Int) = ((10 * a + (c - 48) : Nat) : Int) by omega] at pp
                simp only [NI_eq] at pt1 ps pp
                clear a5
                have z4 : (c : Int) - 48 = ((c - 48 : Nat) : Int) := by omega
                (first | refine go (cj rTI (cj @dl_idf (cj @dl_ln (cj @dl_one (cj @h1 (cj @k0 (cj @k4 @l1))))))) ?_ | exact go0 (cj rTI (cj @dl_idf (cj @dl_ln (cj @dl_one (cj @h1 (cj @k0 (cj @k4 @l1))))))))
                refine aw_reg fun K hK => ?_; refine rn (cj rTI (cj @dl_idf (cj @dl_ln (cj @dl_one (cj @h1 (cj @k0 (cj @k4 (cj @k6 (cj @k10 (cj @l1 @hg)))))))))) ?_; refine cont_pure hdg ?_; refine rn (cj rTI (cj @dl_idf (cj @dl_ln (cj @dl_one (cj @h1 (cj @k0 (cj @k4 (cj @k6 (cj @k10 (cj @l1 @hg)))))))))) ?_; refine hK _ _ ?_; clear hK K
                rw [then_normal]
                (try rw [then_normal]); (try refine aw_seq ?_); refine aw_cond rfl ?_ ?_ <;> intro hb <;> (try (cases hb; done)) <;> (try simp only [bq] at hb) <;> (try (exfalso; omega))
                (first | refine go (cj rTI (cj @dl_idf (cj @dl_ln (cj @dl_one (cj @h1 (cj @k0 (cj @k4 (cj @l1 @hg)))))))) ?_ | exact go0 (cj rTI (cj @dl_idf (cj @dl_ln (cj @dl_one (cj @h1 (cj @k0 (cj @k4 (cj @l1 @hg)))))))))
                (try rw [then_normal]); (try refine aw_seq ?_); refine aw_cond rfl ?_ ?_ <;> intro hb <;> (try (cases hb; done)) <;> (try simp only [bq] at hb) <;> (try (exfalso; omega))
                (first | refine go trivial ?_ | exact go0 trivial)
                refine aw_drwR (.take 0 (.take 1 (.take 3 (.take 4 (.take 5 (.take 6 (.take 7 (.one 2 (.one 8 (.one 9 (.done))))))))))) 10 [] [s.nx + 1, s.nx + 2] (by kernel_rfl) (by kernel_rfl) fun K hK => ?_; refine dt (cj rTI (cj @dl_idf (cj @dl_ln (cj @dl_one (cj @h1 (cj @k0 (cj @k4 (cj @k7 (cj @k8 (cj @l1 (cj @hg (cj @g1 (cj @g2 @z4))))))))))))) ?_; refine cont_pure pt1 ?_; refine dt (cj rTI (cj @dl_idf (cj @dl_ln (cj @dl_one (cj @h1 (cj @k0 (cj @k4 (cj @k7 (cj @k8 (cj @l1 (cj @hg (cj @g1 (cj @g2 @z4))))))))))))) ?_; refine cont_pure ps ?_; refine dt (cj rTI (cj @dl_idf (cj @dl_ln (cj @dl_one (cj @h1 (cj @k0 (cj @k4 (cj @k7 (cj @k8 (cj @l1 (cj @hg (cj @g1 (cj @g2 @z4))))))))))))) ?_; refine cont_pure pp ?_; refine dt (cj rTI (cj @dl_idf (cj @dl_ln (cj @dl_one (cj @h1 (cj @k0 (cj @k4 (cj @k7 (cj @k8 (cj @l1 (cj @hg (cj @g1 (cj @g2 @z4))))))))))))) ?_; refine hK _ _ ?_; clear hK K
                cases pt
                · simp only [Bool.false_eq_true, if_false] at hA3
                  (first | refine go (cj rTI (cj @dl_idf (cj @dl_ln (cj @dl_one (cj @k9 @k10))))) ?_ | exact go0 (cj rTI (cj @dl_idf (cj @dl_ln (cj @dl_one (cj @k9 @k10))))))
                  (try rw [then_normal]); (try refine aw_seq ?_); refine aw_cond rfl ?_ ?_ <;> intro hb <;> (try (cases hb; done)) <;> (try simp only [bq] at hb) <;> (try (exfalso; omega))
                  (first | refine go (cj rTI (cj @dl_idf (cj @dl_ln (cj @dl_one (cj @h1 (cj @k4 (cj @k9 (cj @k10 @z3)))))))) ?_ | exact go0 (cj rTI (cj @dl_idf (cj @dl_ln (cj @dl_one (cj @h1 (cj @k4 (cj @k9 (cj @k10 @z3)))))))))
                  simp only [block_normal, loop_normal]
                  refine ⟨l.length - (p + 1), by omega, p + 1, false, 10 * a + (c - 48), x, rfl, ?_⟩
                  constructor
                  all_goals (first | exact hA3 | skip)
                  all_goals ((repeat' refine And.intro ?_ ?_) <;> (first | done | exact rfl | (intro i hi; exact rn0 (cj rTI (cj @dl_idf (cj @dl_ln (cj @dl_one (cj @h1 (cj @k0 (cj @k2 (cj @k4 (cj @k5 (cj @k6 (cj @k7 (cj @k8 (cj @k9 (cj @k10 (cj @g0 (cj @g1 (cj @g2 (cj @hnx @z3)))))))))))))))))); done) | (exact rn0 (cj rTI (cj @dl_idf (cj @dl_ln (cj @dl_one (cj @h1 (cj @k0 (cj @k2 (cj @k4 (cj @k5 (cj @k6 (cj @k7 (cj @k8 (cj @k9 (cj @k10 (cj @g0 (cj @g1 (cj @g2 (cj @hnx @z3)))))))))))))))))); done) | skip))
                  all_goals ((repeat' refine And.intro ?_ ?_) <;> (first | done | exact rfl | (intro i hi; exact rn0 (cj rTI (cj @dl_idf (cj @dl_ln (cj @dl_one (hI.fr i hi))))); done) | (exact rn0 (cj rTI (cj @dl_idf (cj @dl_ln (cj @dl_one (hI.fr i hi))))); done) | skip))
                · simp only [if_true] at hA3
                  (first | refine go (cj rTI (cj @dl_idf (cj @dl_ln (cj @dl_one (cj @k9 @k10))))) ?_ | exact go0 (cj rTI (cj @dl_idf (cj @dl_ln (cj @dl_one (cj @k9 @k10))))))
                  (try rw [then_normal]); (try refine aw_seq ?_); refine aw_cond rfl ?_ ?_ <;> intro hb <;> (try (cases hb; done)) <;> (try simp only [bq] at hb) <;> (try (exfalso; omega))
                  (first | refine go (cj rTI (cj @dl_idf (cj @dl_ln (cj @dl_one (cj @h1 (cj @k4 (cj @k9 (cj @k10 @z3)))))))) ?_ | exact go0 (cj rTI (cj @dl_idf (cj @dl_ln (cj @dl_one (cj @h1 (cj @k4 (cj @k9 (cj @k10 @z3)))))))))
                  simp only [block_normal, loop_normal]
                  refine ⟨l.length - (p + 1), by omega, p + 1, true, 10 * a + (c - 48), x - 1, rfl, ?_⟩
                  constructor
                  all_goals (first | exact hA3 | skip)
                  all_goals ((repeat' refine And.intro ?_ ?_) <;> (first | done | exact rfl | (intro i hi; exact rn0 (cj rTI (cj @dl_idf (cj @dl_ln (cj @dl_one (cj @h1 (cj @k0 (cj @k2 (cj @k4 (cj @k5 (cj @k6 (cj @k7 (cj @k8 (cj @k9 (cj @k10 (cj @g0 (cj @g1 (cj @g2 (cj @hnx @z3)))))))))))))))))); done) | (exact rn0 (cj rTI (cj @dl_idf (cj @dl_ln (cj @dl_one (cj @h1 (cj @k0 (cj @k2 (cj @k4 (cj @k5 (cj @k6 (cj @k7 (cj @k8 (cj @k9 (cj @k10 (cj @g0 (cj @g1 (cj @g2 (cj @hnx @z3)))))))))))))))))); done) | skip))
                  all_goals ((repeat' refine And.intro ?_ ?_) <;> (first | done | exact rfl | (intro i hi; exact rn0 (cj rTI (cj @dl_idf (cj @dl_ln (cj @dl_one (hI.fr i hi))))); done) | (exact rn0 (cj rTI (cj @dl_idf (cj @dl_ln (cj @dl_one (hI.fr i hi))))); done) | skip))
              · have q3 : isD (l.getD (b + p) 0) = false := by simpa using q2
                rw [q3] at hdg
                clear hA2 q2 a4
                have hB := @at_bad (l.drop b) p a x neg
                have hD := @at_dot (l.drop b) p a x
                have hE := @at_end (l.drop b) p a x pt neg hA
                have hN := @at_none (l.drop b) a x pt neg
                simp only [getD_drop] at hB hD hE hN
                have hq : l.getD (b + p) 0 = 46 ∧ pt = false ∧ 0 < p ∨ ¬ (l.getD (b + p) 0 = 46 ∧ pt = false ∧ 0 < p) := Decidable.em _
                rcases hq with ⟨c46, rfl, hp⟩ | hq
                · rw [c46] at hg hdg
                  have hb46 := fun hh => hB hA (by omega) c46 hp hh
                  have hd46 := fun h1 h2 => hD hA (by omega) c46 hp h1 h2
                  have hg2 := bs_get l h (b + (p + 1))
                  by_cases q5 : b + (p + 1) < l.length
                  · have hc2 : l.getD (b + (p + 1)) 0 < 256 := by
                      rw [List.getD_eq_getElem?_getD, List.getElem?_eq_getElem q5]
                      exact h _ (List.getElem_mem q5)
                    have hdg2 := isDigit_ax _ hc2
                    by_cases q6 : isD (l.getD (b + (p + 1)) 0) = true
                    · rw [q6] at hdg2
                      have hA4 := hd46 (by omega) q6
                      clear hb46 hd46 hB hD hE hN
                      generalize l.getD (b + (p + 1)) 0 = c2 at *
                      (first | refine go (cj rTI (cj @dl_idf (cj @dl_ln (cj @dl_one (cj @h1 (cj @k0 (cj @k4 @l1))))))) ?_ | exact go0 (cj rTI (cj @dl_idf (cj @dl_ln (cj @dl_one (cj @h1 (cj @k0 (cj @k4 @l1))))))))
                      refine aw_reg fun K hK => ?_; refine rn (cj rTI (cj @dl_idf (cj @dl_ln (cj @dl_one (cj @h1 (cj @k0 (cj @k4 (cj @k6 (cj @k10 (cj @l1 @hg)))))))))) ?_; refine cont_pure hdg ?_; refine rn (cj rTI (cj @dl_idf (cj @dl_ln (cj @dl_one (cj @h1 (cj @k0 (cj @k4 (cj @k6 (cj @k10 (cj @l1 @hg)))))))))) ?_; refine hK _ _ ?_; clear hK K
                      rw [then_normal]
                      (try rw [then_normal]); (try refine aw_seq ?_); refine aw_cond rfl ?_ ?_ <;> intro hb <;> (try (cases hb; done)) <;> (try simp only [bq] at hb) <;> (try (exfalso; omega))
                      (first | refine go (cj rTI (cj @dl_idf (cj @dl_ln (cj @dl_one (cj @h1 (cj @k0 (cj @k4 @l1))))))) ?_ | exact go0 (cj rTI (cj @dl_idf (cj @dl_ln (cj @dl_one (cj @h1 (cj @k0 (cj @k4 @l1))))))))
                      (try rw [then_normal]); (try refine aw_seq ?_); refine aw_cond rfl ?_ ?_ <;> intro hb <;> (try (cases hb; done)) <;> (try simp only [bq] at hb) <;> (try (exfalso; omega))
                      (first | refine go trivial ?_ | exact go0 trivial)
                      refine aw_reg fun K hK => ?_; refine rn (cj rTI (cj @dl_idf (cj @dl_ln (cj @dl_one (cj @h1 (cj @k0 (cj @k4 (cj @l1 (cj @z3 @hg2))))))))) ?_; refine cont_pure hdg2 ?_; refine rn (cj rTI (cj @dl_idf (cj @dl_ln (cj @dl_one (cj @h1 (cj @k0 (cj @k4 (cj @l1 (cj @z3 @hg2))))))))) ?_; refine hK _ _ ?_; clear hK K
                      rw [then_normal]
                      (try rw [then_normal]); (try refine aw_seq ?_); refine aw_cond rfl ?_ ?_ <;> intro hb <;> (try (cases hb; done)) <;> (try simp only [bq] at hb) <;> (try (exfalso; omega))
                      (first | refine go (cj rTI (cj @dl_idf (cj @dl_ln (cj @dl_one (cj @h1 (cj @k4 @z3)))))) ?_ | exact go0 (cj rTI (cj @dl_idf (cj @dl_ln (cj @dl_one (cj @h1 (cj @k4 @z3)))))))
                      simp only [block_normal, loop_normal]
                      refine ⟨l.length - (p + 1), by omega, p + 1, true, a, x, rfl, ?_⟩
                      constructor
                      all_goals (first | exact hA4 | exact g0 | exact g1 | exact g2 | exact hnx | exact hI.fr | skip)
                      all_goals ((repeat' refine And.intro ?_ ?_) <;> (first | done | exact rfl | (intro i hi; exact rn0 (cj rTI (cj @dl_idf (cj @dl_ln (cj @dl_one (cj @h1 (cj @k0 (cj @k2 (cj @k4 (cj @k5 (cj @k6 (cj @k7 (cj @k8 (cj @k9 (cj @k10 @z3)))))))))))))); done) | (exact rn0 (cj rTI (cj @dl_idf (cj @dl_ln (cj @dl_one (cj @h1 (cj @k0 (cj @k2 (cj @k4 (cj @k5 (cj @k6 (cj @k7 (cj @k8 (cj @k9 (cj @k10 @z3)))))))))))))); done) | skip))
                    · have q7 : isD (l.getD (b + (p + 1)) 0) = false := by simpa using q6
                      rw [q7] at hdg2
                      rw [hb46 fun _ => q7, show parseV (0, 0, 3) = .tp [.ag [.v (.int .i64 0), .v (.int .i64 0)], .v (.int .i64 3)] from rfl]
                      clear hb46 hd46 hB hD hE hN
                      generalize l.getD (b + (p + 1)) 0 = c2 at *
                      (first | refine go (cj rTI (cj @dl_idf (cj @dl_ln (cj @dl_one (cj @h1 (cj @k0 (cj @k4 @l1))))))) ?_ | exact go0 (cj rTI (cj @dl_idf (cj @dl_ln (cj @dl_one (cj @h1 (cj @k0 (cj @k4 @l1))))))))
                      refine aw_reg fun K hK => ?_; refine rn (cj rTI (cj @dl_idf (cj @dl_ln (cj @dl_one (cj @h1 (cj @k0 (cj @k4 (cj @k6 (cj @k10 (cj @l1 @hg)))))))))) ?_; refine cont_pure hdg ?_; refine rn (cj rTI (cj @dl_idf (cj @dl_ln (cj @dl_one (cj @h1 (cj @k0 (cj @k4 (cj @k6 (cj @k10 (cj @l1 @hg)))))))))) ?_; refine hK _ _ ?_; clear hK K
                      rw [then_normal]
                      (try rw [then_normal]); (try refine aw_seq ?_); refine aw_cond rfl ?_ ?_ <;> intro hb <;> (try (cases hb; done)) <;> (try simp only [bq] at hb) <;> (try (exfalso; omega))
                      (first | refine go (cj rTI (cj @dl_idf (cj @dl_ln (cj @dl_one (cj @h1 (cj @k0 (cj @k4 @l1))))))) ?_ | exact go0 (cj rTI (cj @dl_idf (cj @dl_ln (cj @dl_one (cj @h1 (cj @k0 (cj @k4 @l1))))))))
                      (try rw [then_normal]); (try refine aw_seq ?_); refine aw_cond rfl ?_ ?_ <;> intro hb <;> (try (cases hb; done)) <;> (try simp only [bq] at hb) <;> (try (exfalso; omega))
                      (first | refine go trivial ?_ | exact go0 trivial)
                      refine aw_reg fun K hK => ?_; refine rn (cj rTI (cj @dl_idf (cj @dl_ln (cj @dl_one (cj @h1 (cj @k0 (cj @k4 (cj @l1 (cj @z3 @hg2))))))))) ?_; refine cont_pure hdg2 ?_; refine rn (cj rTI (cj @dl_idf (cj @dl_ln (cj @dl_one (cj @h1 (cj @k0 (cj @k4 (cj @l1 (cj @z3 @hg2))))))))) ?_; refine hK _ _ ?_; clear hK K
                      rw [then_normal]
                      (try rw [then_normal]); (try refine aw_seq ?_); refine aw_cond rfl ?_ ?_ <;> intro hb <;> (try (cases hb; done)) <;> (try simp only [bq] at hb) <;> (try (exfalso; omega))
                      (first | refine go (cj rTI (cj @dl_idf (cj @dl_ln (cj @dl_one (cj @h1 (cj @k2 @g0)))))) ?_ | exact go0 (cj rTI (cj @dl_idf (cj @dl_ln (cj @dl_one (cj @h1 (cj @k2 @g0)))))))
                      exact .inr fun i hi => by rw [if_neg (by omega)]; exact hI.fr i hi
                  · rw [hb46 fun hh => absurd hh (by omega), show parseV (0, 0, 3) = .tp [.ag [.v (.int .i64 0), .v (.int .i64 0)], .v (.int .i64 3)] from rfl]
                    clear hb46 hd46 hB hD hE hN
                    (first | refine go (cj rTI (cj @dl_idf (cj @dl_ln (cj @dl_one (cj @h1 (cj @k0 (cj @k4 @l1))))))) ?_ | exact go0 (cj rTI (cj @dl_idf (cj @dl_ln (cj @dl_one (cj @h1 (cj @k0 (cj @k4 @l1))))))))
                    refine aw_reg fun K hK => ?_; refine rn (cj rTI (cj @dl_idf (cj @dl_ln (cj @dl_one (cj @h1 (cj @k0 (cj @k4 (cj @k6 (cj @k10 (cj @l1 @hg)))))))))) ?_; refine cont_pure hdg ?_; refine rn (cj rTI (cj @dl_idf (cj @dl_ln (cj @dl_one (cj @h1 (cj @k0 (cj @k4 (cj @k6 (cj @k10 (cj @l1 @hg)))))))))) ?_; refine hK _ _ ?_; clear hK K
                    rw [then_normal]
                    (try rw [then_normal]); (try refine aw_seq ?_); refine aw_cond rfl ?_ ?_ <;> intro hb <;> (try (cases hb; done)) <;> (try simp only [bq] at hb) <;> (try (exfalso; omega))
                    (first | refine go (cj rTI (cj @dl_idf (cj @dl_ln (cj @dl_one (cj @h1 (cj @k0 (cj @k4 @l1))))))) ?_ | exact go0 (cj rTI (cj @dl_idf (cj @dl_ln (cj @dl_one (cj @h1 (cj @k0 (cj @k4 @l1))))))))
                    (try rw [then_normal]); (try refine aw_seq ?_); refine aw_cond rfl ?_ ?_ <;> intro hb <;> (try (cases hb; done)) <;> (try simp only [bq] at hb) <;> (try (exfalso; omega))
                    (first | refine go (cj rTI (cj @dl_idf (cj @dl_ln (cj @dl_one (cj @h1 (cj @k0 (cj @k4 (cj @l1 @z3)))))))) ?_ | exact go0 (cj rTI (cj @dl_idf (cj @dl_ln (cj @dl_one (cj @h1 (cj @k0 (cj @k4 (cj @l1 @z3)))))))))
                    (try rw [then_normal]); (try refine aw_seq ?_); refine aw_cond rfl ?_ ?_ <;> intro hb <;> (try (cases hb; done)) <;> (try simp only [bq] at hb) <;> (try (exfalso; omega))
                    (first | refine go (cj rTI (cj @dl_idf (cj @dl_ln (cj @dl_one (cj @h1 (cj @k2 @g0)))))) ?_ | exact go0 (cj rTI (cj @dl_idf (cj @dl_ln (cj @dl_one (cj @h1 (cj @k2 @g0)))))))
                    exact .inr fun i hi => by rw [if_neg (by omega)]; exact hI.fr i hi
                · by_cases c46 : l.getD (b + p) 0 = 46
                  · rw [c46] at hg hdg
                    cases pt
                    · obtain rfl : p = 0 := by
                        rcases Nat.eq_zero_or_pos p with q | q
                        · exact q
                        · exact absurd ⟨c46, rfl, q⟩ hq
                      (first | refine go (cj rTI (cj @dl_idf (cj @dl_ln (cj @dl_one (cj @h1 (cj @k0 (cj @k4 @l1))))))) ?_ | exact go0 (cj rTI (cj @dl_idf (cj @dl_ln (cj @dl_one (cj @h1 (cj @k0 (cj @k4 @l1))))))))
                      refine aw_reg fun K hK => ?_; refine rn (cj rTI (cj @dl_idf (cj @dl_ln (cj @dl_one (cj @h1 (cj @k0 (cj @k4 (cj @k6 (cj @k10 (cj @l1 @hg)))))))))) ?_; refine cont_pure hdg ?_; refine rn (cj rTI (cj @dl_idf (cj @dl_ln (cj @dl_one (cj @h1 (cj @k0 (cj @k4 (cj @k6 (cj @k10 (cj @l1 @hg)))))))))) ?_; refine hK _ _ ?_; clear hK K
                      rw [then_normal]
                      (try rw [then_normal]); (try refine aw_seq ?_); refine aw_cond rfl ?_ ?_ <;> intro hb <;> (try (cases hb; done)) <;> (try simp only [bq] at hb) <;> (try (exfalso; omega))
                      (first | refine go (cj rTI (cj @dl_idf (cj @dl_ln (cj @dl_one (cj @h1 (cj @k0 (cj @k4 @l1))))))) ?_ | exact go0 (cj rTI (cj @dl_idf (cj @dl_ln (cj @dl_one (cj @h1 (cj @k0 (cj @k4 @l1))))))))
                      refine .inl ⟨0, false, a, x, ?_, fun hp => ?_, fun hp => ?_⟩
                      · constructor
                        all_goals (first | exact hA | exact g0 | exact g1 | exact g2 | exact hnx | exact hI.fr | skip)
                        all_goals ((repeat' refine And.intro ?_ ?_) <;> (first | done | exact rfl | (intro i hi; exact rn0 (cj rTI (cj @dl_idf (cj @dl_ln (cj @dl_one (cj @h1 (cj @k0 (cj @k2 (cj @k4 (cj @k5 (cj @k6 (cj @k7 (cj @k8 (cj @k9 @k10))))))))))))); done) | (exact rn0 (cj rTI (cj @dl_idf (cj @dl_ln (cj @dl_one (cj @h1 (cj @k0 (cj @k2 (cj @k4 (cj @k5 (cj @k6 (cj @k7 (cj @k8 (cj @k9 @k10))))))))))))); done) | skip))
                      · skip
                        exact hN hA (fun _ => q3)
                      · exact hE hp fun _ => ⟨q3, fun hh => hq ⟨hh.1, hh.2, hp⟩⟩
                    · skip
                      (first | refine go (cj rTI (cj @dl_idf (cj @dl_ln (cj @dl_one (cj @h1 (cj @k0 (cj @k4 @l1))))))) ?_ | exact go0 (cj rTI (cj @dl_idf (cj @dl_ln (cj @dl_one (cj @h1 (cj @k0 (cj @k4 @l1))))))))
                      refine aw_reg fun K hK => ?_; refine rn (cj rTI (cj @dl_idf (cj @dl_ln (cj @dl_one (cj @h1 (cj @k0 (cj @k4 (cj @k6 (cj @k10 (cj @l1 @hg)))))))))) ?_; refine cont_pure hdg ?_; refine rn (cj rTI (cj @dl_idf (cj @dl_ln (cj @dl_one (cj @h1 (cj @k0 (cj @k4 (cj @k6 (cj @k10 (cj @l1 @hg)))))))))) ?_; refine hK _ _ ?_; clear hK K
                      rw [then_normal]
                      (try rw [then_normal]); (try refine aw_seq ?_); refine aw_cond rfl ?_ ?_ <;> intro hb <;> (try (cases hb; done)) <;> (try simp only [bq] at hb) <;> (try (exfalso; omega))
                      (first | refine go (cj rTI (cj @dl_idf (cj @dl_ln (cj @dl_one (cj @h1 (cj @k0 (cj @k4 @l1))))))) ?_ | exact go0 (cj rTI (cj @dl_idf (cj @dl_ln (cj @dl_one (cj @h1 (cj @k0 (cj @k4 @l1))))))))
                      refine .inl ⟨p, true, a, x, ?_, fun hp => ?_, fun hp => ?_⟩
                      · constructor
                        all_goals (first | exact hA | exact g0 | exact g1 | exact g2 | exact hnx | exact hI.fr | skip)
                        all_goals ((repeat' refine And.intro ?_ ?_) <;> (first | done | exact rfl | (intro i hi; exact rn0 (cj rTI (cj @dl_idf (cj @dl_ln (cj @dl_one (cj @h1 (cj @k0 (cj @k2 (cj @k4 (cj @k5 (cj @k6 (cj @k7 (cj @k8 (cj @k9 @k10))))))))))))); done) | (exact rn0 (cj rTI (cj @dl_idf (cj @dl_ln (cj @dl_one (cj @h1 (cj @k0 (cj @k2 (cj @k4 (cj @k5 (cj @k6 (cj @k7 (cj @k8 (cj @k9 @k10))))))))))))); done) | skip))
                      · subst hp
                        exact hN hA (fun _ => q3)
                      · exact hE hp fun _ => ⟨q3, fun hh => hq ⟨hh.1, hh.2, hp⟩⟩
                  · have hne := c46
                    clear c46
                    have hcc : l.getD (b + p) 0 < 256 := hc
                    generalize hcd : l.getD (b + p) 0 = c at *
                    (first | refine go (cj rTI (cj @dl_idf (cj @dl_ln (cj @dl_one (cj @h1 (cj @k0 (cj @k4 @l1))))))) ?_ | exact go0 (cj rTI (cj @dl_idf (cj @dl_ln (cj @dl_one (cj @h1 (cj @k0 (cj @k4 @l1))))))))
                    refine aw_reg fun K hK => ?_; refine rn (cj rTI (cj @dl_idf (cj @dl_ln (cj @dl_one (cj @h1 (cj @k0 (cj @k4 (cj @k6 (cj @k10 (cj @l1 @hg)))))))))) ?_; refine cont_pure hdg ?_; refine rn (cj rTI (cj @dl_idf (cj @dl_ln (cj @dl_one (cj @h1 (cj @k0 (cj @k4 (cj @k6 (cj @k10 (cj @l1 @hg)))))))))) ?_; refine hK _ _ ?_; clear hK K
                    rw [then_normal]
                    (try rw [then_normal]); (try refine aw_seq ?_); refine aw_cond rfl ?_ ?_ <;> intro hb <;> (try (cases hb; done)) <;> (try simp only [bq] at hb) <;> (try (exfalso; omega))
                    (first | refine go (cj rTI (cj @dl_idf (cj @dl_ln (cj @dl_one (cj @h1 (cj @k0 (cj @k4 @l1))))))) ?_ | exact go0 (cj rTI (cj @dl_idf (cj @dl_ln (cj @dl_one (cj @h1 (cj @k0 (cj @k4 @l1))))))))
                    refine .inl ⟨p, pt, a, x, ?_, fun hp => ?_, fun hp => ?_⟩
                    · constructor
                      all_goals (first | exact hA | exact g0 | exact g1 | exact g2 | exact hnx | exact hI.fr | skip)
                      all_goals ((repeat' refine And.intro ?_ ?_) <;> (first | done | exact rfl | (intro i hi; exact rn0 (cj rTI (cj @dl_idf (cj @dl_ln (cj @dl_one (cj @h1 (cj @k0 (cj @k2 (cj @k4 (cj @k5 (cj @k6 (cj @k7 (cj @k8 (cj @k9 @k10))))))))))))); done) | (exact rn0 (cj rTI (cj @dl_idf (cj @dl_ln (cj @dl_one (cj @h1 (cj @k0 (cj @k2 (cj @k4 (cj @k5 (cj @k6 (cj @k7 (cj @k8 (cj @k9 @k10))))))))))))); done) | skip))
                    · subst hp
                      exact hN hA (fun _ => by rw [hcd]; exact q3)
                    · exact hE hp fun _ => ⟨q3, fun hh => hq ⟨hh.1, hh.2, hp⟩⟩
            · (first | refine go (cj rTI (cj @dl_idf (cj @dl_ln (cj @dl_one (cj @h1 (cj @k0 (cj @k4 @l1))))))) ?_ | exact go0 (cj rTI (cj @dl_idf (cj @dl_ln (cj @dl_one (cj @h1 (cj @k0 (cj @k4 @l1))))))))
              (try rw [then_normal]); (try refine aw_seq ?_); refine aw_cond rfl ?_ ?_ <;> intro hb <;> (try (cases hb; done)) <;> (try simp only [bq] at hb) <;> (try (exfalso; omega))
              (first | refine go (cj rTI (cj @dl_idf (cj @dl_ln (cj @dl_one (cj @h1 (cj @k0 (cj @k4 @l1))))))) ?_ | exact go0 (cj rTI (cj @dl_idf (cj @dl_ln (cj @dl_one (cj @h1 (cj @k0 (cj @k4 @l1))))))))
              refine .inl ⟨p, pt, a, x, ?_, fun hp => ?_, fun hp => ?_⟩
              · constructor
                all_goals (first | exact hA | exact g0 | exact g1 | exact g2 | exact hnx | exact hI.fr | skip)
                all_goals ((repeat' refine And.intro ?_ ?_) <;> (first | done | exact rfl | (intro i hi; exact rn0 (cj rTI (cj @dl_idf (cj @dl_ln (cj @dl_one (cj @h1 (cj @k0 (cj @k2 (cj @k4 (cj @k5 (cj @k6 (cj @k7 (cj @k8 (cj @k9 @k10))))))))))))); done) | (exact rn0 (cj rTI (cj @dl_idf (cj @dl_ln (cj @dl_one (cj @h1 (cj @k0 (cj @k2 (cj @k4 (cj @k5 (cj @k6 (cj @k7 (cj @k8 (cj @k9 @k10))))))))))))); done) | skip))
              · subst hp
                exact at_none neg hA (fun hh => by omega)
              · exact at_end neg hA hp (fun hh => by omega)
        · clear h1 k0 k2 k4 k5 e
          rintro e s' ⟨p, pt, a, x, hI, f0, f1⟩
          have h1 := hI.en
          have k0 := hI.e0
          have k2 := hI.e2
          have k4 := hI.e4
          have k5 := hI.e5
          have k6 := hI.e6
          have k7 := hI.e7
          have k8 := hI.e8
          have k9 := hI.e9
          have g0 := hI.g0
          have g1 := hI.g1
          have g2 := hI.g2
          have hnx := hI.nx
          obtain ⟨a1, a2, a3⟩ := at_le hI.at'
          have a4 := at_lt hI.at'
          have hld : (l.drop b).length = l.length - b := List.length_drop
          have hxb : -32 ≤ x ∧ x ≤ 0 := by omega
          rw [List.drop_drop] at f1
          by_cases hp : p = 0
          · rw [f0 hp, show parseV (0, 0, 3) = .tp [.ag [.v (.int .i64 0), .v (.int .i64 0)], .v (.int .i64 3)] from rfl]
            (first | refine go (cj rTI (cj @dl_idf (cj @dl_ln (cj @dl_one (cj @h1 (cj @k4 @k6)))))) ?_ | exact go0 (cj rTI (cj @dl_idf (cj @dl_ln (cj @dl_one (cj @h1 (cj @k4 @k6)))))))
            (try rw [then_normal]); (try refine aw_seq ?_); refine aw_cond rfl ?_ ?_ <;> intro hb <;> (try (cases hb; done)) <;> (try simp only [bq] at hb) <;> (try (exfalso; omega))
            (first | refine go (cj rTI (cj @dl_idf (cj @dl_ln (cj @dl_one (cj @h1 (cj @k2 @g0)))))) ?_ | exact go0 (cj rTI (cj @dl_idf (cj @dl_ln (cj @dl_one (cj @h1 (cj @k2 @g0)))))))
            exact fun i hi => by rw [if_neg (by omega)]; exact hI.fr i hi
          · rw [f1 (by omega)]
            clear f0 f1
            have hb2 : By (l.drop (b + p)) := by_sub h fun c hc => List.mem_of_mem_drop hc
            have ht := tail_ax (l.drop (b + p)) hb2 (by rw [List.length_drop]; omega)
            have hsl := slice_from l (b + p) l.length rfl
            have tz : (((b + p : Nat) : Int)).toNat = b + p := rfl
            cases hv : lettersS (l.drop (b + p)) with
            | none =>
              rw [hv, show tailV none = .tp [.v (.int .i64 0), .v (.bool false)] from rfl] at ht
              show AW _ _ _ _ _ _
              rw [show parseV (0, 0, 3) = .tp [.ag [.v (.int .i64 0), .v (.int .i64 0)], .v (.int .i64 3)] from rfl]
              (first | refine go (cj rTI (cj @dl_idf (cj @dl_ln (cj @dl_one (cj @h1 (cj @k4 @k6)))))) ?_ | exact go0 (cj rTI (cj @dl_idf (cj @dl_ln (cj @dl_one (cj @h1 (cj @k4 @k6)))))))
              (try rw [then_normal]); (try refine aw_seq ?_); refine aw_cond rfl ?_ ?_ <;> intro hb <;> (try (cases hb; done)) <;> (try simp only [bq] at hb) <;> (try (exfalso; omega))
              (first | refine go trivial ?_ | exact go0 trivial)
              refine aw_reg fun K hK => ?_; refine rn (cj rTI (cj @dl_idf (cj @dl_ln (cj @dl_one (cj @h1 (cj @k0 (cj @k4 (cj @l1 (cj @hsl @tz))))))))) ?_; refine cont_pure ht ?_; refine rn (cj rTI (cj @dl_idf (cj @dl_ln (cj @dl_one (cj @h1 (cj @k0 (cj @k4 (cj @l1 (cj @hsl @tz))))))))) ?_; refine hK _ _ ?_; clear hK K
              rw [then_normal]
              (first | refine go trivial ?_ | exact go0 trivial)
              (try rw [then_normal]); (try refine aw_seq ?_); refine aw_cond rfl ?_ ?_ <;> intro hb <;> (try (cases hb; done)) <;> (try simp only [bq] at hb) <;> (try (exfalso; omega))
              (first | refine go (cj rTI (cj @dl_idf (cj @dl_ln (cj @dl_one (cj @h1 (cj @k2 @g0)))))) ?_ | exact go0 (cj rTI (cj @dl_idf (cj @dl_ln (cj @dl_one (cj @h1 (cj @k2 @g0)))))))
              exact fun i hi => by rw [if_neg (by omega)]; exact hI.fr i hi
            | some v =>
              obtain ⟨v1, v2⟩ := letters_bound _ _ hv
              rw [hv, show tailV (some v) = .tp [.v (.int .i64 v), .v (.bool true)] from rfl] at ht
              have hsg := sign_ax (a : Int)
              rw [NI_eq] at hsg
              simp only
              by_cases ha : a = 0
              · subst ha
                rw [show sgn ((0 : Nat) : Int) = 0 from rfl] at hsg
                rw [show finS neg 0 (x + v) = (0, 0, 0) by unfold finS; rw [if_pos rfl], show parseV (0, 0, 0) = .tp [.ag [.v (.int .i64 0), .v (.int .i64 0)], .v (.int .i64 0)] from rfl]
                (first | refine go (cj rTI (cj @dl_idf (cj @dl_ln (cj @dl_one (cj @h1 (cj @k4 @k6)))))) ?_ | exact go0 (cj rTI (cj @dl_idf (cj @dl_ln (cj @dl_one (cj @h1 (cj @k4 @k6)))))))
                (try rw [then_normal]); (try refine aw_seq ?_); refine aw_cond rfl ?_ ?_ <;> intro hb <;> (try (cases hb; done)) <;> (try simp only [bq] at hb) <;> (try (exfalso; omega))
                (first | refine go trivial ?_ | exact go0 trivial)
                refine aw_reg fun K hK => ?_; refine rn (cj rTI (cj @dl_idf (cj @dl_ln (cj @dl_one (cj @h1 (cj @k0 (cj @k4 (cj @l1 (cj @hsl @tz))))))))) ?_; refine cont_pure ht ?_; refine rn (cj rTI (cj @dl_idf (cj @dl_ln (cj @dl_one (cj @h1 (cj @k0 (cj @k4 (cj @l1 (cj @hsl @tz))))))))) ?_; refine hK _ _ ?_; clear hK K
                rw [then_normal]
                (first | refine go trivial ?_ | exact go0 trivial)
                (try rw [then_normal]); (try refine aw_seq ?_); refine aw_cond rfl ?_ ?_ <;> intro hb <;> (try (cases hb; done)) <;> (try simp only [bq] at hb) <;> (try (exfalso; omega))
                (first | refine go trivial ?_ | exact go0 trivial)
                refine aw_reg fun K hK => ?_; refine rn (cj rTI (cj @dl_idf (cj @dl_ln (cj @dl_one (cj @h1 (cj @k7 @g1)))))) ?_; refine cont_pure hsg ?_; refine rn (cj rTI (cj @dl_idf (cj @dl_ln (cj @dl_one (cj @h1 (cj @k7 @g1)))))) ?_; refine hK _ _ ?_; clear hK K
                rw [then_normal]
                (try rw [then_normal]); (try refine aw_seq ?_); refine aw_cond rfl ?_ ?_ <;> intro hb <;> (try (cases hb; done)) <;> (try simp only [bq] at hb) <;> (try (exfalso; omega))
                (first | refine go (cj rTI (cj @dl_idf (cj @dl_ln (cj @dl_one (cj @h1 (cj @k2 @g0)))))) ?_ | exact go0 (cj rTI (cj @dl_idf (cj @dl_ln (cj @dl_one (cj @h1 (cj @k2 @g0)))))))
                exact fun i hi => by rw [if_neg (by omega)]; exact hI.fr i hi
              · rw [show sgn (a : Int) = 1 by unfold sgn; rw [if_neg (by omega), if_neg (by omega)]] at hsg
                have a5 : a < 10 ^ 34 := Nat.lt_of_lt_of_le a4 (Nat.pow_le_pow_right (by decide) (by omega))
                (first | refine go (cj rTI (cj @dl_idf (cj @dl_ln (cj @dl_one (cj @h1 (cj @k4 @k6)))))) ?_ | exact go0 (cj rTI (cj @dl_idf (cj @dl_ln (cj @dl_one (cj @h1 (cj @k4 @k6)))))))
                (try rw [then_normal]); (try refine aw_seq ?_); refine aw_cond rfl ?_ ?_ <;> intro hb <;> (try (cases hb; done)) <;> (try simp only [bq] at hb) <;> (try (exfalso; omega))
                (first | refine go trivial ?_ | exact go0 trivial)
                refine aw_reg fun K hK => ?_; refine rn (cj rTI (cj @dl_idf (cj @dl_ln (cj @dl_one (cj @h1 (cj @k0 (cj @k4 (cj @l1 (cj @hsl @tz))))))))) ?_; refine cont_pure ht ?_; refine rn (cj rTI (cj @dl_idf (cj @dl_ln (cj @dl_one (cj @h1 (cj @k0 (cj @k4 (cj @l1 (cj @hsl @tz))))))))) ?_; refine hK _ _ ?_; clear hK K
                rw [then_normal]
                (first | refine go trivial ?_ | exact go0 trivial)
                (try rw [then_normal]); (try refine aw_seq ?_); refine aw_cond rfl ?_ ?_ <;> intro hb <;> (try (cases hb; done)) <;> (try simp only [bq] at hb) <;> (try (exfalso; omega))
                (first | refine go trivial ?_ | exact go0 trivial)
                refine aw_reg fun K hK => ?_; refine rn (cj rTI (cj @dl_idf (cj @dl_ln (cj @dl_one (cj @h1 (cj @k7 @g1)))))) ?_; refine cont_pure hsg ?_; refine rn (cj rTI (cj @dl_idf (cj @dl_ln (cj @dl_one (cj @h1 (cj @k7 @g1)))))) ?_; refine hK _ _ ?_; clear hK K
                rw [then_normal]
                (try rw [then_normal]); (try refine aw_seq ?_); refine aw_cond rfl ?_ ?_ <;> intro hb <;> (try (cases hb; done)) <;> (try simp only [bq] at hb) <;> (try (exfalso; omega))
                refine aw_skip ?_
                refine aw_seq ?_
                refine aw_reg fun K hK => ?_; refine rn (cj rTI (cj @dl_idf (cj @dl_ln (cj @dl_one (cj @h1 @k9))))) ?_; refine hK _ _ ?_; clear hK K
                refine aw_seq ?_
                refine aw_only (fun e s' => ∃ (m : Nat) (y : Int), StI s neg a m y x v e s' ∧ m % 10 ≠ 0) ?_ ?_
                · refine aw_block ?_
                  refine aw_loop (fun n e s' => ∃ (m : Nat) (y : Int), n = m ∧ StI s neg a m y x v e s') a ?_ ?_
                  · refine ⟨a, x + v, rfl, ?_⟩
                    constructor
                    all_goals (first | exact g0 | exact g1 | exact g2 | exact hI.fr | exact ⟨0, by omega, by omega⟩ | omega | skip)
                    all_goals ((repeat' refine And.intro ?_ ?_) <;> (first | done | exact rfl | (intro i hi; exact rn0 (cj rTI (cj @dl_idf (cj @dl_ln (cj @dl_one (cj @h1 (cj @k0 (cj @k2 (cj @k4 (cj @k5 (cj @k6 (cj @k7 (cj @k8 @k9)))))))))))); done) | (exact rn0 (cj rTI (cj @dl_idf (cj @dl_ln (cj @dl_one (cj @h1 (cj @k0 (cj @k2 (cj @k4 (cj @k5 (cj @k6 (cj @k7 (cj @k8 @k9)))))))))))); done) | skip))
                  · clear h1 k0 k2 k4 k5 k6 k7 k8 k9 g0 g1 g2 hI hnx hsg ht hsl tz a1 a2 a3 a4 e s'
                    rintro n e s' ⟨m, y, hnm, hI⟩
                    have h1 := hI.en
                    have k2 := hI.e2
                    have k5 := hI.e5
                    have k7 := hI.e7
                    have k8 := hI.e8
                    have k9 := hI.e9
                    have g0 := hI.g0
                    have g1 := hI.g1
                    have g2 := hI.g2
                    have hnx := hI.nx
                    have hm := hI.hm
                    obtain ⟨k, hk1, hk2⟩ := hI.hk
                    have hk3 := ten_le m k a hm hk1 a5
                    have hma : m < 10 ^ 34 := Nat.lt_of_le_of_lt (by rw [← hk1]; exact Nat.le_mul_of_pos_right _ (Nat.pow_pos (by decide))) a5
                    have hdv := divideN_ax m 10 (by omega) (by have := lz_dec m hma; omega) (by have : lz 10 ≤ 4 := lz_small 10 (by omega) (by omega); omega)
                    have hsg := sign_ax ((m : Int).tmod 10)
                    rw [show (m : Int).tdiv 10 = ((m / 10 : Nat) : Int) from rfl, show (m : Int).tmod 10 = ((m % 10 : Nat) : Int) from rfl] at hdv
                    rw [show (m : Int).tmod 10 = ((m % 10 : Nat) : Int) from rfl] at hsg
                    simp only [NI_eq] at hdv hsg
                    have hnext : m % 10 = 0 → ∃ k' : Nat, m / 10 * 10 ^ k' = a ∧ y + 1 = x + v + k' := fun q => ⟨k + 1, by
                      rw [← hk1, Nat.pow_succ, Nat.mul_comm (10 ^ k) 10, ← Nat.mul_assoc, Nat.div_mul_cancel (Nat.dvd_of_mod_eq_zero q)], by omega⟩
                    clear hma a5 hk1
                    by_cases q : m % 10 = 0
                    · rw [q] at hdv hsg
                      rw [show sgn ((0 : Nat) : Int) = 0 from rfl] at hsg
                      have hn2 := hnext q
                      clear hnext
                      (first | refine go trivial ?_ | exact go0 trivial)
                      refine aw_reg fun K hK => ?_; refine rn (cj rTI (cj @dl_idf (cj @dl_ln (cj @dl_one (cj @h1 (cj @k7 (cj @k8 (cj @g1 (cj @g2 @hnx))))))))) ?_; refine cont_pure hdv ?_; refine rn (cj rTI (cj @dl_idf (cj @dl_ln (cj @dl_one (cj @h1 (cj @k7 (cj @k8 (cj @g1 (cj @g2 @hnx))))))))) ?_; refine hK _ _ ?_; clear hK K
                      rw [then_normal]
                      (first | refine go trivial ?_ | exact go0 trivial)
                      refine aw_reg fun K hK => ?_; refine rn (cj rTI (cj @dl_idf (cj @dl_ln (cj @dl_one (cj @h1 @hnx))))) ?_; refine cont_pure hsg ?_; refine rn (cj rTI (cj @dl_idf (cj @dl_ln (cj @dl_one (cj @h1 @hnx))))) ?_; refine hK _ _ ?_; clear hK K
                      rw [then_normal]
                      (try rw [then_normal]); (try refine aw_seq ?_); refine aw_cond rfl ?_ ?_ <;> intro hb <;> (try (cases hb; done)) <;> (try simp only [bq] at hb) <;> (try (exfalso; omega))
                      (first | refine go (cj rTI (cj @dl_idf (cj @dl_ln (cj @dl_one (cj @h1 (cj @k7 (cj @k9 (cj @g1 @hnx)))))))) ?_ | exact go0 (cj rTI (cj @dl_idf (cj @dl_ln (cj @dl_one (cj @h1 (cj @k7 (cj @k9 (cj @g1 @hnx)))))))))
                      simp only [block_normal, loop_normal]
                      refine ⟨m / 10, by omega, m / 10, y + 1, rfl, ?_⟩
                      constructor
                      all_goals (first | exact hn2 | (show s.nx + 3 ≤ s'.nx + 2; omega) | omega | skip)
                      all_goals ((repeat' refine And.intro ?_ ?_) <;> (first | done | exact rfl | (intro i hi; exact rn0 (cj rTI (cj @dl_idf (cj @dl_ln (cj @dl_one (cj @h1 (cj @k2 (cj @k5 (cj @k7 (cj @k8 (cj @k9 (cj @g0 (cj @g1 (cj @g2 @hnx))))))))))))); done) | (exact rn0 (cj rTI (cj @dl_idf (cj @dl_ln (cj @dl_one (cj @h1 (cj @k2 (cj @k5 (cj @k7 (cj @k8 (cj @k9 (cj @g0 (cj @g1 (cj @g2 @hnx))))))))))))); done) | skip))
                      all_goals ((repeat' refine And.intro ?_ ?_) <;> (first | done | exact rfl | (intro i hi; exact rn0 (cj rTI (cj @dl_idf (cj @dl_ln (cj @dl_one (hI.fr i hi))))); done) | (exact rn0 (cj rTI (cj @dl_idf (cj @dl_ln (cj @dl_one (hI.fr i hi))))); done) | skip))
                    · rw [show sgn ((m % 10 : Nat) : Int) = 1 by unfold sgn; rw [if_neg (by omega), if_neg (by omega)]] at hsg
                      clear hnext
                      (first | refine go trivial ?_ | exact go0 trivial)
                      refine aw_reg fun K hK => ?_; refine rn (cj rTI (cj @dl_idf (cj @dl_ln (cj @dl_one (cj @h1 (cj @k7 (cj @k8 (cj @g1 (cj @g2 @hnx))))))))) ?_; refine cont_pure hdv ?_; refine rn (cj rTI (cj @dl_idf (cj @dl_ln (cj @dl_one (cj @h1 (cj @k7 (cj @k8 (cj @g1 (cj @g2 @hnx))))))))) ?_; refine hK _ _ ?_; clear hK K
                      rw [then_normal]
                      (first | refine go trivial ?_ | exact go0 trivial)
                      refine aw_reg fun K hK => ?_; refine rn (cj rTI (cj @dl_idf (cj @dl_ln (cj @dl_one (cj @h1 @hnx))))) ?_; refine cont_pure hsg ?_; refine rn (cj rTI (cj @dl_idf (cj @dl_ln (cj @dl_one (cj @h1 @hnx))))) ?_; refine hK _ _ ?_; clear hK K
                      rw [then_normal]
                      (try rw [then_normal]); (try refine aw_seq ?_); refine aw_cond rfl ?_ ?_ <;> intro hb <;> (try (cases hb; done)) <;> (try simp only [bq] at hb) <;> (try (exfalso; omega))
                      (first | refine go (cj rTI (cj @dl_idf (cj @dl_ln (cj @dl_one (cj @h1 (cj @k7 (cj @k9 (cj @g1 @hnx)))))))) ?_ | exact go0 (cj rTI (cj @dl_idf (cj @dl_ln (cj @dl_one (cj @h1 (cj @k7 (cj @k9 (cj @g1 @hnx)))))))))
                      refine ⟨m, y, ?_, q⟩
                      constructor
                      all_goals (first | exact hI.hk | (show s.nx + 3 ≤ s'.nx + 2; omega) | omega | skip)
                      all_goals ((repeat' refine And.intro ?_ ?_) <;> (first | done | exact rfl | (intro i hi; exact rn0 (cj rTI (cj @dl_idf (cj @dl_ln (cj @dl_one (cj @h1 (cj @k2 (cj @k5 (cj @k7 (cj @k8 (cj @k9 (cj @g0 (cj @g1 (cj @g2 @hnx))))))))))))); done) | (exact rn0 (cj rTI (cj @dl_idf (cj @dl_ln (cj @dl_one (cj @h1 (cj @k2 (cj @k5 (cj @k7 (cj @k8 (cj @k9 (cj @g0 (cj @g1 (cj @g2 @hnx))))))))))))); done) | skip))
                      all_goals ((repeat' refine And.intro ?_ ?_) <;> (first | done | exact rfl | (intro i hi; exact rn0 (cj rTI (cj @dl_idf (cj @dl_ln (cj @dl_one (hI.fr i hi))))); done) | (exact rn0 (cj rTI (cj @dl_idf (cj @dl_ln (cj @dl_one (hI.fr i hi))))); done) | skip))
                · clear h1 k0 k2 k4 k5 k6 k7 k8 k9 g0 g1 g2 hI hnx hsg ht hsl tz a1 a2 a3 a4 e s'
                  rintro e s' ⟨m, y, hI, hm10⟩
                  have h1 := hI.en
                  have k2 := hI.e2
                  have k5 := hI.e5
                  have k7 := hI.e7
                  have k9 := hI.e9
                  have g0 := hI.g0
                  have g1 := hI.g1
                  have hnx := hI.nx
                  have hm := hI.hm
                  obtain ⟨k, hk1, hk2⟩ := hI.hk
                  have hk3 := ten_le m k a hm hk1 a5
                  have hma : m < 10 ^ 34 := Nat.lt_of_le_of_lt (by rw [← hk1]; exact Nat.le_mul_of_pos_right _ (Nat.pow_pos (by decide))) a5
                  have hst : strip a (x + v) = strip m y := by rw [← hk1, strip_pow m hm, hk2]
                  have hfin := fin_strip neg a m (x + v) y (by omega) hm10 hst
                  have hvl := RefM.valid_ax (if neg then -(m : Int) else m) y
                  rw [valid_strip neg m y hm10] at hvl
                  have hwh := whole_ax m (by have := lz_dec m hma; omega)
                  rw [hfin]
                  rw [NI_eq] at hwh
                  clear hma a5 hk1 hst hfin
                  by_cases hf : fits (m : Int)
                  · rw [if_pos hf] at hwh
                    have hf2 : (m : Int) ≤ 9223372036854775807 := hf.2
                    clear hf
                    cases neg
                    · simp only [Bool.false_eq_true, if_false] at hvl ⊢
                      by_cases hz : m ≤ 999999999 ∧ -18 ≤ y ∧ y ≤ 9
                      · rw [decide_eq_true hz] at hvl
                        rw [if_pos hz, show parseV ((m : Int), y, 0) = .tp [.ag [.v (.int .i64 ((m : Int))), .v (.int .i64 y)], .v (.int .i64 0)] from rfl]
                        unfold RefM.NM at hvl
                        clear hz
                        (first | refine go trivial ?_ | exact go0 trivial)
                        refine aw_reg fun K hK => ?_; refine rn (cj rTI (cj @dl_idf (cj @dl_ln (cj @dl_one (cj @h1 (cj @k7 @g1)))))) ?_; refine cont_pure hwh ?_; refine rn (cj rTI (cj @dl_idf (cj @dl_ln (cj @dl_one (cj @h1 (cj @k7 @g1)))))) ?_; refine hK _ _ ?_; clear hK K
                        rw [then_normal]
                        (first | refine go (cj rTI (cj @dl_idf (cj @dl_ln (cj @dl_one (cj @h1 @k5))))) ?_ | exact go0 (cj rTI (cj @dl_idf (cj @dl_ln (cj @dl_one (cj @h1 @k5))))))
                        (try rw [then_normal]); (try refine aw_seq ?_); refine aw_cond rfl ?_ ?_ <;> intro hb <;> (try (cases hb; done)) <;> (try simp only [bq] at hb) <;> (try (exfalso; omega))
                        (first | refine go (cj rTI (cj @dl_idf (cj @dl_ln (cj @dl_one (cj @h1 @k9))))) ?_ | exact go0 (cj rTI (cj @dl_idf (cj @dl_ln (cj @dl_one (cj @h1 @k9))))))
                        refine aw_reg fun K hK => ?_; refine rn (cj rTI (cj @dl_idf (cj @dl_ln (cj @dl_one @h1)))) ?_; refine cont_pure hvl ?_; refine rn (cj rTI (cj @dl_idf (cj @dl_ln (cj @dl_one @h1)))) ?_; refine hK _ _ ?_; clear hK K
                        rw [then_normal]
                        (try rw [then_normal]); (try refine aw_seq ?_); refine aw_cond rfl ?_ ?_ <;> intro hb <;> (try (cases hb; done)) <;> (try simp only [bq] at hb) <;> (try (exfalso; omega))
                        (first | refine go (cj rTI (cj @dl_idf (cj @dl_ln (cj @dl_one (cj @h1 (cj @k2 @g0)))))) ?_ | exact go0 (cj rTI (cj @dl_idf (cj @dl_ln (cj @dl_one (cj @h1 (cj @k2 @g0)))))))
                        exact fun i hi => by (repeat rw [if_neg (by omega)]); exact hI.fr i hi
                      · rw [decide_eq_false hz] at hvl
                        rw [if_neg hz, show parseV (0, 0, 30) = .tp [.ag [.v (.int .i64 0), .v (.int .i64 0)], .v (.int .i64 30)] from rfl]
                        unfold RefM.NM at hvl
                        clear hz
                        (first | refine go trivial ?_ | exact go0 trivial)
                        refine aw_reg fun K hK => ?_; refine rn (cj rTI (cj @dl_idf (cj @dl_ln (cj @dl_one (cj @h1 (cj @k7 @g1)))))) ?_; refine cont_pure hwh ?_; refine rn (cj rTI (cj @dl_idf (cj @dl_ln (cj @dl_one (cj @h1 (cj @k7 @g1)))))) ?_; refine hK _ _ ?_; clear hK K
                        rw [then_normal]
                        (first | refine go (cj rTI (cj @dl_idf (cj @dl_ln (cj @dl_one (cj @h1 @k5))))) ?_ | exact go0 (cj rTI (cj @dl_idf (cj @dl_ln (cj @dl_one (cj @h1 @k5))))))
                        (try rw [then_normal]); (try refine aw_seq ?_); refine aw_cond rfl ?_ ?_ <;> intro hb <;> (try (cases hb; done)) <;> (try simp only [bq] at hb) <;> (try (exfalso; omega))
                        (first | refine go (cj rTI (cj @dl_idf (cj @dl_ln (cj @dl_one (cj @h1 @k9))))) ?_ | exact go0 (cj rTI (cj @dl_idf (cj @dl_ln (cj @dl_one (cj @h1 @k9))))))
                        refine aw_reg fun K hK => ?_; refine rn (cj rTI (cj @dl_idf (cj @dl_ln (cj @dl_one @h1)))) ?_; refine cont_pure hvl ?_; refine rn (cj rTI (cj @dl_idf (cj @dl_ln (cj @dl_one @h1)))) ?_; refine hK _ _ ?_; clear hK K
                        rw [then_normal]
                        (try rw [then_normal]); (try refine aw_seq ?_); refine aw_cond rfl ?_ ?_ <;> intro hb <;> (try (cases hb; done)) <;> (try simp only [bq] at hb) <;> (try (exfalso; omega))
                        (first | refine go (cj rTI (cj @dl_idf (cj @dl_ln (cj @dl_one (cj @h1 (cj @k2 @g0)))))) ?_ | exact go0 (cj rTI (cj @dl_idf (cj @dl_ln (cj @dl_one (cj @h1 (cj @k2 @g0)))))))
                        exact fun i hi => by (repeat rw [if_neg (by omega)]); exact hI.fr i hi
                    · simp only [if_true] at hvl ⊢
                      by_cases hz : m ≤ 999999999 ∧ -18 ≤ y ∧ y ≤ 9
                      · rw [decide_eq_true hz] at hvl
                        rw [if_pos hz, show parseV (-(m : Int), y, 0) = .tp [.ag [.v (.int .i64 (-(m : Int))), .v (.int .i64 y)], .v (.int .i64 0)] from rfl]
                        unfold RefM.NM at hvl
                        clear hz
                        (first | refine go trivial ?_ | exact go0 trivial)
                        refine aw_reg fun K hK => ?_; refine rn (cj rTI (cj @dl_idf (cj @dl_ln (cj @dl_one (cj @h1 (cj @k7 @g1)))))) ?_; refine cont_pure hwh ?_; refine rn (cj rTI (cj @dl_idf (cj @dl_ln (cj @dl_one (cj @h1 (cj @k7 @g1)))))) ?_; refine hK _ _ ?_; clear hK K
                        rw [then_normal]
                        (first | refine go (cj rTI (cj @dl_idf (cj @dl_ln (cj @dl_one (cj @h1 @k5))))) ?_ | exact go0 (cj rTI (cj @dl_idf (cj @dl_ln (cj @dl_one (cj @h1 @k5))))))
                        (try rw [then_normal]); (try refine aw_seq ?_); refine aw_cond rfl ?_ ?_ <;> intro hb <;> (try (cases hb; done)) <;> (try simp only [bq] at hb) <;> (try (exfalso; omega))
                        (first | refine go (cj rTI (cj @dl_idf (cj @dl_ln (cj @dl_one (cj @h1 (cj @k9 @Int.zero_sub)))))) ?_ | exact go0 (cj rTI (cj @dl_idf (cj @dl_ln (cj @dl_one (cj @h1 (cj @k9 @Int.zero_sub)))))))
                        refine aw_reg fun K hK => ?_; refine rn (cj rTI (cj @dl_idf (cj @dl_ln (cj @dl_one (cj @h1 @Int.zero_sub))))) ?_; refine cont_pure hvl ?_; refine rn (cj rTI (cj @dl_idf (cj @dl_ln (cj @dl_one (cj @h1 @Int.zero_sub))))) ?_; refine hK _ _ ?_; clear hK K
                        rw [then_normal]
                        (try rw [then_normal]); (try refine aw_seq ?_); refine aw_cond rfl ?_ ?_ <;> intro hb <;> (try (cases hb; done)) <;> (try simp only [bq] at hb) <;> (try (exfalso; omega))
                        (first | refine go (cj rTI (cj @dl_idf (cj @dl_ln (cj @dl_one (cj @h1 (cj @k2 @g0)))))) ?_ | exact go0 (cj rTI (cj @dl_idf (cj @dl_ln (cj @dl_one (cj @h1 (cj @k2 @g0)))))))
                        exact fun i hi => by (repeat rw [if_neg (by omega)]); exact hI.fr i hi
                      · rw [decide_eq_false hz] at hvl
                        rw [if_neg hz, show parseV (0, 0, 30) = .tp [.ag [.v (.int .i64 0), .v (.int .i64 0)], .v (.int .i64 30)] from rfl]
                        unfold RefM.NM at hvl
                        clear hz
                        (first | refine go trivial ?_ | exact go0 trivial)
                        refine aw_reg fun K hK => ?_; refine rn (cj rTI (cj @dl_idf (cj @dl_ln (cj @dl_one (cj @h1 (cj @k7 @g1)))))) ?_; refine cont_pure hwh ?_; refine rn (cj rTI (cj @dl_idf (cj @dl_ln (cj @dl_one (cj @h1 (cj @k7 @g1)))))) ?_; refine hK _ _ ?_; clear hK K
                        rw [then_normal]
                        (first | refine go (cj rTI (cj @dl_idf (cj @dl_ln (cj @dl_one (cj @h1 @k5))))) ?_ | exact go0 (cj rTI (cj @dl_idf (cj @dl_ln (cj @dl_one (cj @h1 @k5))))))
                        (try rw [then_normal]); (try refine aw_seq ?_); refine aw_cond rfl ?_ ?_ <;> intro hb <;> (try (cases hb; done)) <;> (try simp only [bq] at hb) <;> (try (exfalso; omega))
                        (first | refine go (cj rTI (cj @dl_idf (cj @dl_ln (cj @dl_one (cj @h1 (cj @k9 @Int.zero_sub)))))) ?_ | exact go0 (cj rTI (cj @dl_idf (cj @dl_ln (cj @dl_one (cj @h1 (cj @k9 @Int.zero_sub)))))))
                        refine aw_reg fun K hK => ?_; refine rn (cj rTI (cj @dl_idf (cj @dl_ln (cj @dl_one (cj @h1 @Int.zero_sub))))) ?_; refine cont_pure hvl ?_; refine rn (cj rTI (cj @dl_idf (cj @dl_ln (cj @dl_one (cj @h1 @Int.zero_sub))))) ?_; refine hK _ _ ?_; clear hK K
                        rw [then_normal]
                        (try rw [then_normal]); (try refine aw_seq ?_); refine aw_cond rfl ?_ ?_ <;> intro hb <;> (try (cases hb; done)) <;> (try simp only [bq] at hb) <;> (try (exfalso; omega))
                        (first | refine go (cj rTI (cj @dl_idf (cj @dl_ln (cj @dl_one (cj @h1 (cj @k2 @g0)))))) ?_ | exact go0 (cj rTI (cj @dl_idf (cj @dl_ln (cj @dl_one (cj @h1 (cj @k2 @g0)))))))
                        exact fun i hi => by (repeat rw [if_neg (by omega)]); exact hI.fr i hi
                  · rw [if_neg hf] at hwh
                    have hf2 : ¬ m ≤ 999999999 := fun q => hf ⟨by omega, by omega⟩
                    rw [if_neg (fun q => hf2 q.1), show parseV (0, 0, 30) = .tp [.ag [.v (.int .i64 0), .v (.int .i64 0)], .v (.int .i64 30)] from rfl]
                    clear hf hvl
                    cases neg
                    · (first | refine go trivial ?_ | exact go0 trivial)
                      refine aw_reg fun K hK => ?_; refine rn (cj rTI (cj @dl_idf (cj @dl_ln (cj @dl_one (cj @h1 (cj @k7 @g1)))))) ?_; refine cont_pure hwh ?_; refine rn (cj rTI (cj @dl_idf (cj @dl_ln (cj @dl_one (cj @h1 (cj @k7 @g1)))))) ?_; refine hK _ _ ?_; clear hK K
                      rw [then_normal]
                      (first | refine go (cj rTI (cj @dl_idf (cj @dl_ln (cj @dl_one (cj @h1 @k5))))) ?_ | exact go0 (cj rTI (cj @dl_idf (cj @dl_ln (cj @dl_one (cj @h1 @k5))))))
                      (try rw [then_normal]); (try refine aw_seq ?_); refine aw_cond rfl ?_ ?_ <;> intro hb <;> (try (cases hb; done)) <;> (try simp only [bq] at hb) <;> (try (exfalso; omega))
                      (first | refine go (cj rTI (cj @dl_idf (cj @dl_ln (cj @dl_one (cj @h1 @k9))))) ?_ | exact go0 (cj rTI (cj @dl_idf (cj @dl_ln (cj @dl_one (cj @h1 @k9))))))
                      (try rw [then_normal]); (try refine aw_seq ?_); refine aw_cond rfl ?_ ?_ <;> intro hb <;> (try (cases hb; done)) <;> (try simp only [bq] at hb) <;> (try (exfalso; omega))
                      (first | refine go (cj rTI (cj @dl_idf (cj @dl_ln (cj @dl_one (cj @h1 (cj @k2 @g0)))))) ?_ | exact go0 (cj rTI (cj @dl_idf (cj @dl_ln (cj @dl_one (cj @h1 (cj @k2 @g0)))))))
                      exact fun i hi => by (repeat rw [if_neg (by omega)]); exact hI.fr i hi
                    · (first | refine go trivial ?_ | exact go0 trivial)
                      refine aw_reg fun K hK => ?_; refine rn (cj rTI (cj @dl_idf (cj @dl_ln (cj @dl_one (cj @h1 (cj @k7 @g1)))))) ?_; refine cont_pure hwh ?_; refine rn (cj rTI (cj @dl_idf (cj @dl_ln (cj @dl_one (cj @h1 (cj @k7 @g1)))))) ?_; refine hK _ _ ?_; clear hK K
                      rw [then_normal]
                      (first | refine go (cj rTI (cj @dl_idf (cj @dl_ln (cj @dl_one (cj @h1 @k5))))) ?_ | exact go0 (cj rTI (cj @dl_idf (cj @dl_ln (cj @dl_one (cj @h1 @k5))))))
                      (try rw [then_normal]); (try refine aw_seq ?_); refine aw_cond rfl ?_ ?_ <;> intro hb <;> (try (cases hb; done)) <;> (try simp only [bq] at hb) <;> (try (exfalso; omega))
                      (first | refine go (cj rTI (cj @dl_idf (cj @dl_ln (cj @dl_one (cj @h1 @k9))))) ?_ | exact go0 (cj rTI (cj @dl_idf (cj @dl_ln (cj @dl_one (cj @h1 @k9))))))
                      (try rw [then_normal]); (try refine aw_seq ?_); refine aw_cond rfl ?_ ?_ <;> intro hb <;> (try (cases hb; done)) <;> (try simp only [bq] at hb) <;> (try (exfalso; omega))
                      (first | refine go (cj rTI (cj @dl_idf (cj @dl_ln (cj @dl_one (cj @h1 (cj @k2 @g0)))))) ?_ | exact go0 (cj rTI (cj @dl_idf (cj @dl_ln (cj @dl_one (cj @h1 (cj @k2 @g0)))))))
                      exact fun i hi => by (repeat rw [if_neg (by omega)]); exact hI.fr i hi
end Go.Proofs.YtfjelkjlfcafgaaGreatDoor.NumR
end
section
/- The law NumReads, walked. -/
namespace Go.Proofs.YtfjelkjlfcafgaaGreatDoor.NumE
open Go Go.RowKit Go.Proofs.YtfjelkjlfcafgaaGreatDoor.Ax Go.Proofs.YtfjelkjlfcafgaaGreatDoor.Ti Go.Proofs.YtfjelkjlfcafgaaGreatDoor.BigM Go.Proofs.YtfjelkjlfcafgaaGreatDoor.NumS Go.Proofs.YtfjelkjlfcafgaaGreatDoor.NumA Go.Proofs.YtfjelkjlfcafgaaGreatDoor.NumB Go.Proofs.YtfjelkjlfcafgaaGreatDoor.NumT Go.Proofs.YtfjelkjlfcafgaaGreatDoor.NumU Go.Proofs.YtfjelkjlfcafgaaGreatDoor.NumL Go.Proofs.YtfjelkjlfcafgaaGreatDoor.NumW Go.Proofs.YtfjelkjlfcafgaaGreatDoor.NumX Go.Proofs.YtfjelkjlfcafgaaGreatDoor.NumY Go.Proofs.YtfjelkjlfcafgaaGreatDoor.NumR
set_option linter.unusedSimpArgs false
set_option linter.unusedVariables false
set_option maxRecDepth 4000
set_option maxHeartbeats 2000000
theorem rTI : type_of% (cj @ti3 (cj @ti2 (cj @ti4 (cj @ti9 (cj @ti5 (cj @ti24 @ti25)))))) := cj @ti3 (cj @ti2 (cj @ti4 (cj @ti9 (cj @ti5 (cj @ti24 @ti25)))))

theorem beqI (x : Int) : (x == x) = true := beq_self_eq_true x
theorem parse_long (l : List Nat) (h : 32 < l.length) : PCall Tryz.prog 14 [.v (.string (bs l))] (parseV (parseS l)) := by
  have l1 := bs_size l
  rw [show parseS l = (0, 0, 3) by unfold parseS; rw [if_pos h], show parseV (0, 0, 3) = .tp [.ag [.v (.int .i64 0), .v (.int .i64 0)], .v (.int .i64 3)] from rfl]
  refine pcall_of fun s => ?_
  refine acall_of Tryz.func14 rfl rfl (by simp [Tryz.ntmps14]) ?_; rw [Tryz.ntmps14, Tryz.results14]
  (first | refine go (cj rTI @l1) ?_ | exact go0 (cj rTI @l1))
  (try rw [then_normal]); (try refine aw_seq ?_); refine aw_cond rfl ?_ ?_ <;> intro hb <;> (try (cases hb; done)) <;> (try simp only [bq] at hb) <;> (try (exfalso; omega))
  (first | refine go rTI ?_ | exact go0 rTI)
  exact fun i hi => by rw [if_neg (by omega)]
theorem parseD_long (l : List Nat) (h : 32 < l.length) : PCall Tryz.prog 15 [.v (.string (bs l))] (parseV (parseS l)) := by
  have l1 := bs_size l
  rw [show parseS l = (0, 0, 3) by unfold parseS; rw [if_pos h], show parseV (0, 0, 3) = .tp [.ag [.v (.int .i64 0), .v (.int .i64 0)], .v (.int .i64 3)] from rfl]
  refine pcall_of fun s => ?_
  refine acall_of Tryz.func15 rfl rfl (by simp [Tryz.ntmps15]) ?_; rw [Tryz.ntmps15, Tryz.results15]
  (first | refine go (cj rTI @l1) ?_ | exact go0 (cj rTI @l1))
  (try rw [then_normal]); (try refine aw_seq ?_); refine aw_cond rfl ?_ ?_ <;> intro hb <;> (try (cases hb; done)) <;> (try simp only [bq] at hb) <;> (try (exfalso; omega))
  (first | refine go rTI ?_ | exact go0 rTI)
  exact fun i hi => by rw [if_neg (by omega)]
theorem parse_any (l : List Nat) (h : By l) : PCall Tryz.prog 14 [.v (.string (bs l))] (parseV (parseS l)) := by
  by_cases q : 32 < l.length
  · exact parse_long l q
  · exact parse_ax l h (by omega)
theorem parseD_any (l : List Nat) (h : By l) : PCall Tryz.prog 15 [.v (.string (bs l))] (parseV (parseS l)) := by
  by_cases q : 32 < l.length
  · exact parseD_long l q
  · exact parseD_ax l h (by omega)
theorem reads_ax (l : List Nat) (h : By l) : PCall Tryz.prog 3 [.v (.string (bs l))] (.v (.bool true)) := by
  refine pcall_of fun s => ?_
  have p1 := parse_any l h
  have p2 := parseD_any l h
  obtain ⟨a, b, c, hr⟩ : ∃ a b c, parseS l = (a, b, c) := ⟨_, _, _, rfl⟩
  rw [hr] at p1 p2
  unfold parseV NM at p1 p2
  refine acall_of Tryz.func3 rfl rfl (by simp [Tryz.ntmps3]) ?_; rw [Tryz.ntmps3, Tryz.results3]
  (first | refine go trivial ?_ | exact go0 trivial)
  refine aw_reg fun K hK => ?_; refine rn rTI ?_; refine cont_pure awake_ax ?_; refine rn rTI ?_; refine hK _ _ ?_; clear hK K
  rw [then_normal]
  (try rw [then_normal]); (try refine aw_seq ?_); refine aw_cond rfl ?_ ?_ <;> intro hb <;> (try (cases hb; done)) <;> (try simp only [bq] at hb) <;> (try (exfalso; omega))
  (first | refine go trivial ?_ | exact go0 trivial)
  refine aw_reg fun K hK => ?_; refine rn rTI ?_; refine cont_pure p1 ?_; refine rn rTI ?_; refine hK _ _ ?_; clear hK K
  rw [then_normal]
  (first | refine go trivial ?_ | exact go0 trivial)
  refine aw_reg fun K hK => ?_; refine rn rTI ?_; refine cont_pure p2 ?_; refine rn rTI ?_; refine hK _ _ ?_; clear hK K
  rw [then_normal]
  (first | refine go (cj rTI (cj @eq_num @beqI)) ?_ | exact go0 (cj rTI (cj @eq_num @beqI)))
  exact fun i hi => by rw [if_neg (by omega), if_neg (by omega)]
theorem reads_str (b : ByteArray) : PCall Tryz.prog 3 [.v (.string b)] (.v (.bool true)) := by
  rw [bs_all b]
  exact reads_ax _ (by_all b)
end Go.Proofs.YtfjelkjlfcafgaaGreatDoor.NumE
end
