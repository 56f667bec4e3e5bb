/- The abstract machine, part G: operations on plain values. -/
import Derived.Test.YtppmamcoehhopaaDoorAxF
import Derived.Laws.IdiomStrings
set_option linter.unusedVariables false
set_option linter.unusedSimpArgs false
namespace Go.Proofs.YtppmamcoehhopaaDoor.Ax
open Go Go.RowKit
variable {P : Program}

/-- Whole numbers. -/
def xint (op : BinOp) (k : IntKind) (x y : Int) : Option Value :=
  match op with
  | .add => some (.int k (k.wrap (x + y)))
  | .sub => some (.int k (k.wrap (x - y)))
  | .mul => some (.int k (k.wrap (x * y)))
  | .quo => if y = 0 then none else some (.int k (k.wrap (x.tdiv y)))
  | .rem => if y = 0 then none else some (.int k (x.tmod y))
  | .and => some (.int k (k.wrap (BitVec.ofInt k.bits x &&& BitVec.ofInt k.bits y).toNat))
  | .or => some (.int k (k.wrap (BitVec.ofInt k.bits x ||| BitVec.ofInt k.bits y).toNat))
  | .xor => some (.int k (k.wrap (BitVec.ofInt k.bits x ^^^ BitVec.ofInt k.bits y).toNat))
  | .andNot => some (.int k (k.wrap (BitVec.ofInt k.bits x &&& ~~~(BitVec.ofInt k.bits y)).toNat))
  | .eql => some (.bool (x == y))
  | .neq => some (.bool (x != y))
  | .lss => some (.bool (decide (x < y)))
  | .leq => some (.bool (decide (x ≤ y)))
  | .gtr => some (.bool (decide (y < x)))
  | .geq => some (.bool (decide (y ≤ x)))
  | _ => none
def xshift (op : BinOp) (k : IntKind) (x y : Int) : Option Value :=
  if y < 0 then none else match op with
  | .shl => some (.int k (k.wrap (x * 2 ^ (min y.toNat k.bits))))
  | .shr => some (.int k (x.fdiv (2 ^ (min y.toNat k.bits))))
  | _ => none
def xstr (op : BinOp) (a b : ByteArray) : Option Value :=
  match op with
  | .add => if a.size + b.size ≤ 9223372036854775807 then some (.string (a ++ b)) else none
  | .eql => some (.bool (a.toList == b.toList))
  | .neq => some (.bool !(a.toList == b.toList))
  | _ => none
def notCmp : BinOp → Bool | .eql | .neq => false | _ => true
def isK : Operand → Bool | .const _ => true | _ => false
/-- The struct types that may be compared here: two whole numbers. -/
def eqOk (P : Program) (t : TypeId) : Bool :=
  (match P.underlying t with
   | some (.struct fs) => fs.size == 2 && fs.all (fun f => f.name != "_" && (match P.underlying f.type with | some (.int _) => true | _ => false))
   | _ => false) && !P.stoodInHeld t && !P.eqGuardType P.depth t
/-- What '==' gives. -/
def xeq (P : Program) (t : TypeId) (c1 c2 : Bool) (x y : AV) : Option Bool :=
  match tiOf P t with
  | some ti => match ti.k, x, y with
    | .bool, .v (.bool a), .v (.bool b) => some (a == b)
    | .sl _, .own _ _ n _, .v (.slice none _ _) => if 0 < n then some false else none
    | .sl _, .sl n _, .v (.slice none _ _) => if 0 < n then some false else none
    | .sl _, .v (.slice none _ _), .v (.slice none _ _) => some true
    | .pt _, .ptr .., .v (.pointer none) => some false
    | .pt _, .rf .., .v (.pointer none) => some false
    | .pt _, .v (.pointer none), .v (.pointer none) => some true
    | .ifc, .v .nilIface, .v .nilIface => if c1 || c2 then some true else none
    | .ifc, .v (.iface _ _), .v .nilIface => some false
    | .ifc, .v .nilIface, .v (.iface _ _) => some false
    | .st [(0, _), (1, _)], .ag [.v (.int ka a), .v (.int kb b)], .ag [.v (.int kc c), .v (.int kd d)] => if eqOk P t = true ∧ ka = kc ∧ kb = kd then some (a == c && b == d) else none
    | _, _, _ => none
  | none => none
def xbin (P : Program) (op : BinOp) (t : TypeId) (c1 c2 : Bool) (x y : AV) : Option Value :=
  match x, y with
  | .v (.int k a), .v (.int k' b) => match op with
    | .shl | .shr => xshift op k a b
    | _ => if k = k' then xint op k a b else none
  | .v (.string a), .v (.string b) => xstr op a b
  | _, _ => match op with
    | .eql => (xeq P t c1 c2 x y).map .bool
    | .neq => (xeq P t c1 c2 x y).map fun b => .bool !b
    | _ => none
theorem run_xint {op : BinOp} {k : IntKind} {a b : Int} {t : TypeId} {v : Value} (h : xint op k a b = some v) (w : World) : (binOp op t (.int k a) (.int k b)).run P w = .ok v w := by
  cases op <;> simp only [xint] at h <;> first
    | (injection h with h; subst h; simp [binOp, Op.intArith, Op.intBits, Op.intCmp])
    | (split at h
       · cases h
       · injection h with h; subst h; simp [binOp, Op.intDiv, *])
    | cases h
theorem run_guard_plain (op : BinOp) (t : TypeId) (x y : Operand) (a b : Value) (h : (match a, b with | .nilIface, .nilIface => false | .agg _, .agg _ => false | _, _ => true) = true) (w : World) : (eqGuard op t x y a b).run P w = .ok () w := by
  unfold eqGuard
  cases op <;> first
    | rfl
    | (simp only [Bool.not_true, Bool.false_eq_true, if_false]
       split
       · cases h
       · cases h
       · rfl)
theorem bins_of_equal {t : TypeId} {a b : Value} {r : Bool} {w : World} (h1 : binOp .eql t a b = (do pure (.bool (← Op.equal t a b)))) (h2 : binOp .neq t a b = (do pure (.bool (!(← Op.equal t a b))))) (h : (Op.equal t a b).run P w = .ok r w) :
    (binOp .eql t a b).run P w = .ok (.bool r) w ∧ (binOp .neq t a b).run P w = .ok (.bool !r) w := by
  constructor
  · rw [h1, Sem.run_bind, h]
    rfl
  · rw [h2, Sem.run_bind, h]
    rfl
theorem equal_int {t : TypeId} {k0 k : IntKind} {a c : Int} (d : Nat) (h : P.underlying t = some (.int k0)) (w : World) : (Op.equalIn (d + 1) t (.int k a) (.int k c)).run P w = .ok (a == c) w := by
  rw [Op.equalIn]
  simp [run_underlying h]
theorem equal_two {t : TypeId} {g1 g2 : Field} {k1 k2 ka kb : IntKind} {a b c e : Int} (d : Nat) (hgs : P.underlying t = some (.struct #[g1, g2])) (h2 : P.stoodInHeld t = false) (n1 : ¬ g1.name = "_") (n2 : ¬ g2.name = "_") (o1 : g1.offset = 0) (o2 : g2.offset = 1)
    (hk1 : P.underlying g1.type = some (.int k1)) (hk2 : P.underlying g2.type = some (.int k2)) (w : World) :
    (Op.equalIn (d + 1 + 1) t (.agg #[.int ka a, .int kb b]) (.agg #[.int ka c, .int kb e])).run P w = .ok (a == c && b == e) w := by
  have a1 : ∀ w, (isAgg g1.type).run P w = .ok false w := fun w => by simp [isAgg, run_underlying hk1]
  have a2 : ∀ w, (isAgg g2.type).run P w = .ok false w := fun w => by simp [isAgg, run_underlying hk2]
  have p1 : ∀ (x y : Value) w, (part g1.type #[x, y] g1.offset).run P w = .ok x w := fun x y w => by simp [part, a1, o1]
  have p2 : ∀ (x y : Value) w, (part g2.type #[x, y] g2.offset).run P w = .ok y w := fun x y w => by simp [part, a2, o2]
  have q1 := fun (x y : Int) w => equal_int (P := P) (k := ka) (a := x) (c := y) d hk1 w
  have q2 := fun (x y : Int) w => equal_int (P := P) (k := kb) (a := x) (c := y) d hk2 w
  rw [Op.equalIn]
  generalize Op.equalIn (d + 1) = E at *
  have f1 : (g1.name ≠ "_") = True := eq_true n1
  have f2 : (g2.name ≠ "_") = True := eq_true n2
  by_cases e1 : a = c <;> by_cases e2 : b = e <;> (simp [run_underlying hgs, h2, f1, f2, p1, p2, q1, q2, e1, e2, program, Sem.run_bind, Sem.run]; try simp [n1, n2, e1, e2])
theorem run_xeq {t : TypeId} {x y : Operand} {ax ay : AV} {k : KW} {a b : Value} (ha : Rel k ax a) (hb : Rel k ay b) {r : Bool} (h : xeq P t (isK x) (isK y) ax ay = some r) (op : BinOp) (w : World) :
    (eqGuard op t x y a b).run P w = .ok () w ∧ (binOp .eql t a b).run P w = .ok (.bool r) w ∧ (binOp .neq t a b).run P w = .ok (.bool !r) w := by
  obtain ⟨D, hD⟩ : ∃ d, ∀ t a b, Op.equal t a b = Op.equalIn (d + 1 + 1) t a b := ⟨9998, fun _ _ _ => rfl⟩
  unfold xeq at h
  split at h
  · rename_i ti ht
    split at h
    · rename_i a b hk
      obtain rfl := ha.v_eq
      obtain rfl := hb.v_eq
      injection h with h
      subst h
      exact ⟨run_guard_plain _ _ _ _ _ _ rfl w, bins_of_equal rfl rfl (by rw [hD]; unfold Op.equalIn; simp [run_underlying (under_bool ht hk)])⟩
    · rename_i n _ _ _ hk
      obtain rfl := hb.v_eq
      split at h
      · rename_i hn
        injection h with h
        subst h
        cases ha with
        | own => exact ⟨run_guard_plain _ _ _ _ _ _ rfl w, bins_of_equal rfl rfl (by rw [hD]; unfold Op.equalIn; simp [run_underlying (under_sl ht hk)])⟩
        | own0 => exact absurd hn (Nat.lt_irrefl _)
      · cases h
    · rename_i n c _ _ hk
      obtain rfl := hb.v_eq
      split at h
      · rename_i hn
        injection h with h
        subst h
        obtain ⟨a', cap, rfl, g1, g2⟩ := ha.sl_form
        obtain ⟨b', rfl, _⟩ := g1 hn
        exact ⟨run_guard_plain _ _ _ _ _ _ rfl w, bins_of_equal rfl rfl (by rw [hD]; unfold Op.equalIn; simp [run_underlying (under_sl ht hk)])⟩
      · cases h
    · rename_i hk
      obtain rfl := ha.v_eq
      obtain rfl := hb.v_eq
      injection h with h
      subst h
      exact ⟨run_guard_plain _ _ _ _ _ _ rfl w, bins_of_equal rfl rfl (by rw [hD]; unfold Op.equalIn; simp [run_underlying (under_sl ht hk)])⟩
    · rename_i hk
      obtain rfl := hb.v_eq
      injection h with h
      subst h
      cases ha
      exact ⟨run_guard_plain _ _ _ _ _ _ rfl w, bins_of_equal rfl rfl (by rw [hD]; unfold Op.equalIn; simp [run_underlying (under_pt ht hk)])⟩
    · rename_i hk
      obtain rfl := hb.v_eq
      injection h with h
      subst h
      cases ha
      exact ⟨run_guard_plain _ _ _ _ _ _ rfl w, bins_of_equal rfl rfl (by rw [hD]; unfold Op.equalIn; simp [run_underlying (under_pt ht hk)])⟩
    · rename_i hk
      obtain rfl := ha.v_eq
      obtain rfl := hb.v_eq
      injection h with h
      subst h
      exact ⟨run_guard_plain _ _ _ _ _ _ rfl w, bins_of_equal rfl rfl (by rw [hD]; unfold Op.equalIn; simp [run_underlying (under_pt ht hk)])⟩
    · rename_i hk
      obtain rfl := ha.v_eq
      obtain rfl := hb.v_eq
      split at h
      · rename_i hc
        injection h with h
        subst h
        obtain ⟨d, i, z, hd, hi, hz, hs2, hby, hcz, hk2⟩ := ti_info ht
        obtain ⟨ms, hms⟩ := kind_ifc (hk ▸ hk2).symm
        refine ⟨?_, bins_of_equal rfl rfl (by rw [hD]; unfold Op.equalIn; simp [run_underlying hms])⟩
        unfold eqGuard
        cases op <;> first
          | rfl
          | (simp only [Bool.not_true, Bool.false_eq_true, if_false]
             rw [if_pos (by cases x <;> cases y <;> first | rfl | cases hc)]
             rfl)
      · cases h
    · rename_i hk
      obtain rfl := ha.v_eq
      obtain rfl := hb.v_eq
      injection h with h
      subst h
      obtain ⟨d, i, z, hd, hi, hz, hs2, hby, hcz, hk2⟩ := ti_info ht
      obtain ⟨ms, hms⟩ := kind_ifc (hk ▸ hk2).symm
      exact ⟨run_guard_plain _ _ _ _ _ _ rfl w, bins_of_equal rfl rfl (by rw [hD]; unfold Op.equalIn; simp [run_underlying hms])⟩
    · rename_i hk
      obtain rfl := ha.v_eq
      obtain rfl := hb.v_eq
      injection h with h
      subst h
      obtain ⟨d, i, z, hd, hi, hz, hs2, hby, hcz, hk2⟩ := ti_info ht
      obtain ⟨ms, hms⟩ := kind_ifc (hk ▸ hk2).symm
      exact ⟨run_guard_plain _ _ _ _ _ _ rfl w, bins_of_equal rfl rfl (by rw [hD]; unfold Op.equalIn; simp [run_underlying hms])⟩
    · rename_i ta tb ka a kb b kc c kd d hk
      split at h
      · rename_i hh
        obtain ⟨hok, rfl, rfl⟩ := hh
        injection h with h
        subst h
        unfold eqOk at hok
        simp only [Bool.and_eq_true, Bool.not_eq_true'] at hok
        obtain ⟨⟨h1, h2⟩, h3⟩ := hok
        obtain ⟨d', i, z, hd, hi, hz, hs2, hby, hcz, hk2⟩ := ti_info ht
        obtain ⟨gs, hgs, hgl⟩ := kind_st (hk ▸ hk2).symm
        rw [hgs] at h1
        simp only [Bool.and_eq_true, beq_iff_eq] at h1
        obtain ⟨hsz, hall⟩ := h1
        obtain ⟨g1, g2, rfl⟩ : ∃ g1 g2, gs = #[g1, g2] := by
          match gs, hsz with
          | ⟨[g1, g2]⟩, _ => exact ⟨g1, g2, rfl⟩
        simp only [List.map_cons, List.map_nil, List.cons.injEq, Prod.mk.injEq, and_true] at hgl
        obtain ⟨⟨o1, t1⟩, o2, t2⟩ := hgl
        simp only [Array.all_eq_true_iff_forall_mem, Bool.and_eq_true, bne_iff_ne, ne_eq] at hall
        obtain ⟨n1, i1⟩ := hall g1 (by simp)
        obtain ⟨n2, i2⟩ := hall g2 (by simp)
        obtain ⟨k1, hk1⟩ : ∃ k1, P.underlying g1.type = some (.int k1) := by
          split at i1
          · exact ⟨_, by assumption⟩
          · cases i1
        obtain ⟨k2, hk2'⟩ : ∃ k2, P.underlying g2.type = some (.int k2) := by
          split at i2
          · exact ⟨_, by assumption⟩
          · cases i2
        cases ha with
        | ag _ us hl hr =>
          match us, hl with
          | [u1, u2], _ =>
          obtain rfl := (hr 0 _ _ rfl rfl).v_eq
          obtain rfl := (hr 1 _ _ rfl rfl).v_eq
          cases hb with
          | ag _ vs hl hr =>
            match vs, hl with
            | [v1, v2], _ =>
            obtain rfl := (hr 0 _ _ rfl rfl).v_eq
            obtain rfl := (hr 1 _ _ rfl rfl).v_eq
            have heq : ∀ w, (Op.equal t (.agg #[.int ka a, .int kb b]) (.agg #[.int ka c, .int kb d])).run P w = .ok (a == c && b == d) w := by
              intro w
              rw [hD]
              exact equal_two D hgs h2 n1 n2 o1.symm o2.symm hk1 hk2' w
            refine ⟨?_, bins_of_equal rfl rfl (heq w)⟩
            · unfold eqGuard
              cases op <;> first
                | rfl
                | simp [program, Sem.run_bind, Sem.run, h3]
      · cases h
    · cases h
  · cases h
theorem bin_gives {w0 w : World} {k : KW} {s : St} (hs : Sim w0 k w s) {op : BinOp} {t : TypeId} {x y : Operand} {ax ay : AV} {a b v : Value} (ha : Rel k ax a) (hb : Rel k ay b) (h : xbin P op t (isK x) (isK y) ax ay = some v) :
    GivesV P w0 k (do eqGuard op t x y a b; binOp op t a b) w (.v v) s := by
  unfold xbin at h
  split at h
  · rename_i k1 a k2 b
    obtain rfl := ha.v_eq
    obtain rfl := hb.v_eq
    refine .pure hs ?_ (.v _)
    rw [Sem.run_bind, run_guard_plain _ _ _ _ _ _ rfl]
    rw [Result.andThen_ok]
    split at h
    · unfold xshift at h
      split at h
      · cases h
      · rename_i hn
        injection h with h
        subst h
        simp [binOp, Op.shift, hn]
    · unfold xshift at h
      split at h
      · cases h
      · rename_i hn
        injection h with h
        subst h
        simp [binOp, Op.shift, hn]
    · split at h
      · rename_i hk
        subst hk
        exact run_xint h w
      · cases h
  · rename_i a b
    obtain rfl := ha.v_eq
    obtain rfl := hb.v_eq
    refine .pure hs ?_ (.v _)
    rw [Sem.run_bind, run_guard_plain _ _ _ _ _ _ rfl]
    rw [Result.andThen_ok]
    unfold xstr at h
    split at h
    · split at h
      · rename_i hl
        injection h with h
        subst h
        have : ¬ (((a.size + b.size : Nat) : Int) > IntKind.i64.max) := by
          have : IntKind.i64.max = 9223372036854775807 := rfl
          rw [this]
          omega
        simp only [binOp, Op.stringOp, this, if_false, Sem.run_pure]
      · cases h
    · injection h with h
      subst h
      simp [binOp, Op.stringOp]
    · injection h with h
      subst h
      simp [binOp, Op.stringOp]
    · cases h
  · rename_i hni hns
    split at h
    · cases hq : xeq P t (isK x) (isK y) ax ay with
      | none => rw [hq] at h; cases h
      | some r =>
        rw [hq] at h
        injection h with h
        subst h
        obtain ⟨g1, g2, g3⟩ := run_xeq ha hb hq .eql w
        refine .pure hs ?_ (.v _)
        rw [Sem.run_bind, g1, Result.andThen_ok]
        exact g2
    · cases hq : xeq P t (isK x) (isK y) ax ay with
      | none => rw [hq] at h; cases h
      | some r =>
        rw [hq] at h
        injection h with h
        subst h
        obtain ⟨g1, g2, g3⟩ := run_xeq ha hb hq .neq w
        refine .pure hs ?_ (.v _)
        rw [Sem.run_bind, g1, Result.andThen_ok]
        exact g3
    · cases h
end Go.Proofs.YtppmamcoehhopaaDoor.Ax
