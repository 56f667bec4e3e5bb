/- The abstract machine, part M: the equations that a walk rewrites by. -/
import Derived.Test.YtppmamcoehhopaaDoorAxL
set_option linter.unusedVariables false
set_option linter.unusedSimpArgs false
namespace Go.Proofs.YtppmamcoehhopaaDoor.Ax
open Go Go.RowKit

def onO {α : Type} (o : Option α) (K : α → Prop) : Prop := match o with | some z => K z | none => False
theorem onO_some {α : Type} (z : α) (K : α → Prop) : onO (some z) K = K z := rfl
theorem onO_none {α : Type} (K : α → Prop) : onO none K = False := rfl
def onV (z : AV) (K : AV → Prop) : Prop := K z
theorem onV_eq (z : AV) (K : AV → Prop) : onV z K = K z := rfl
/-- What comes behind an operation: continuations by name. -/
def Rest (P : Program) (ops : Array Oper) (r : List Oper) (K : Env → St → Prop) (e : Env) (s : St) : Prop := xops P ops r e s K
def K1 (K : Env → St → Prop) (e : Env) (d : Option Nat) (s : St) (z : AV) : Prop := K (e.put d z) s
def K2 (K : Env → St → Prop) (e : Env) (d : Option Nat) (z : AV × St) : Prop := K (e.put d z.1) z.2
def K3 (K : Env → St → Prop) (e : Env) (d : Option Nat) (s : St) : Prop := K (e.put d .no) s
def K4 (K : Env → St → Prop) (e : Env) (d : Option Nat) (s : St) (v : Value) : Prop := K (e.put d (.v v)) s
def KG (P : Program) (o : Oper) (e : Env) (s : St) (K : Env → St → Prop) (g : Bool) : Prop := if g then xstep P o e s K else dstOk o.dst e.n = true ∧ K (e.put o.dst (.v undef)) s
def KP (K : Env → St → Prop) (e : Env) (d : Option Nat) (s : St) (x y : Operand) (z : AV) : Prop := match z with | .v (.bool t) => if t then onV (e.ev x) (K1 K e d s) else onV (e.ev y) (K1 K e d s) | _ => False
def KA (K : Env → St → Prop) (e : Env) (d : Option Nat) (s : St) (ti : TI) : Prop := K (e.put d (.ptr s.nx 0)) (s.push (ti.zero.map .v))
def KB (K : Env → St → Prop) (e : Env) (d : Option Nat) (s : St) (z : AV) : Prop := z.boxable = true ∧ K (e.put d (.ptr s.nx 0)) (s.push z.cells)
def KF (P : Program) (t : TypeId) (f : Nat) (K : Env → St → Prop) (e : Env) (d : Option Nat) (s : St) (z : AV) : Prop := match z with | .ag _ => False | z => onO (xfield P t z f) (K1 K e d s)
def KD (P : Program) (t : TypeId) (f : Nat) (K : Env → St → Prop) (e : Env) (d : Option Nat) (s : St) (z : AV) : Prop := match z with | .ag c => onO (xfield P t (.ag c) f) (K1 K e d s) | _ => False
def KN (K : Env → St → Prop) (e : Env) (d : Option Nat) (s : St) (z : AV) : Prop := match z with | .ptr id off => K (e.put d (.ptr id off)) s | .rf c => K (e.put d (.rf c)) s | _ => False
def KE (i : Nat) (K : Env → St → Prop) (e : Env) (d : Option Nat) (s : St) (z : AV) : Prop := match z with | .tp c => onO (c[i]?) (K1 K e d s) | _ => False
def KI (P : Program) (t : TypeId) (K : Env → St → Prop) (e : Env) (d : Option Nat) (s : St) (z : AV) : Prop := match tiOf P t, z with | some ti, .v u => (match ti.k with | .ifc => False | _ => K (e.put d (.v (.iface t u))) s) | _, _ => False
/-- What comes behind a call. -/
def ContS (K : Env → St → Prop) (e : Env) (d : Option Nat) (r : AV) (s : St) : Prop := K (e.put d r) s
def gval (o : Option Tmp) (e : Env) (want : Bool) : Option Bool := match o with | some t => (match e.m t with | .v (.bool b) => some (b == want) | .v (.tuple _) => some false | _ => none) | none => none
/-- A struct's literal. -/
def xbuild (P : Program) (t : TypeId) (qs : List (Nat × AV)) : Option AV :=
  match tiOf P t with
  | some ti => match ti.k with
    | .st fs => match fs.mapM (fun f => (tiOf P f.2).map fun fi => (f.1, fi.size)) with
      | some places => (fillA (places[·]?) (ti.zero.map .v) qs).map .ag
      | none => none
    | _ => none
  | none => none
@[congr] theorem onO_congr {α : Type} {o o' : Option α} {K : α → Prop} (h : o = o') : onO o K = onO o' K := by rw [h]
@[congr] theorem onV_congr {z z' : AV} {K : AV → Prop} (h : z = z') : onV z K = onV z' K := by rw [h]
def noM (t : Nat) : AV := .no
theorem num0 : num [] = noM := by funext t; rfl
theorem num1 (a : AV) : num [a] = upd noM 0 a := by
  funext t
  match t with
  | 0 => rfl
  | t + 1 => rfl
theorem num2 (a b : AV) : num [a, b] = upd (upd noM 0 a) 1 b := by
  funext t
  match t with
  | 0 => rfl
  | 1 => rfl
  | t + 2 => rfl
theorem num3 (a b c : AV) : num [a, b, c] = upd (upd (upd noM 0 a) 1 b) 2 c := by
  funext t
  match t with
  | 0 => rfl
  | 1 => rfl
  | 2 => rfl
  | t + 3 => rfl
theorem num4 (a b c d : AV) : num [a, b, c, d] = upd (upd (upd (upd noM 0 a) 1 b) 2 c) 3 d := by
  funext t
  match t with
  | 0 => rfl
  | 1 => rfl
  | 2 => rfl
  | 3 => rfl
  | t + 4 => rfl
theorem wrap_in_i64 (x : Int) (h : -9223372036854775808 ≤ x) (h' : x ≤ 9223372036854775807) : IntKind.i64.wrap x = x := by
  rw [IntKind.wrap_i64]; omega
theorem wrap_u64 (x : Int) : IntKind.u64.wrap x = x % 18446744073709551616 := by
  simp [IntKind.wrap, IntKind.signed, IntKind.bits]
theorem wrap_u32 (x : Int) : IntKind.u32.wrap x = x % 4294967296 := by
  simp [IntKind.wrap, IntKind.signed, IntKind.bits]
theorem wrap_u16 (x : Int) : IntKind.u16.wrap x = x % 65536 := by
  simp [IntKind.wrap, IntKind.signed, IntKind.bits]
theorem wrap_u8 (x : Int) : IntKind.u8.wrap x = x % 256 := by
  simp [IntKind.wrap, IntKind.signed, IntKind.bits]
theorem wrap_in_u64 (x : Int) (h : 0 ≤ x) (h' : x ≤ 18446744073709551615) : IntKind.u64.wrap x = x := by rw [wrap_u64]; omega
theorem wrap_in_u32 (x : Int) (h : 0 ≤ x) (h' : x ≤ 4294967295) : IntKind.u32.wrap x = x := by rw [wrap_u32]; omega
theorem wrap_in_u16 (x : Int) (h : 0 ≤ x) (h' : x ≤ 65535) : IntKind.u16.wrap x = x := by rw [wrap_u16]; omega
theorem wrap_in_u8 (x : Int) (h : 0 ≤ x) (h' : x ≤ 255) : IntKind.u8.wrap x = x := by rw [wrap_u8]; omega
theorem tdiv_in (x y : Int) (h : 0 ≤ x) : x.tdiv y = x / y := Int.tdiv_eq_ediv_of_nonneg h
theorem tmod_in (x y : Int) (h : 0 ≤ x) : x.tmod y = x % y := Int.tmod_eq_emod_of_nonneg h
theorem beq_pos (x y : Int) (h : x = y) : (x == y) = true := beq_iff_eq.2 h
theorem beq_neg (x y : Int) (h : ¬ x = y) : (x == y) = false := beq_eq_false_iff_ne.2 h
theorem bne_pos (x y : Int) (h : ¬ x = y) : (x != y) = true := bne_iff_ne.2 h
theorem bne_neg (x y : Int) (h : x = y) : (x != y) = false := by rw [h]; simp
theorem dec_pos (p : Prop) [Decidable p] (h : p) : decide p = true := decide_eq_true h
theorem dec_neg (p : Prop) [Decidable p] (h : ¬ p) : decide p = false := decide_eq_false h

section
variable {P : Program} {d : Option Nat} {ty : TypeId} {pos : String} {af : Array Edge} {g : Option (Nat × Bool)} {e : Env} {s : St} {K : Env → St → Prop}
theorem st_alloc (t : TypeId) : xstep P ⟨d, .alloc t, ty, pos, af, g⟩ e s K = (dstOk d e.n = true ∧ onO (tiOf P t) (KA K e d s)) := by
  unfold xstep xop
  simp only [calleeOf]
  congr 1
  cases tiOf P t <;> rfl
theorem st_load (t : TypeId) (x : Operand) : xstep P ⟨d, .load t x, ty, pos, af, g⟩ e s K = (dstOk d e.n = true ∧ onO (xload P s t (e.ev x)) (K1 K e d s)) := by
  unfold xstep xop
  simp only [calleeOf]
  congr 1
  cases xload P s t (e.ev x) <;> rfl
theorem st_store (t : TypeId) (p x : Operand) : xstep P ⟨d, .store t p x, ty, pos, af, g⟩ e s K = (dstOk d e.n = true ∧ onO (xstore P s t (e.ev p) (e.ev x)) (K3 K e d)) := by
  unfold xstep xop
  simp only [calleeOf]
  congr 1
  cases xstore P s t (e.ev p) (e.ev x) <;> rfl
theorem st_bin (op : BinOp) (t u : TypeId) (x y : Operand) : xstep P ⟨d, .binOp op t x y u, ty, pos, af, g⟩ e s K = (dstOk d e.n = true ∧ onO (xbin P op t (isK x) (isK y) (e.ev x) (e.ev y)) (K4 K e d s)) := by
  unfold xstep xop
  simp only [calleeOf]
  congr 1
  cases xbin P op t (isK x) (isK y) (e.ev x) (e.ev y) <;> rfl
theorem st_un (op : UnOp) (t : TypeId) (x : Operand) : xstep P ⟨d, .unOp op t x, ty, pos, af, g⟩ e s K = (dstOk d e.n = true ∧ onO (xun op (e.ev x)) (K1 K e d s)) := by
  unfold xstep xop
  simp only [calleeOf]
  congr 1
  cases xun op (e.ev x) <;> rfl
theorem st_conv (t u : TypeId) (x : Operand) : xstep P ⟨d, .convert t u x, ty, pos, af, g⟩ e s K = (dstOk d e.n = true ∧ onO (xconv P s t u (e.ev x)) (K1 K e d s)) := by
  unfold xstep xop
  simp only [calleeOf]
  congr 1
  cases xconv P s t u (e.ev x) <;> rfl
theorem st_slice (t : TypeId) (x : Operand) (lo hi : Option Operand) : xstep P ⟨d, .slice t x lo hi none, ty, pos, af, g⟩ e s K = (dstOk d e.n = true ∧ onO (xslice P t (e.ev x) (lo.map e.ev) (hi.map e.ev)) (K1 K e d s)) := by
  unfold xstep xop
  simp only [calleeOf]
  congr 1
  cases xslice P t (e.ev x) (lo.map e.ev) (hi.map e.ev) <;> rfl
theorem st_indexAddr (t : TypeId) (x i : Operand) : xstep P ⟨d, .indexAddr t x i, ty, pos, af, g⟩ e s K = (dstOk d e.n = true ∧ onO (xindexAddr P t (e.ev x) (e.ev i)) (K1 K e d s)) := by
  unfold xstep xop
  simp only [calleeOf]
  congr 1
  cases xindexAddr P t (e.ev x) (e.ev i) <;> rfl
theorem st_index (t : TypeId) (x i : Operand) : xstep P ⟨d, .index t x i, ty, pos, af, g⟩ e s K = (dstOk d e.n = true ∧ onO (xindex P t (e.ev x) (e.ev i)) (K1 K e d s)) := by
  unfold xstep xop
  simp only [calleeOf]
  congr 1
  cases xindex P t (e.ev x) (e.ev i) <;> rfl
theorem st_make (t : TypeId) (l c : Operand) : xstep P ⟨d, .makeSlice t l c, ty, pos, af, g⟩ e s K = (dstOk d e.n = true ∧ onO (xmake P s t (e.ev l) (e.ev c)) (K2 K e d)) := by
  unfold xstep xop
  simp only [calleeOf]
  congr 1
  cases xmake P s t (e.ev l) (e.ev c) <;> rfl
theorem st_buildSlice (t : TypeId) (n : Nat) (ps : Array (Nat × Operand)) : xstep P ⟨d, .buildSlice t n ps, ty, pos, af, g⟩ e s K = (dstOk d e.n = true ∧ onO (xbuildSlice P s t n (ps.toList.map fun p => (p.1, e.ev p.2))) (K2 K e d)) := by
  unfold xstep xop
  simp only [calleeOf]
  congr 1
  cases xbuildSlice P s t n (ps.toList.map fun p => (p.1, e.ev p.2)) <;> rfl
theorem st_builtin (b : Builtin) (xs : Array Operand) (ts : Array TypeId) : xstep P ⟨d, .call ⟨.builtin b, xs, ts⟩, ty, pos, af, g⟩ e s K = (dstOk d e.n = true ∧ onO (xbuiltin P s b (xs.toList.map e.ev) ts.toList) (K2 K e d)) := by
  unfold xstep xop
  simp only [calleeOf]
  congr 1
  cases xbuiltin P s b (xs.toList.map e.ev) ts.toList <;> rfl
theorem st_move (x : Operand) : xstep P ⟨d, .move x, ty, pos, af, g⟩ e s K = (dstOk d e.n = true ∧ onV (e.ev x) (K1 K e d s)) := rfl
theorem st_assign (x : Operand) : xstep P ⟨d, .assign x, ty, pos, af, g⟩ e s K = (dstOk d e.n = true ∧ onV (e.ev x) (K1 K e d s)) := rfl
theorem st_pick (c x y : Operand) : xstep P ⟨d, .pick c x y, ty, pos, af, g⟩ e s K = (dstOk d e.n = true ∧ onV (e.ev c) (KP K e d s x y)) := by
  unfold xstep xop
  simp only [calleeOf]
  congr 1
  unfold onV
  generalize e.ev c = z
  cases z with
  | v u =>
    cases u with
    | bool t => cases t <;> rfl
    | _ => rfl
  | _ => rfl
theorem st_box (t : TypeId) (x : Operand) : xstep P ⟨d, .box t x, ty, pos, af, g⟩ e s K = (dstOk d e.n = true ∧ onV (e.ev x) (KB K e d s)) := by
  unfold xstep xop
  simp only [calleeOf]
  congr 1
  unfold onV
  generalize e.ev x = z
  unfold KB
  by_cases h : z.boxable = true <;> simp [h]
theorem st_fieldAddr (t : TypeId) (x : Operand) (f : Nat) : xstep P ⟨d, .fieldAddr t x f, ty, pos, af, g⟩ e s K = (dstOk d e.n = true ∧ onV (e.ev x) (KF P t f K e d s)) := by
  unfold xstep xop
  simp only [calleeOf]
  congr 1
  unfold onV
  generalize e.ev x = z
  unfold KF
  cases z <;> simp only <;> first | rfl | (generalize xfield P t _ f = o; cases o <;> rfl)
theorem st_field (t : TypeId) (x : Operand) (f : Nat) : xstep P ⟨d, .field t x f, ty, pos, af, g⟩ e s K = (dstOk d e.n = true ∧ onV (e.ev x) (KD P t f K e d s)) := by
  unfold xstep xop
  simp only [calleeOf]
  congr 1
  unfold onV
  generalize e.ev x = z
  unfold KD
  cases z <;> simp only <;> first | rfl | (generalize xfield P t _ f = o; cases o <;> rfl)
theorem st_nilCheck (x : Operand) : xstep P ⟨d, .nilCheck x, ty, pos, af, g⟩ e s K = (dstOk d e.n = true ∧ onV (e.ev x) (KN K e d s)) := by
  unfold xstep xop
  simp only [calleeOf]
  congr 1
  unfold onV
  generalize e.ev x = z
  cases z <;> rfl
theorem st_extract (x : Operand) (i : Nat) : xstep P ⟨d, .extract x i, ty, pos, af, g⟩ e s K = (dstOk d e.n = true ∧ onV (e.ev x) (KE i K e d s)) := by
  unfold xstep xop
  simp only [calleeOf]
  congr 1
  unfold onV
  generalize e.ev x = z
  unfold KE
  cases z with
  | tp c => simp only; generalize c[i]? = o; cases o <;> rfl
  | _ => rfl
theorem st_iface (t : TypeId) (x : Operand) : xstep P ⟨d, .makeInterface t x, ty, pos, af, g⟩ e s K = (dstOk d e.n = true ∧ onV (e.ev x) (KI P t K e d s)) := by
  unfold xstep xop
  simp only [calleeOf]
  congr 1
  unfold onV
  generalize e.ev x = z
  unfold KI
  generalize tiOf P t = o
  cases o with
  | none => rfl
  | some ti =>
    cases z with
    | v u => simp only; generalize ti.k = q; cases q <;> rfl
    | _ => rfl
theorem st_build (t : TypeId) (ps : Array (Nat × Operand)) : xstep P ⟨d, .build t ps, ty, pos, af, g⟩ e s K = (dstOk d e.n = true ∧ onO (xbuild P t (ps.toList.map fun p => (p.1, e.ev p.2))) (K1 K e d s)) := by
  unfold xstep xop xbuild
  simp only [calleeOf]
  congr 1
  cases tiOf P t with
  | none => rfl
  | some ti =>
    simp only
    cases ti.k with
    | st fs =>
      simp only
      cases fs.mapM (fun f => (tiOf P f.2).map fun fi => (f.1, fi.size)) with
      | none => rfl
      | some places =>
        simp only
        cases fillA (places[·]?) (ti.zero.map .v) (ps.toList.map fun p => (p.1, e.ev p.2)) <;> rfl
    | _ => rfl
theorem st_call (f : FuncId) (xs : Array Operand) (ts : Array TypeId) : xstep P ⟨d, .call ⟨.value (.func f), xs, ts⟩, ty, pos, af, g⟩ e s K = (dstOk d e.n = true ∧ ACall P f (xs.toList.map e.ev) s (ContS K e d)) := by
  unfold xstep ContS
  simp [calleeOf, Env.ev]
theorem go_plain {ops : Array Oper} (op : Op) : xgo P ops ⟨d, op, ty, pos, af, none⟩ e s K = xstep P ⟨d, op, ty, pos, af, none⟩ e s K := by
  unfold xgo xguard
  simp
theorem go_guard {ops : Array Oper} (op : Op) (j : Nat) (want : Bool) : xgo P ops ⟨d, op, ty, pos, af, some (j, want)⟩ e s K = onO (gval ((ops[j]?).bind (·.dst)) e want) (KG P ⟨d, op, ty, pos, af, some (j, want)⟩ e s K) := by
  unfold xgo onO KG
  have : xguard ops ⟨d, op, ty, pos, af, some (j, want)⟩ e = gval ((ops[j]?).bind (·.dst)) e want := rfl
  rw [this]
  generalize gval ((ops[j]?).bind (·.dst)) e want = q
  cases q with
  | none => rfl
  | some b => cases b <;> simp
theorem ops_nil {ops : Array Oper} (d' : Option Nat) (z : AV) : xops P ops [] (e.put d' z) s K = K (e.put d' z) s := rfl
theorem ops_cons {ops : Array Oper} (o : Oper) (r : List Oper) (d' : Option Nat) (z : AV) : xops P ops (o :: r) (e.put d' z) s K = xgo P ops o (e.put d' z) s (Rest P ops r K) := rfl
theorem rest_go {ops : Array Oper} (r : List Oper) (d' : Option Nat) (z : AV) : Rest P ops r K (e.put d' z) s = xops P ops r (e.put d' z) s K := rfl
theorem k1_go (z : AV) : K1 K e d s z = K (e.put d z) s := rfl
theorem k2_go (z : AV) : K2 K e d (z, s) = K (e.put d z) s := rfl
theorem k3_go  : K3 K e d s = K (e.put d .no) s := rfl
theorem k4_go (v : Value) : K4 K e d s v = K (e.put d (.v v)) s := rfl
theorem kg_true (o : Oper) : KG P o e s K true = xstep P o e s K := rfl
theorem kg_false (op : Op) : KG P ⟨d, op, ty, pos, af, g⟩ e s K false = (dstOk d e.n = true ∧ K (e.put d (.v undef)) s) := by unfold KG; simp
theorem kp_true (x y : Operand) : KP K e d s x y (.v (.bool true)) = onV (e.ev x) (K1 K e d s) := rfl
theorem kp_false (x y : Operand) : KP K e d s x y (.v (.bool false)) = onV (e.ev y) (K1 K e d s) := rfl
theorem ka_go (q : Go.Proofs.YtppmamcoehhopaaDoor.Ax.K) (n m : Nat) (l : List Value) : KA K e d s ⟨q, n, m, l⟩ = K (e.put d (.ptr s.nx 0)) (s.push (l.map .v)) := rfl
theorem kb_go (z : AV) : KB K e d s z = (z.boxable = true ∧ K (e.put d (.ptr s.nx 0)) (s.push z.cells)) := rfl
theorem kf_rf (t : TypeId) (f : Nat) (c : List AV) : KF P t f K e d s (.rf c) = onO (xfield P t (.rf c) f) (K1 K e d s) := rfl
theorem kf_ptr (t : TypeId) (f : Nat) (id off : Nat) : KF P t f K e d s (.ptr id off) = onO (xfield P t (.ptr id off) f) (K1 K e d s) := rfl
theorem kd_ag (t : TypeId) (f : Nat) (c : List AV) : KD P t f K e d s (.ag c) = onO (xfield P t (.ag c) f) (K1 K e d s) := rfl
theorem kn_rf (c : List AV) : KN K e d s (.rf c) = K (e.put d (.rf c)) s := rfl
theorem kn_ptr (id off : Nat) : KN K e d s (.ptr id off) = K (e.put d (.ptr id off)) s := rfl
theorem ke_tp (i : Nat) (c : List AV) : KE i K e d s (.tp c) = onO (c[i]?) (K1 K e d s) := rfl
end
theorem hd_int (f : Int → AV) (xs : List Int) (i : Nat) (h : i < xs.length) : ((xs.map f).drop i).head? = some (f (xs.getD i 0)) := by
  rw [List.head?_drop, List.getElem?_map, List.getElem?_eq_getElem h, List.getD_eq_getElem?_getD, List.getElem?_eq_getElem h]; rfl
theorem hd_nat (f : Nat → AV) (xs : List Nat) (i : Nat) (h : i < xs.length) : ((xs.map f).drop i).head? = some (f (xs.getD i 0)) := by
  rw [List.head?_drop, List.getElem?_map, List.getElem?_eq_getElem h, List.getD_eq_getElem?_getD, List.getElem?_eq_getElem h]; rfl
theorem toNat_pred (n : Nat) : ((n : Int) - 1).toNat = n - 1 := by omega
theorem toNat_succ (n : Nat) : ((n : Int) + 1).toNat = n + 1 := by omega
theorem toNat_nat (n : Nat) : (n : Int).toNat = n := by omega
theorem bb_true (b : Bool) : (b == true) = b := by cases b <;> rfl
theorem bb_false (b : Bool) : (b == false) = !b := by cases b <;> rfl
theorem nx_push (s : St) (c : List AV) : (s.push c).nx = s.nx + 1 := rfl
theorem nx_set (s : St) (i : Nat) (c : List AV) : (s.set i c).nx = s.nx := rfl
theorem nx_kill (s : St) (i : Nat) : (s.kill i).nx = s.nx := rfl
theorem acall_frz {P : Program} {f : FuncId} {zs : List AV} {s : St} {R : AV → St → Prop} (i : Nat) (c : List AV) (hi : s.get i = some c) (g : Nat → Bool) (h : ACall P f (zs.map (frz i c)) (s.frz i c g) R) : ACall P f zs s R := by
  refine ⟨h.1, fun w0 k w vs hs hv => ?_⟩
  obtain ⟨k', h1, h2, h3, h4, h5⟩ := sim_frz hs hi g
  refine (h.2 w0 k' w vs h4 ⟨by rw [List.length_map]; exact hv.1, fun j z u hz hu => ?_⟩).mono ?_
  · rw [List.getElem?_map] at hz
    cases hj : zs[j]? with
    | none => rw [hj] at hz; cases hz
    | some y =>
      rw [hj] at hz
      injection hz with hz
      subst hz
      exact h5 _ _ (hv.2 j y u hj hu)
  · rintro en w' ⟨v, r, s', k'', q1, q2, q3, q4, q5⟩
    exact ⟨v, r, s', k'', q1, q2, q3, q4, q5.1, fun j hj => by rw [q5.2.1 j hj, h1], fun a u ha => q5.2.2 a u (h3 a u ha)⟩
theorem idf_v (x : Value) : idf (.v x) = true := rfl
theorem idf_sl (n : Nat) (c : List AV) : idf (.sl n c) = idf.idfL c := rfl
theorem idf_rf (c : List AV) : idf (.rf c) = idf.idfL c := rfl
theorem idf_ag (c : List AV) : idf (.ag c) = idf.idfL c := rfl
theorem idf_tp (c : List AV) : idf (.tp c) = idf.idfL c := rfl
theorem idfL_nil : idf.idfL [] = true := rfl
theorem idfL_cons (z : AV) (l : List AV) : idf.idfL (z :: l) = (idf z && idf.idfL l) := rfl
theorem idfL_mapv {α : Type} (f : α → Value) (l : List α) : idf.idfL (l.map fun x => .v (f x)) = true := by
  rw [idfL_iff]
  intro z hz
  obtain ⟨x, _, rfl⟩ := List.mem_map.1 hz
  rfl
theorem one_mapv {α : Type} (f : α → IntKind × Int) (l : List α) : (l.map fun x => AV.v (.int (f x).1 (f x).2)).all AV.one = true := by
  rw [List.all_eq_true]
  intro z hz
  obtain ⟨x, _, rfl⟩ := List.mem_map.1 hz
  rfl
theorem one_mapi {α : Type} (k : IntKind) (f : α → Int) (l : List α) : (l.map fun x => AV.v (.int k (f x))).all AV.one = true := by
  rw [List.all_eq_true]
  intro z hz
  obtain ⟨x, _, rfl⟩ := List.mem_map.1 hz
  rfl
theorem len_map {α β : Type} (f : α → β) (l : List α) : (l.map f).length = l.length := List.length_map _
theorem getElem_map {α : Type} (f : α → AV) (l : List α) (i : Nat) : (l.map f)[i]? = (l[i]?).map f := List.getElem?_map ..
theorem frz_own (i : Nat) (c : List AV) (off n sz : Nat) : frz i c (.own i off n sz) = .sl n ((c.drop off).take (n * sz)) := by rw [frz, if_pos rfl]
theorem frz_ptr (i : Nat) (c : List AV) (off : Nat) : frz i c (.ptr i off) = .rf (c.drop off) := by rw [frz, if_pos rfl]
theorem frz_own_ne (i j : Nat) (c : List AV) (off n sz : Nat) (h : ¬ j = i) : frz i c (.own j off n sz) = .own j off n sz := by rw [frz, if_neg h]
theorem frz_ptr_ne (i j : Nat) (c : List AV) (off : Nat) (h : ¬ j = i) : frz i c (.ptr j off) = .ptr j off := by rw [frz, if_neg h]
theorem frz_v (i : Nat) (c : List AV) (x : Value) : frz i c (.v x) = .v x := rfl
theorem frz_no (i : Nat) (c : List AV) : frz i c .no = .no := rfl
theorem frzL_nil (i : Nat) (c : List AV) : frz.frzL i c [] = [] := rfl
theorem frzL_cons (i : Nat) (c : List AV) (z : AV) (l : List AV) : frz.frzL i c (z :: l) = frz i c z :: frz.frzL i c l := rfl
theorem frz_idf (i : Nat) (c : List AV) : ∀ (z : AV), idf z = true → frz i c z = z
  | .v _, _ => rfl
  | .no, _ => rfl
  | .own .., h => by cases h
  | .ptr .., h => by cases h
  | .sl n l, h => by rw [frz, frzL_idf i c l h]
  | .rf l, h => by rw [frz, frzL_idf i c l h]
  | .ag l, h => by rw [frz, frzL_idf i c l h]
  | .tp l, h => by rw [frz, frzL_idf i c l h]
where frzL_idf (i : Nat) (c : List AV) : ∀ (l : List AV), idf.idfL l = true → frz.frzL i c l = l
  | [], _ => rfl
  | z :: l, h => by
    rw [idfL_cons, Bool.and_eq_true] at h
    rw [frz.frzL, frz_idf i c z h.1, frzL_idf i c l h.2]
theorem frz_e (e : Env) (i : Nat) (c : List AV) (t : Nat) : (e.frz i c).m t = frz i c (e.m t) := rfl
theorem frz_n (e : Env) (i : Nat) (c : List AV) : (e.frz i c).n = e.n := rfl
theorem frz_get (s : St) (i : Nat) (c : List AV) (g : Nat → Bool) (j : Nat) : (s.frz i c g).get j = if j = i then none else if g j then (s.get j).map (frz.frzL i c) else s.get j := rfl
theorem frz_nx (s : St) (i : Nat) (c : List AV) (g : Nat → Bool) : (s.frz i c g).nx = s.nx := rfl
theorem take_map_len {α : Type} (f : α → AV) (l : List α) (n : Nat) (h : l.length = n) : (l.map f).take n = l.map f := List.take_of_length_le (by rw [List.length_map]; omega)
theorem drop_zero' {α : Type} (l : List α) : l.drop 0 = l := rfl
theorem upd_at (m : Nat → AV) (i : Nat) (z : AV) (t : Nat) : upd m i z t = if i = t then z else m t := rfl
theorem noM_at (t : Nat) : noM t = .no := rfl
theorem ev_tmp (e : Env) (t : Nat) : e.ev (.tmp t) = e.m t := rfl
theorem ev_const (e : Env) (v : Value) : e.ev (.const v) = .v v := rfl
theorem ev_func (e : Env) (f : FuncId) : e.ev (.func f) = .v (.func (.func f) #[] #[]) := rfl
theorem ev_global (e : Env) (g : Nat) : e.ev (.global g) = .v (.pointer (some ⟨g, 0, none⟩)) := rfl
theorem dst_none (n : Nat) : dstOk none n = true := rfl
theorem dst_some (t n : Nat) : dstOk (some t) n = decide (t < n) := rfl
theorem then_normal (P : Program) (y : Code) (m0 : Nat) (Q : Exit → Env → St → Prop) (e : Env) (s : St) : andThen P y m0 Q .normal e s = AW P y m0 e s Q := rfl
theorem then_exit (P : Program) (y : Code) (m0 : Nat) (Q : Exit → Env → St → Prop) (i : Nat) (e : Env) (s : St) : andThen P y m0 Q (.exit i) e s = Q (.exit i) e s := rfl
theorem then_ret (P : Program) (y : Code) (m0 : Nat) (Q : Exit → Env → St → Prop) (e : Env) (s : St) : andThen P y m0 Q .ret e s = Q .ret e s := rfl
theorem block_normal (id : Nat) (Q : Exit → Env → St → Prop) (e : Env) (s : St) : inBlock id Q .normal e s = Q .normal e s := rfl
theorem block_ret (id : Nat) (Q : Exit → Env → St → Prop) (e : Env) (s : St) : inBlock id Q .ret e s = Q .ret e s := rfl
theorem block_exit (id i : Nat) (Q : Exit → Env → St → Prop) (e : Env) (s : St) : inBlock id Q (.exit i) e s = if i = id then Q .normal e s else Q (.exit i) e s := rfl
theorem loop_normal (I : Nat → Env → St → Prop) (n : Nat) (Q : Exit → Env → St → Prop) (e : Env) (s : St) : inLoop I n Q .normal e s = ∃ n', n' < n ∧ I n' e s := rfl
theorem loop_ret (I : Nat → Env → St → Prop) (n : Nat) (Q : Exit → Env → St → Prop) (e : Env) (s : St) : inLoop I n Q .ret e s = Q .ret e s := rfl
theorem loop_exit (I : Nat → Env → St → Prop) (n : Nat) (Q : Exit → Env → St → Prop) (i : Nat) (e : Env) (s : St) : inLoop I n Q (.exit i) e s = Q (.exit i) e s := rfl
theorem post_normal (P : Program) (rs : List ResultVar) (R : AV → St → Prop) (e : Env) (s : St) : fpost P rs R .normal e s = onO (resA P e s rs) fun l => R (retA l) s := by unfold fpost onO; simp only; cases resA P e s rs <;> rfl
theorem post_ret (P : Program) (rs : List ResultVar) (R : AV → St → Prop) (e : Env) (s : St) : fpost P rs R .ret e s = onO (resA P e s rs) fun l => R (retA l) s := by unfold fpost onO; simp only; cases resA P e s rs <;> rfl
theorem push_get (s : St) (c : List AV) (j : Nat) : (s.push c).get j = if j = s.nx then some c else s.get j := rfl
theorem set_get (s : St) (i : Nat) (c : List AV) (j : Nat) : (s.set i c).get j = if j = i then some c else s.get j := rfl
theorem kill_get (s : St) (i : Nat) (j : Nat) : (s.kill i).get j = if j = i then none else s.get j := rfl
theorem put_m (e : Env) (t : Nat) (z : AV) (t' : Nat) : (e.put (some t) z).m t' = if t = t' then z else e.m t' := rfl
theorem put_m0 (e : Env) (z : AV) (t' : Nat) : (e.put none z).m t' = e.m t' := rfl
theorem put_n (e : Env) (d : Option Nat) (z : AV) : (e.put d z).n = e.n := Env.put_n e d z
theorem aw_reg {P : Program} {m0 : Nat} {e : Env} {s : St} {Q : Exit → Env → St → Prop} {id : Nat} {l : List Oper} (h : ∀ K : Env → St → Prop, (∀ e s, Q .normal e s → K e s) → xops P l.toArray l (e.put none .no) s K) : AW P (.region id l.toArray false) m0 e s Q :=
  aw_region (h _ fun _ _ h => h)
theorem cont_go {P : Program} {f : FuncId} {zs : List AV} {s : St} {K : Env → St → Prop} {e : Env} {d : Option Nat} {R : AV → St → Prop} (hc : ACall P f zs s R) (h : ∀ r s', R r s' → K (e.put d r) s') : ACall P f zs s (ContS K e d) := hc.mono h
theorem cont_pure {P : Program} {f : FuncId} {zs : List AV} {r : AV} {s : St} {K : Env → St → Prop} {e : Env} {d : Option Nat} (hc : PCall P f zs r) (h : K (e.put d r) s) : ACall P f zs s (ContS K e d) := hc.then h
/-- The rows that a walk rewrites by: what an operation is. -/
theorem core :
    (∀ (P : Program) (d : Option Nat) (ty : TypeId) (pos : String) (af : Array Edge) (g : Option (Nat × Bool)) (e : Env) (s : St) (K : Env → St → Prop) (t : TypeId), xstep P ⟨d, .alloc t, ty, pos, af, g⟩ e s K = (dstOk d e.n = true ∧ onO (tiOf P t) (KA K e d s))) ∧
    (∀ (P : Program) (d : Option Nat) (ty : TypeId) (pos : String) (af : Array Edge) (g : Option (Nat × Bool)) (e : Env) (s : St) (K : Env → St → Prop) (t : TypeId) (x : Operand), xstep P ⟨d, .load t x, ty, pos, af, g⟩ e s K = (dstOk d e.n = true ∧ onO (xload P s t (e.ev x)) (K1 K e d s))) ∧
    (∀ (P : Program) (d : Option Nat) (ty : TypeId) (pos : String) (af : Array Edge) (g : Option (Nat × Bool)) (e : Env) (s : St) (K : Env → St → Prop) (t : TypeId) (p x : Operand), xstep P ⟨d, .store t p x, ty, pos, af, g⟩ e s K = (dstOk d e.n = true ∧ onO (xstore P s t (e.ev p) (e.ev x)) (K3 K e d))) ∧
    (∀ (P : Program) (d : Option Nat) (ty : TypeId) (pos : String) (af : Array Edge) (g : Option (Nat × Bool)) (e : Env) (s : St) (K : Env → St → Prop) (op : BinOp) (t u : TypeId) (x y : Operand), xstep P ⟨d, .binOp op t x y u, ty, pos, af, g⟩ e s K = (dstOk d e.n = true ∧ onO (xbin P op t (isK x) (isK y) (e.ev x) (e.ev y)) (K4 K e d s))) ∧
    (∀ (P : Program) (d : Option Nat) (ty : TypeId) (pos : String) (af : Array Edge) (g : Option (Nat × Bool)) (e : Env) (s : St) (K : Env → St → Prop) (op : UnOp) (t : TypeId) (x : Operand), xstep P ⟨d, .unOp op t x, ty, pos, af, g⟩ e s K = (dstOk d e.n = true ∧ onO (xun op (e.ev x)) (K1 K e d s))) ∧
    (∀ (P : Program) (d : Option Nat) (ty : TypeId) (pos : String) (af : Array Edge) (g : Option (Nat × Bool)) (e : Env) (s : St) (K : Env → St → Prop) (t u : TypeId) (x : Operand), xstep P ⟨d, .convert t u x, ty, pos, af, g⟩ e s K = (dstOk d e.n = true ∧ onO (xconv P s t u (e.ev x)) (K1 K e d s))) ∧
    (∀ (P : Program) (d : Option Nat) (ty : TypeId) (pos : String) (af : Array Edge) (g : Option (Nat × Bool)) (e : Env) (s : St) (K : Env → St → Prop) (t : TypeId) (x : Operand) (lo hi : Option Operand), xstep P ⟨d, .slice t x lo hi none, ty, pos, af, g⟩ e s K = (dstOk d e.n = true ∧ onO (xslice P t (e.ev x) (lo.map e.ev) (hi.map e.ev)) (K1 K e d s))) ∧
    (∀ (P : Program) (d : Option Nat) (ty : TypeId) (pos : String) (af : Array Edge) (g : Option (Nat × Bool)) (e : Env) (s : St) (K : Env → St → Prop) (t : TypeId) (x i : Operand), xstep P ⟨d, .indexAddr t x i, ty, pos, af, g⟩ e s K = (dstOk d e.n = true ∧ onO (xindexAddr P t (e.ev x) (e.ev i)) (K1 K e d s))) ∧
    (∀ (P : Program) (d : Option Nat) (ty : TypeId) (pos : String) (af : Array Edge) (g : Option (Nat × Bool)) (e : Env) (s : St) (K : Env → St → Prop) (t : TypeId) (x i : Operand), xstep P ⟨d, .index t x i, ty, pos, af, g⟩ e s K = (dstOk d e.n = true ∧ onO (xindex P t (e.ev x) (e.ev i)) (K1 K e d s))) ∧
    (∀ (P : Program) (d : Option Nat) (ty : TypeId) (pos : String) (af : Array Edge) (g : Option (Nat × Bool)) (e : Env) (s : St) (K : Env → St → Prop) (t : TypeId) (l c : Operand), xstep P ⟨d, .makeSlice t l c, ty, pos, af, g⟩ e s K = (dstOk d e.n = true ∧ onO (xmake P s t (e.ev l) (e.ev c)) (K2 K e d))) ∧
    (∀ (P : Program) (d : Option Nat) (ty : TypeId) (pos : String) (af : Array Edge) (g : Option (Nat × Bool)) (e : Env) (s : St) (K : Env → St → Prop) (t : TypeId) (n : Nat) (ps : Array (Nat × Operand)), xstep P ⟨d, .buildSlice t n ps, ty, pos, af, g⟩ e s K = (dstOk d e.n = true ∧ onO (xbuildSlice P s t n (ps.toList.map fun p => (p.1, e.ev p.2))) (K2 K e d))) ∧
    (∀ (P : Program) (d : Option Nat) (ty : TypeId) (pos : String) (af : Array Edge) (g : Option (Nat × Bool)) (e : Env) (s : St) (K : Env → St → Prop) (b : Builtin) (xs : Array Operand) (ts : Array TypeId), xstep P ⟨d, .call ⟨.builtin b, xs, ts⟩, ty, pos, af, g⟩ e s K = (dstOk d e.n = true ∧ onO (xbuiltin P s b (xs.toList.map e.ev) ts.toList) (K2 K e d))) ∧
    (∀ (P : Program) (d : Option Nat) (ty : TypeId) (pos : String) (af : Array Edge) (g : Option (Nat × Bool)) (e : Env) (s : St) (K : Env → St → Prop) (x : Operand), xstep P ⟨d, .move x, ty, pos, af, g⟩ e s K = (dstOk d e.n = true ∧ onV (e.ev x) (K1 K e d s))) ∧
    (∀ (P : Program) (d : Option Nat) (ty : TypeId) (pos : String) (af : Array Edge) (g : Option (Nat × Bool)) (e : Env) (s : St) (K : Env → St → Prop) (x : Operand), xstep P ⟨d, .assign x, ty, pos, af, g⟩ e s K = (dstOk d e.n = true ∧ onV (e.ev x) (K1 K e d s))) ∧
    (∀ (P : Program) (d : Option Nat) (ty : TypeId) (pos : String) (af : Array Edge) (g : Option (Nat × Bool)) (e : Env) (s : St) (K : Env → St → Prop) (c x y : Operand), xstep P ⟨d, .pick c x y, ty, pos, af, g⟩ e s K = (dstOk d e.n = true ∧ onV (e.ev c) (KP K e d s x y))) ∧
    (∀ (P : Program) (d : Option Nat) (ty : TypeId) (pos : String) (af : Array Edge) (g : Option (Nat × Bool)) (e : Env) (s : St) (K : Env → St → Prop) (t : TypeId) (x : Operand), xstep P ⟨d, .box t x, ty, pos, af, g⟩ e s K = (dstOk d e.n = true ∧ onV (e.ev x) (KB K e d s))) ∧
    (∀ (P : Program) (d : Option Nat) (ty : TypeId) (pos : String) (af : Array Edge) (g : Option (Nat × Bool)) (e : Env) (s : St) (K : Env → St → Prop) (t : TypeId) (x : Operand) (f : Nat), xstep P ⟨d, .fieldAddr t x f, ty, pos, af, g⟩ e s K = (dstOk d e.n = true ∧ onV (e.ev x) (KF P t f K e d s))) ∧
    (∀ (P : Program) (d : Option Nat) (ty : TypeId) (pos : String) (af : Array Edge) (g : Option (Nat × Bool)) (e : Env) (s : St) (K : Env → St → Prop) (t : TypeId) (x : Operand) (f : Nat), xstep P ⟨d, .field t x f, ty, pos, af, g⟩ e s K = (dstOk d e.n = true ∧ onV (e.ev x) (KD P t f K e d s))) ∧
    (∀ (P : Program) (d : Option Nat) (ty : TypeId) (pos : String) (af : Array Edge) (g : Option (Nat × Bool)) (e : Env) (s : St) (K : Env → St → Prop) (x : Operand), xstep P ⟨d, .nilCheck x, ty, pos, af, g⟩ e s K = (dstOk d e.n = true ∧ onV (e.ev x) (KN K e d s))) ∧
    (∀ (P : Program) (d : Option Nat) (ty : TypeId) (pos : String) (af : Array Edge) (g : Option (Nat × Bool)) (e : Env) (s : St) (K : Env → St → Prop) (x : Operand) (i : Nat), xstep P ⟨d, .extract x i, ty, pos, af, g⟩ e s K = (dstOk d e.n = true ∧ onV (e.ev x) (KE i K e d s))) ∧
    (∀ (P : Program) (d : Option Nat) (ty : TypeId) (pos : String) (af : Array Edge) (g : Option (Nat × Bool)) (e : Env) (s : St) (K : Env → St → Prop) (t : TypeId) (x : Operand), xstep P ⟨d, .makeInterface t x, ty, pos, af, g⟩ e s K = (dstOk d e.n = true ∧ onV (e.ev x) (KI P t K e d s))) ∧
    (∀ (P : Program) (d : Option Nat) (ty : TypeId) (pos : String) (af : Array Edge) (g : Option (Nat × Bool)) (e : Env) (s : St) (K : Env → St → Prop) (t : TypeId) (ps : Array (Nat × Operand)), xstep P ⟨d, .build t ps, ty, pos, af, g⟩ e s K = (dstOk d e.n = true ∧ onO (xbuild P t (ps.toList.map fun p => (p.1, e.ev p.2))) (K1 K e d s))) ∧
    (∀ (P : Program) (d : Option Nat) (ty : TypeId) (pos : String) (af : Array Edge) (g : Option (Nat × Bool)) (e : Env) (s : St) (K : Env → St → Prop) (f : FuncId) (xs : Array Operand) (ts : Array TypeId), xstep P ⟨d, .call ⟨.value (.func f), xs, ts⟩, ty, pos, af, g⟩ e s K = (dstOk d e.n = true ∧ ACall P f (xs.toList.map e.ev) s (ContS K e d))) ∧
    (∀ (P : Program) (d : Option Nat) (ty : TypeId) (pos : String) (af : Array Edge) (e : Env) (s : St) (K : Env → St → Prop) (ops : Array Oper) (op : Op), xgo P ops ⟨d, op, ty, pos, af, none⟩ e s K = xstep P ⟨d, op, ty, pos, af, none⟩ e s K) ∧
    (∀ (P : Program) (d : Option Nat) (ty : TypeId) (pos : String) (af : Array Edge) (e : Env) (s : St) (K : Env → St → Prop) (ops : Array Oper) (op : Op) (j : Nat) (want : Bool), xgo P ops ⟨d, op, ty, pos, af, some (j, want)⟩ e s K = onO (gval ((ops[j]?).bind (·.dst)) e want) (KG P ⟨d, op, ty, pos, af, some (j, want)⟩ e s K)) ∧
    (∀ (P : Program) (e : Env) (s : St) (K : Env → St → Prop) (ops : Array Oper) (d' : Option Nat) (z : AV), xops P ops [] (e.put d' z) s K = K (e.put d' z) s) ∧
    (∀ (P : Program) (e : Env) (s : St) (K : Env → St → Prop) (ops : Array Oper) (o : Oper) (r : List Oper) (d' : Option Nat) (z : AV), xops P ops (o :: r) (e.put d' z) s K = xgo P ops o (e.put d' z) s (Rest P ops r K)) ∧
    (∀ (P : Program) (e : Env) (s : St) (K : Env → St → Prop) (ops : Array Oper) (r : List Oper) (d' : Option Nat) (z : AV), Rest P ops r K (e.put d' z) s = xops P ops r (e.put d' z) s K) ∧
    (∀ (d : Option Nat) (e : Env) (s : St) (K : Env → St → Prop) (z : AV), K1 K e d s z = K (e.put d z) s) ∧
    (∀ (d : Option Nat) (e : Env) (s : St) (K : Env → St → Prop) (z : AV), K2 K e d (z, s) = K (e.put d z) s) ∧
    (∀ (d : Option Nat) (e : Env) (s : St) (K : Env → St → Prop), K3 K e d s = K (e.put d .no) s) ∧
    (∀ (d : Option Nat) (e : Env) (s : St) (K : Env → St → Prop) (v : Value), K4 K e d s v = K (e.put d (.v v)) s) ∧
    (∀ (P : Program) (e : Env) (s : St) (K : Env → St → Prop) (o : Oper), KG P o e s K true = xstep P o e s K) ∧
    (∀ (P : Program) (d : Option Nat) (ty : TypeId) (pos : String) (af : Array Edge) (g : Option (Nat × Bool)) (e : Env) (s : St) (K : Env → St → Prop) (op : Op), KG P ⟨d, op, ty, pos, af, g⟩ e s K false = (dstOk d e.n = true ∧ K (e.put d (.v undef)) s)) ∧
    (∀ (d : Option Nat) (e : Env) (s : St) (K : Env → St → Prop) (x y : Operand), KP K e d s x y (.v (.bool true)) = onV (e.ev x) (K1 K e d s)) ∧
    (∀ (d : Option Nat) (e : Env) (s : St) (K : Env → St → Prop) (x y : Operand), KP K e d s x y (.v (.bool false)) = onV (e.ev y) (K1 K e d s)) ∧
    (∀ (d : Option Nat) (e : Env) (s : St) (K : Env → St → Prop) (q : Go.Proofs.YtppmamcoehhopaaDoor.Ax.K) (n m : Nat) (l : List Value), KA K e d s ⟨q, n, m, l⟩ = K (e.put d (.ptr s.nx 0)) (s.push (l.map .v))) ∧
    (∀ (d : Option Nat) (e : Env) (s : St) (K : Env → St → Prop) (z : AV), KB K e d s z = (z.boxable = true ∧ K (e.put d (.ptr s.nx 0)) (s.push z.cells))) ∧
    (∀ (P : Program) (d : Option Nat) (e : Env) (s : St) (K : Env → St → Prop) (t : TypeId) (f : Nat) (c : List AV), KF P t f K e d s (.rf c) = onO (xfield P t (.rf c) f) (K1 K e d s)) ∧
    (∀ (P : Program) (d : Option Nat) (e : Env) (s : St) (K : Env → St → Prop) (t : TypeId) (f : Nat) (id off : Nat), KF P t f K e d s (.ptr id off) = onO (xfield P t (.ptr id off) f) (K1 K e d s)) ∧
    (∀ (P : Program) (d : Option Nat) (e : Env) (s : St) (K : Env → St → Prop) (t : TypeId) (f : Nat) (c : List AV), KD P t f K e d s (.ag c) = onO (xfield P t (.ag c) f) (K1 K e d s)) ∧
    (∀ (d : Option Nat) (e : Env) (s : St) (K : Env → St → Prop) (c : List AV), KN K e d s (.rf c) = K (e.put d (.rf c)) s) ∧
    (∀ (d : Option Nat) (e : Env) (s : St) (K : Env → St → Prop) (id off : Nat), KN K e d s (.ptr id off) = K (e.put d (.ptr id off)) s) ∧
    (∀ (d : Option Nat) (e : Env) (s : St) (K : Env → St → Prop) (i : Nat) (c : List AV), KE i K e d s (.tp c) = onO (c[i]?) (K1 K e d s)) :=
  ⟨(by intros; apply st_alloc), (by intros; apply st_load), (by intros; apply st_store), (by intros; apply st_bin), (by intros; apply st_un), (by intros; apply st_conv), (by intros; apply st_slice), (by intros; apply st_indexAddr), (by intros; apply st_index), (by intros; apply st_make), (by intros; apply st_buildSlice), (by intros; apply st_builtin), (by intros; apply st_move), (by intros; apply st_assign), (by intros; apply st_pick), (by intros; apply st_box), (by intros; apply st_fieldAddr), (by intros; apply st_field), (by intros; apply st_nilCheck), (by intros; apply st_extract), (by intros; apply st_iface), (by intros; apply st_build), (by intros; apply st_call), (by intros; apply go_plain), (by intros; apply go_guard), (by intros; apply ops_nil), (by intros; apply ops_cons), (by intros; apply rest_go), (by intros; apply k1_go), (by intros; apply k2_go), (by intros; apply k3_go), (by intros; apply k4_go), (by intros; apply kg_true), (by intros; apply kg_false), (by intros; apply kp_true), (by intros; apply kp_false), (by intros; apply ka_go), (by intros; apply kb_go), (by intros; apply kf_rf), (by intros; apply kf_ptr), (by intros; apply kd_ag), (by intros; apply kn_rf), (by intros; apply kn_ptr), (by intros; apply ke_tp)⟩
/-- The rows about slots, ways and plain numbers. -/
theorem more :
    (∀ (m : Nat → AV) (i : Nat) (z : AV) (t : Nat), upd m i z t = if i = t then z else m t) ∧
    (∀ (t : Nat), noM t = .no) ∧
    (∀ (e : Env) (t : Nat), e.ev (.tmp t) = e.m t) ∧
    (∀ (e : Env) (v : Value), e.ev (.const v) = .v v) ∧
    (∀ (e : Env) (f : FuncId), e.ev (.func f) = .v (.func (.func f) #[] #[])) ∧
    (∀ (e : Env) (g : Nat), e.ev (.global g) = .v (.pointer (some ⟨g, 0, none⟩))) ∧
    (∀ (n : Nat), dstOk none n = true) ∧
    (∀ (t n : Nat), dstOk (some t) n = decide (t < n)) ∧
    (∀ (P : Program) (y : Code) (m0 : Nat) (Q : Exit → Env → St → Prop) (e : Env) (s : St), andThen P y m0 Q .normal e s = AW P y m0 e s Q) ∧
    (∀ (P : Program) (y : Code) (m0 : Nat) (Q : Exit → Env → St → Prop) (i : Nat) (e : Env) (s : St), andThen P y m0 Q (.exit i) e s = Q (.exit i) e s) ∧
    (∀ (P : Program) (y : Code) (m0 : Nat) (Q : Exit → Env → St → Prop) (e : Env) (s : St), andThen P y m0 Q .ret e s = Q .ret e s) ∧
    (∀ (id : Nat) (Q : Exit → Env → St → Prop) (e : Env) (s : St), inBlock id Q .normal e s = Q .normal e s) ∧
    (∀ (id : Nat) (Q : Exit → Env → St → Prop) (e : Env) (s : St), inBlock id Q .ret e s = Q .ret e s) ∧
    (∀ (id i : Nat) (Q : Exit → Env → St → Prop) (e : Env) (s : St), inBlock id Q (.exit i) e s = if i = id then Q .normal e s else Q (.exit i) e s) ∧
    (∀ (I : Nat → Env → St → Prop) (n : Nat) (Q : Exit → Env → St → Prop) (e : Env) (s : St), inLoop I n Q .normal e s = ∃ n', n' < n ∧ I n' e s) ∧
    (∀ (I : Nat → Env → St → Prop) (n : Nat) (Q : Exit → Env → St → Prop) (e : Env) (s : St), inLoop I n Q .ret e s = Q .ret e s) ∧
    (∀ (I : Nat → Env → St → Prop) (n : Nat) (Q : Exit → Env → St → Prop) (i : Nat) (e : Env) (s : St), inLoop I n Q (.exit i) e s = Q (.exit i) e s) ∧
    (∀ (P : Program) (rs : List ResultVar) (R : AV → St → Prop) (e : Env) (s : St), fpost P rs R .normal e s = onO (resA P e s rs) fun l => R (retA l) s) ∧
    (∀ (P : Program) (rs : List ResultVar) (R : AV → St → Prop) (e : Env) (s : St), fpost P rs R .ret e s = onO (resA P e s rs) fun l => R (retA l) s) ∧
    (∀ (s : St) (c : List AV) (j : Nat), (s.push c).get j = if j = s.nx then some c else s.get j) ∧
    (∀ (s : St) (i : Nat) (c : List AV) (j : Nat), (s.set i c).get j = if j = i then some c else s.get j) ∧
    (∀ (s : St) (i : Nat) (j : Nat), (s.kill i).get j = if j = i then none else s.get j) ∧
    (num [] = noM) ∧
    (∀ (a : AV), num [a] = upd noM 0 a) ∧
    (∀ (a b : AV), num [a, b] = upd (upd noM 0 a) 1 b) ∧
    (∀ (a b c : AV), num [a, b, c] = upd (upd (upd noM 0 a) 1 b) 2 c) ∧
    (∀ (a b c d : AV), num [a, b, c, d] = upd (upd (upd (upd noM 0 a) 1 b) 2 c) 3 d) ∧
    (∀ (x : Int) (h : -9223372036854775808 ≤ x) (h' : x ≤ 9223372036854775807), IntKind.i64.wrap x = x) ∧
    (∀ (x : Int) (h : 0 ≤ x) (h' : x ≤ 18446744073709551615), IntKind.u64.wrap x = x) ∧
    (∀ (x : Int) (h : 0 ≤ x) (h' : x ≤ 4294967295), IntKind.u32.wrap x = x) ∧
    (∀ (x : Int) (h : 0 ≤ x) (h' : x ≤ 65535), IntKind.u16.wrap x = x) ∧
    (∀ (x : Int) (h : 0 ≤ x) (h' : x ≤ 255), IntKind.u8.wrap x = x) ∧
    (∀ (x y : Int) (h : 0 ≤ x), x.tdiv y = x / y) ∧
    (∀ (x y : Int) (h : 0 ≤ x), x.tmod y = x % y) ∧
    (∀ (x y : Int) (h : x = y), (x == y) = true) ∧
    (∀ (x y : Int) (h : ¬ x = y), (x == y) = false) ∧
    (∀ (x y : Int) (h : ¬ x = y), (x != y) = true) ∧
    (∀ (x y : Int) (h : x = y), (x != y) = false) ∧
    (∀ (p : Prop) [Decidable p] (h : p), decide p = true) ∧
    (∀ (p : Prop) [Decidable p] (h : ¬ p), decide p = false) ∧
    (∀ (e : Env) (t : Nat) (z : AV) (t' : Nat), (e.put (some t) z).m t' = if t = t' then z else e.m t') ∧
    (∀ (e : Env) (z : AV) (t' : Nat), (e.put none z).m t' = e.m t') ∧
    (∀ (e : Env) (d : Option Nat) (z : AV), (e.put d z).n = e.n) ∧
    (∀ (f : Int → AV) (xs : List Int) (i : Nat) (h : i < xs.length), ((xs.map f).drop i).head? = some (f (xs.getD i 0))) ∧
    (∀ (f : Nat → AV) (xs : List Nat) (i : Nat) (h : i < xs.length), ((xs.map f).drop i).head? = some (f (xs.getD i 0))) ∧
    (∀ (n : Nat), ((n : Int) - 1).toNat = n - 1) ∧
    (∀ (n : Nat), ((n : Int) + 1).toNat = n + 1) ∧
    (∀ (n : Nat), (n : Int).toNat = n) ∧
    (∀ (x : Value), idf (.v x) = true) ∧
    (∀ (n : Nat) (c : List AV), idf (.sl n c) = idf.idfL c) ∧
    (∀ (c : List AV), idf (.rf c) = idf.idfL c) ∧
    (∀ (c : List AV), idf (.ag c) = idf.idfL c) ∧
    (∀ (c : List AV), idf (.tp c) = idf.idfL c) ∧
    (idf.idfL [] = true) ∧
    (∀ (z : AV) (l : List AV), idf.idfL (z :: l) = (idf z && idf.idfL l)) ∧
    (∀ (α : Type) (f : α → Value) (l : List α), idf.idfL (l.map fun x => .v (f x)) = true) ∧
    (∀ (α : Type) (k : IntKind) (f : α → Int) (l : List α), (l.map fun x => AV.v (.int k (f x))).all AV.one = true) ∧
    (∀ (α β : Type) (f : α → β) (l : List α), (l.map f).length = l.length) ∧
    (∀ (i : Nat) (c : List AV) (off n sz : Nat), frz i c (.own i off n sz) = .sl n ((c.drop off).take (n * sz))) ∧
    (∀ (i : Nat) (c : List AV) (off : Nat), frz i c (.ptr i off) = .rf (c.drop off)) ∧
    (∀ (i j : Nat) (c : List AV) (off n sz : Nat) (h : ¬ j = i), frz i c (.own j off n sz) = .own j off n sz) ∧
    (∀ (i j : Nat) (c : List AV) (off : Nat) (h : ¬ j = i), frz i c (.ptr j off) = .ptr j off) ∧
    (∀ (i : Nat) (c : List AV) (x : Value), frz i c (.v x) = .v x) ∧
    (∀ (i : Nat) (c : List AV), frz i c .no = .no) ∧
    (∀ (i : Nat) (c : List AV), frz.frzL i c [] = []) ∧
    (∀ (i : Nat) (c : List AV) (z : AV) (l : List AV), frz.frzL i c (z :: l) = frz i c z :: frz.frzL i c l) ∧
    (∀ (e : Env) (i : Nat) (c : List AV) (t : Nat), (e.frz i c).m t = frz i c (e.m t)) ∧
    (∀ (e : Env) (i : Nat) (c : List AV), (e.frz i c).n = e.n) ∧
    (∀ (s : St) (i : Nat) (c : List AV) (g : Nat → Bool) (j : Nat), (s.frz i c g).get j = if j = i then none else if g j then (s.get j).map (frz.frzL i c) else s.get j) ∧
    (∀ (s : St) (i : Nat) (c : List AV) (g : Nat → Bool), (s.frz i c g).nx = s.nx) ∧
    (∀ (s : St) (c : List AV), (s.push c).nx = s.nx + 1) ∧
    (∀ (s : St) (i : Nat) (c : List AV), (s.set i c).nx = s.nx) ∧
    (∀ (s : St) (i : Nat), (s.kill i).nx = s.nx) ∧
    (∀ (b : Bool), (b == true) = b) ∧
    (∀ (b : Bool), (b == false) = !b) ∧
    (∀ (α : Type) (f : α → AV) (l : List α) (n : Nat) (h : l.length = n), (l.map f).take n = l.map f) :=
  ⟨(by intros; apply upd_at <;> assumption), (by intros; apply noM_at <;> assumption), (by intros; apply ev_tmp <;> assumption), (by intros; apply ev_const <;> assumption), (by intros; apply ev_func <;> assumption), (by intros; apply ev_global <;> assumption), (by intros; apply dst_none <;> assumption), (by intros; apply dst_some <;> assumption), (by intros; apply then_normal <;> assumption), (by intros; apply then_exit <;> assumption), (by intros; apply then_ret <;> assumption), (by intros; apply block_normal <;> assumption), (by intros; apply block_ret <;> assumption), (by intros; apply block_exit <;> assumption), (by intros; apply loop_normal <;> assumption), (by intros; apply loop_ret <;> assumption), (by intros; apply loop_exit <;> assumption), (by intros; apply post_normal <;> assumption), (by intros; apply post_ret <;> assumption), (by intros; apply push_get <;> assumption), (by intros; apply set_get <;> assumption), (by intros; apply kill_get <;> assumption), (by intros; apply num0 <;> assumption), (by intros; apply num1 <;> assumption), (by intros; apply num2 <;> assumption), (by intros; apply num3 <;> assumption), (by intros; apply num4 <;> assumption), (by intros; apply wrap_in_i64 <;> assumption), (by intros; apply wrap_in_u64 <;> assumption), (by intros; apply wrap_in_u32 <;> assumption), (by intros; apply wrap_in_u16 <;> assumption), (by intros; apply wrap_in_u8 <;> assumption), (by intros; apply tdiv_in <;> assumption), (by intros; apply tmod_in <;> assumption), (by intros; apply beq_pos <;> assumption), (by intros; apply beq_neg <;> assumption), (by intros; apply bne_pos <;> assumption), (by intros; apply bne_neg <;> assumption), (by intros; apply dec_pos <;> assumption), (by intros; apply dec_neg <;> assumption), (by intros; apply put_m <;> assumption), (by intros; apply put_m0 <;> assumption), (by intros; apply put_n <;> assumption), (by intros; apply hd_int <;> assumption), (by intros; apply hd_nat <;> assumption), (by intros; apply toNat_pred <;> assumption), (by intros; apply toNat_succ <;> assumption), (by intros; apply toNat_nat <;> assumption), (by intros; apply idf_v <;> assumption), (by intros; apply idf_sl <;> assumption), (by intros; apply idf_rf <;> assumption), (by intros; apply idf_ag <;> assumption), (by intros; apply idf_tp <;> assumption), (by intros; apply idfL_nil <;> assumption), (by intros; apply idfL_cons <;> assumption), (by intros; apply idfL_mapv <;> assumption), (by intros; apply one_mapi <;> assumption), (by intros; apply len_map <;> assumption), (by intros; apply frz_own <;> assumption), (by intros; apply frz_ptr <;> assumption), (by intros; apply frz_own_ne <;> assumption), (by intros; apply frz_ptr_ne <;> assumption), (by intros; apply frz_v <;> assumption), (by intros; apply frz_no <;> assumption), (by intros; apply frzL_nil <;> assumption), (by intros; apply frzL_cons <;> assumption), (by intros; apply frz_e <;> assumption), (by intros; apply frz_n <;> assumption), (by intros; apply frz_get <;> assumption), (by intros; apply frz_nx <;> assumption), (by intros; apply nx_push <;> assumption), (by intros; apply nx_set <;> assumption), (by intros; apply nx_kill <;> assumption), (by intros; apply bb_true <;> assumption), (by intros; apply bb_false <;> assumption), (by intros; apply take_map_len <;> assumption)⟩
end Go.Proofs.YtppmamcoehhopaaDoor.Ax
