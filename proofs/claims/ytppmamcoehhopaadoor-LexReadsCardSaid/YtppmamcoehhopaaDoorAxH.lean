/- The abstract machine, part H: one operation. -/
import Derived.Test.YtppmamcoehhopaaDoorAxG
set_option linter.unusedVariables false
set_option linter.unusedSimpArgs false
namespace Go.Proofs.YtppmamcoehhopaaDoor.Ax
open Go Go.RowKit
variable {P : Program}

def xun (op : UnOp) (x : AV) : Option AV :=
  match op, x with
  | .neg, .v (.int k n) => some (.v (.int k (k.wrap (0 - n))))
  | .not, .v (.bool b) => some (.v (.bool !b))
  | _, _ => none
def isByte : AV → Bool
  | .v (.int .u8 n) => decide (0 ≤ n) && decide (n < 256)
  | _ => false
def unbyte : AV → UInt8
  | .v (.int .u8 n) => UInt8.ofNat n.toNat
  | _ => 0
/-- Conversions: of whole numbers; of bytes to a string. -/
def xconv (P : Program) (s : St) (src dst : TypeId) (x : AV) : Option AV :=
  match tiOf P dst, tiOf P src with
  | some td, some ts => match td.k, ts.k, x with
    | .int k, _, .v (.int _ n) => some (.v (.int k (k.wrap n)))
    | .str, .str, .v (.string b) => some (.v (.string b))
    | .str, .sl e, .sl n c => match tiOf P e with
      | some ei => match ei.k with
        | .int .u8 => if c.length = n ∧ c.all isByte = true then some (.v (.string ⟨(c.map unbyte).toArray⟩)) else none
        | _ => none
      | none => none
    | .str, .sl e, .own id off n sz => match tiOf P e, s.get id with
      | some ei, some c => match ei.k with
        | .int .u8 => if off + n ≤ c.length ∧ ((c.drop off).take n).all isByte = true then some (.v (.string ⟨(((c.drop off).take n).map unbyte).toArray⟩)) else none
        | _ => none
      | _, _ => none
    | _, _, _ => none
  | _, _ => none
theorem isByte_v {z : AV} (h : isByte z = true) {k : KW} {u : Value} (hr : Rel k z u) : u = .int .u8 ((unbyte z).toNat : Int) := by
  unfold isByte at h
  split at h
  · rename_i n
    obtain rfl := hr.v_eq
    simp only [Bool.and_eq_true, decide_eq_true_eq] at h
    unfold unbyte
    congr 1
    simp
    omega
  · cases h
theorem conv_bytes {k : KW} {w : World} {a : Addr} {c : List AV} (hr : Reads k w a c) (hb : c.all isByte = true) {src dst e : TypeId} (hs : P.underlying src = some (.slice e)) (he : P.underlying e = some (.int .u8)) (hd : P.underlying dst = some .string) (cap : Nat) :
    (convert src dst (.slice (some a) c.length cap)).run P w = .ok (.string ⟨(c.map unbyte).toArray⟩) w := by
  have := run_convert_bytes_back (P := P) w src dst e a cap (c.map unbyte) hs he hd (by
    intro j hj
    rw [List.length_map] at hj
    obtain ⟨u, h1, h2⟩ := hr j c[j] (by simp [hj])
    rw [h1, isByte_v (List.all_eq_true.1 hb _ (List.getElem_mem hj)) h2]
    simp)
  rw [List.length_map] at this
  exact this
theorem conv_gives {w0 w : World} {k : KW} {s : St} (hs : Sim w0 k w s) {src dst : TypeId} {x z : AV} {u : Value} (hx : Rel k x u) (h : xconv P s src dst x = some z) :
    GivesV P w0 k (convert src dst u) w z s := by
  unfold xconv at h
  split at h
  · rename_i td ts hd hss
    obtain ⟨ds, i1, z1, hd1, _⟩ := ti_info hss
    split at h
    · rename_i ik ik' n hk
      injection h with h
      subst h
      obtain rfl := hx.v_eq
      refine .pure hs ?_ (.v _)
      simp only [convert, Sem.run_bind, run_underlying hd1, Result.andThen_ok, run_underlying (under_int hd hk)]
      cases ds <;> simp [Conv.intToInt]
    · rename_i b hk hk2
      injection h with h
      subst h
      obtain rfl := hx.v_eq
      refine .pure hs ?_ (.v _)
      simp only [convert, Sem.run_bind, run_underlying (under_str hss hk2), Result.andThen_ok, run_underlying (under_str hd hk), Sem.run_pure]
    · rename_i e n c hk hk2
      split at h
      · rename_i ei hei
        split at h
        · rename_i hku
          split at h
          · rename_i hh
            obtain ⟨rfl, hb⟩ := hh
            injection h with h
            subst h
            obtain ⟨a, cap, rfl, g1, g2⟩ := hx.sl_form
            refine .pure hs ?_ (.v _)
            by_cases hn : 0 < c.length
            · obtain ⟨b, rfl, _⟩ := g1 hn
              obtain ⟨b', hb', hr⟩ := reads_rf hs (g2 b rfl)
              injection hb' with hb'
              injection hb' with hb'
              subst hb'
              exact conv_bytes hr hb (under_sl hss hk2) (under_int hei hku) (under_str hd hk) cap
            · have : c = [] := List.eq_nil_of_length_eq_zero (by omega)
              subst this
              cases a with
              | none =>
                simp only [convert, Sem.run_bind, run_underlying (under_sl hss hk2), Result.andThen_ok, run_underlying (under_str hd hk), run_underlying (under_int hei hku), Conv.bytesToString, List.length_nil]
                rfl
              | some a => exact conv_bytes (k := k) (a := a) (c := []) (fun j z hz => by simp at hz) rfl (under_sl hss hk2) (under_int hei hku) (under_str hd hk) cap
          · cases h
        · cases h
      · cases h
    · rename_i e id off n sz hk hk2
      split at h
      · rename_i ei c hei hc
        split at h
        · rename_i hku
          split at h
          · rename_i hh
            obtain ⟨hl, hb⟩ := hh
            injection h with h
            subst h
            refine .pure hs ?_ (.v _)
            have hlen : ((c.drop off).take n).length = n := by rw [List.length_take, List.length_drop]; omega
            cases hx with
            | own _ _ _ _ cap hi hn hcc =>
              obtain ⟨a', ha', _, hr⟩ := reads_ptr hs hc (Rel.ptr id off hi)
              injection ha' with ha'
              injection ha' with ha'
              subst ha'
              have := conv_bytes (P := P) (k := k) (c := (c.drop off).take n) (a := (k.φ id).at off) (w := w) (fun j z hz => hr j z (by
                rw [List.getElem?_take] at hz
                split at hz
                · exact hz
                · cases hz)) hb (under_sl hss hk2) (under_int hei hku) (under_str hd hk) cap
              rw [hlen] at this
              exact this
            | own0 _ _ _ a hi hcc =>
              rw [List.take_zero]
              cases a with
              | none =>
                simp only [convert, Sem.run_bind, run_underlying (under_sl hss hk2), Result.andThen_ok, run_underlying (under_str hd hk), run_underlying (under_int hei hku), Conv.bytesToString]
                rfl
              | some a => exact conv_bytes (k := k) (a := a) (c := []) (fun j z hz => by simp at hz) rfl (under_sl hss hk2) (under_int hei hku) (under_str hd hk) 0
          · cases h
        · cases h
      · cases h
    · cases h
  · cases h

def xlen (P : Program) (t : TypeId) (x : AV) : Option AV :=
  match tiOf P t with
  | some ti => match ti.k, x with
    | .str, .v (.string b) => some (.v (.int .i64 b.size))
    | .sl _, .sl n _ => some (.v (.int .i64 n))
    | .sl _, .own _ _ n _ => some (.v (.int .i64 n))
    | .sl _, .v (.slice none n _) => some (.v (.int .i64 n))
    | _, _ => none
  | none => none
theorem len_gives {w0 w : World} {k : KW} {s : St} (hs : Sim w0 k w s) {t ty : TypeId} {x z : AV} {u : Value} (hx : Rel k x u) (h : xlen P t x = some z) :
    GivesV P w0 k (Builtin.len_ #[t] ty #[u]) w z s := by
  unfold xlen at h
  split at h
  · rename_i ti ht
    split at h
    · rename_i hk
      injection h with h
      subst h
      obtain rfl := hx.v_eq
      exact .pure hs (by simp [Builtin.len_, run_underlying (under_str ht hk), goInt]) (.v _)
    · rename_i hk
      injection h with h
      subst h
      obtain ⟨a, cap, rfl, _⟩ := hx.sl_form
      exact .pure hs (by simp [Builtin.len_, run_underlying (under_sl ht hk), goInt]) (.v _)
    · rename_i hk
      injection h with h
      subst h
      cases hx <;> exact .pure hs (by simp [Builtin.len_, run_underlying (under_sl ht hk), goInt]) (.v _)
    · rename_i hk
      injection h with h
      subst h
      obtain rfl := hx.v_eq
      exact .pure hs (by simp [Builtin.len_, run_underlying (under_sl ht hk), goInt]) (.v _)
    · cases h
  · cases h
def xminmax (mx : Bool) (x y : AV) : Option AV :=
  match x, y with
  | .v (.int k a), .v (.int k' b) => some (.v (.int k (if mx then (if b > a then b else a) else (if b < a then b else a))))
  | _, _ => none

/-- The frame. -/
structure Env where
  n : Nat
  m : Nat → AV
def upd (m : Nat → AV) (i : Nat) (z : AV) (t : Nat) : AV := if i = t then z else m t
def Env.ev (e : Env) : Operand → AV
  | .tmp t => e.m t
  | .const v => .v v
  | .global g => .v (.pointer (some ⟨g, 0, none⟩))
  | .func f => .v (.func (.func f) #[] #[])
def Env.put (e : Env) (d : Option Nat) (z : AV) : Env :=
  match d with
  | none => e
  | some t => ⟨e.n, upd e.m t z⟩
def dstOk (d : Option Nat) (n : Nat) : Bool :=
  match d with
  | none => true
  | some t => decide (t < n)
structure EnvRel (k : KW) (e : Env) (a : Act) : Prop where
  d : a.defers = []
  n : a.tmps.size = e.n
  r : ∀ t, Rel k (e.m t) (a.tmps.getD t undef)
theorem EnvRel.mono {k k' : KW} {e : Env} {a : Act} (h : EnvRel k e a) (hk : KW.le k.m k k') : EnvRel k' e a := ⟨h.d, h.n, fun t => (h.r t).mono hk⟩
theorem EnvRel.ev {k : KW} {e : Env} {a : Act} (h : EnvRel k e a) (x : Operand) : Rel k (e.ev x) (a.eval x) := by
  cases x with
  | tmp t => exact h.r t
  | const v => exact .v v
  | global g => exact .v _
  | func f => exact .v _
theorem EnvRel.put {k : KW} {e : Env} {a : Act} (h : EnvRel k e a) {d : Option Nat} {z : AV} {u : Value} (hd : dstOk d e.n = true) (hz : Rel k z u) : EnvRel k (e.put d z) (a.put d u) := by
  cases d with
  | none => exact h
  | some t =>
    have ht : t < a.tmps.size := by rw [h.n]; exact of_decide_eq_true hd
    refine ⟨h.d, by simp [Act.put, Env.put, h.n], fun t' => ?_⟩
    show Rel k (if t = t' then z else e.m t') _
    by_cases e' : t = t'
    · subst e'
      rw [if_pos rfl]
      have : (a.put (some t) u).tmps.getD t undef = u := by simp [Act.put, Array.getD_eq_getD_getElem?, ht]
      rw [this]
      exact hz
    · rw [if_neg e']
      have : (a.put (some t) u).tmps.getD t' undef = a.tmps.getD t' undef := by simp [Act.put, Array.getD_eq_getD_getElem?, Array.getElem?_setIfInBounds_ne e']
      rw [this]
      exact h.r t'

def xbuiltin (P : Program) (s : St) (b : Builtin) (zs : List AV) (ts : List TypeId) : Option (AV × St) :=
  match b, zs, ts with
  | .len, [x], [t] => (xlen P t x).map (·, s)
  | .append, [x, y], [t, u] => xappend P s t u x y
  | .min, [x, y], _ => (xminmax false x y).map (·, s)
  | .max, [x, y], _ => (xminmax true x y).map (·, s)
  | _, _, _ => none
/-- One operation, no call of a Go function. -/
def xop (P : Program) (e : Env) (s : St) : Op → Option (AV × St)
  | .move x | .assign x => some (e.ev x, s)
  | .pick c a b => match e.ev c with
    | .v (.bool t) => some (if t then e.ev a else e.ev b, s)
    | _ => none
  | .alloc t => match tiOf P t with
    | some ti => some (.ptr s.nx 0, s.push (ti.zero.map .v))
    | none => none
  | .box t x => if (e.ev x).boxable = true then some (.ptr s.nx 0, s.push (e.ev x).cells) else none
  | .build t ps => match tiOf P t with
    | some ti => match ti.k with
      | .st fs => match fs.mapM (fun f => (tiOf P f.2).map fun fi => (f.1, fi.size)) with
        | some places => match fillA (places[·]?) (ti.zero.map .v) (ps.toList.map fun p => (p.1, e.ev p.2)) with
          | some c => some (.ag c, s)
          | none => none
        | none => none
      | _ => none
    | none => none
  | .buildSlice t n ps => xbuildSlice P s t n (ps.toList.map fun p => (p.1, e.ev p.2))
  | .load t x => (xload P s t (e.ev x)).map (·, s)
  | .store t a x => (xstore P s t (e.ev a) (e.ev x)).map (AV.no, ·)
  | .nilCheck x => match e.ev x with
    | .ptr id off => some (.ptr id off, s)
    | .rf c => some (.rf c, s)
    | _ => none
  | .binOp op t x y _ => (xbin P op t (isK x) (isK y) (e.ev x) (e.ev y)).map fun v => (.v v, s)
  | .unOp op _ x => (xun op (e.ev x)).map (·, s)
  | .convert a b x => (xconv P s a b (e.ev x)).map (·, s)
  | .makeSlice t l c => xmake P s t (e.ev l) (e.ev c)
  | .slice t x lo hi mx => match mx with
    | none => (xslice P t (e.ev x) (lo.map e.ev) (hi.map e.ev)).map (·, s)
    | some _ => none
  | .fieldAddr t x f => match e.ev x with
    | .ag _ => none
    | z => (xfield P t z f).map (·, s)
  | .field t x f => match e.ev x with
    | .ag c => (xfield P t (.ag c) f).map (·, s)
    | _ => none
  | .indexAddr t x i => (xindexAddr P t (e.ev x) (e.ev i)).map (·, s)
  | .index t x i => (xindex P t (e.ev x) (e.ev i)).map (·, s)
  | .extract x i => match e.ev x with
    | .tp c => c[i]?.map (·, s)
    | _ => none
  | .makeInterface t x => match tiOf P t, e.ev x with
    | some ti, .v u => match ti.k with
      | .ifc => none
      | _ => some (.v (.iface t u), s)
    | _, _ => none
  | .call c => match c.callee with
    | .builtin b => xbuiltin P s b (c.args.toList.map e.ev) c.argTypes.toList
    | _ => none
  | _ => none

theorem build_gives {w0 w : World} {k : KW} {s : St} (hs : Sim w0 k w s) {e : Env} {a : Act} (he : EnvRel k e a) {t : TypeId} {ti : TI} {fs : List (Nat × TypeId)} {ps : Array (Nat × Operand)} {places : List (Nat × Nat)} {c : List AV} (ht : tiOf P t = some ti) (hk : ti.k = .st fs)
    (hp : fs.mapM (fun f => (tiOf P f.2).map fun fi => (f.1, fi.size)) = some places) (hc : fillA (places[·]?) (ti.zero.map .v) (ps.toList.map fun p => (p.1, e.ev p.2)) = some c) :
    GivesV P w0 k (Instr.build t (ps.map fun p => (p.1, a.eval p.2))) w (.ag c) s := by
  obtain ⟨d, i, z, hd, hi, hz, hs2, hby, hcz, hk2⟩ := ti_info ht
  obtain ⟨gs, hgs, hgl⟩ := kind_st (hk ▸ hk2).symm
  obtain ⟨us', g1, g2⟩ := fill_gives (k := k) (places[·]?) (ps.toList.map fun p => (p.1, a.eval p.2)) (c := ti.zero.map .v) (us := ti.zero) (ps.toList.map fun p => (p.1, e.ev p.2)) ⟨by simp, fun j y u hy hu => by
    rw [List.getElem?_map, hu] at hy
    injection hy with hy
    subst hy
    exact .v u⟩ (by simp) (fun j p q hp hq => by
    rw [List.getElem?_map] at hp hq
    cases hj : ps.toList[j]? with
    | none => rw [hj] at hp; cases hp
    | some x =>
      rw [hj] at hp hq
      injection hp with hp
      injection hq with hq
      subst hp hq
      exact ⟨rfl, he.ev _⟩) hc
  refine .pure hs (run_build (P := P) w t _ us'.toArray ?_) (.ag _ _ g2.1 g2.2)
  unfold Program.built
  rw [hi, hgs]
  have hpl : gs.toList.mapM (fun f => (P.info? f.type).map fun i => (f.offset, i.size)) = some places := by
    subst hgl
    have step : ∀ (l : List Field) (pl : List (Nat × Nat)), (l.map fun f => (f.offset, f.type)).mapM (fun f => (tiOf P f.2).map fun fi => (f.1, fi.size)) = some pl → l.mapM (fun f => (P.info? f.type).map fun i => (f.offset, i.size)) = some pl := by
      intro l
      induction l with
      | nil => intro pl h; simpa using h
      | cons f l ih =>
        intro pl h
        simp only [List.map_cons, List.mapM_cons, Option.bind_eq_bind, Option.pure_def] at h ⊢
        cases hf : tiOf P f.type with
        | none => rw [hf] at h; simp at h
        | some fi =>
          rw [hf] at h
          obtain ⟨d', i', z', q1, q2, q3, q4, q5, q6, q7⟩ := ti_info hf
          rw [q2]
          cases hr : (l.map fun f => (f.offset, f.type)).mapM (fun f => (tiOf P f.2).map fun fi => (f.1, fi.size)) with
          | none => rw [hr] at h; simp at h
          | some rest =>
            rw [hr] at h
            rw [ih rest hr]
            simpa [q4] using h
    exact step gs.toList places hp
  simp only [hz, hpl]
  have e1 : z.cells = ti.zero.toArray := by rw [← hcz]
  rw [e1]
  rw [← g1]
  congr 1
  · funext j; simp
  · simp
end Go.Proofs.YtppmamcoehhopaaDoor.Ax
