/- A part of the proof. -/
import Derived.Test.YtfjelkjlfcafgaaGreatDoorPNumC
import Derived.Shelf.Strings.Trim
import Derived.Shelf.Small.Utf8
import Derived.Shelf.Small.Strs
import Derived.Shelf.Small.Wraps
import Derived.Shelf.Strconv.Atoi
import Derived.Shelf.Strconv.Itoa0
import Derived.Shelf.Strconv.Itoa1
import Derived.Shelf.LaysM
import Derived.Shelf.Strconv.Itoa2
import Derived.Shelf.Strconv.Itoa3
import Derived.Shelf.Strconv.Itoa4
import Derived.Shelf.Strconv.ParseIntEmpty
import Derived.Shelf.Strconv.Clone
import Derived.Shelf.Strconv.SyntaxError
import Derived.Shelf.LaysC
import Derived.Shelf.Strconv.ToError
import Derived.Shelf.Strconv.Lower
import Derived.Shelf.Strconv.ParseUint10
import Derived.Shelf.Strconv.ParseUint10Empty
import Derived.Shelf.Strconv.ParseUint10Any
import Derived.Shelf.Strconv.ParseInt10
import Derived.Shelf.Strconv.RangeError
import Derived.Shelf.Strconv.ToErrorRange
import Derived.Shelf.Strconv.ParseUintEmpty
import Derived.Shelf.Strconv.ParseUint10b64
import Derived.Shelf.Strconv.ParseUint10b32
import Derived.Shelf.Strconv.ParseUint10b16
import Derived.Shelf.Strconv.ParseUint10b8
import Derived.Shelf.Strconv.ParseUint10At
import Derived.Shelf.Strconv.ParseInt10At64
import Derived.Shelf.Strconv.ParseInt10At32
import Derived.Shelf.Strconv.ParseInt10At16
import Derived.Shelf.Strconv.ParseInt10At8
import Derived.Shelf.Strconv.ParseInt10All
import Derived.Shelf.Strconv.ParseIntPublic10
import Derived.Shelf.Strconv.ErrVarParseInt
import Derived.Shelf.Strings.Search1
import Derived.Shelf.Strings.Prefix
import Derived.Shelf.Strings.Runes
import Derived.Shelf.Strings.AsciiSet
import Derived.Shelf.Unicode.DecodeSlow
import Derived.Shelf.Slices.Equal
import Derived.Shelf.Slices.Empties2
import Derived.Test.YtfjelkjlfcafgaaGreatDoorProg
section
/- The document's whole numbers (layer 1): words of 32 bits, and the whole of 64. -/
namespace Go.Proofs.YtfjelkjlfcafgaaGreatDoor.RefH
open Go Go.RowKit Go.Proofs.YtfjelkjlfcafgaaGreatDoor.Ax Go.Proofs.YtfjelkjlfcafgaaGreatDoor.Ti Go.Proofs.YtfjelkjlfcafgaaGreatDoor.BigM Go.Proofs.YtfjelkjlfcafgaaGreatDoor.RefA Go.Proofs.YtfjelkjlfcafgaaGreatDoor.RefB Go.Proofs.YtfjelkjlfcafgaaGreatDoor.RefC Go.Proofs.YtfjelkjlfcafgaaGreatDoor.RefD Go.Proofs.YtfjelkjlfcafgaaGreatDoor.RefE Go.Proofs.YtfjelkjlfcafgaaGreatDoor.RefF Go.Proofs.YtfjelkjlfcafgaaGreatDoor.RefG
set_option maxHeartbeats 2000000
set_option linter.unusedSimpArgs false
set_option linter.unusedVariables false
set_option maxRecDepth 4000
theorem rTI : type_of% (cj @ti105 (cj @ti63 (cj @ti3 @ti4))) := cj @ti105 (cj @ti63 (cj @ti3 @ti4))
theorem rTW : type_of% (cj @ti105 (cj @ti63 (cj @ti3 (cj @ti4 (cj @ti43 (cj @ti41 @ti35)))))) := cj @ti105 (cj @ti63 (cj @ti3 (cj @ti4 (cj @ti43 (cj @ti41 @ti35)))))
def B32 : Nat := 4294967296
theorem hB32 : 1 < B32 := by decide
/-- Words, as the machine has them. -/
def WL (l : List Nat) : List AV := l.map fun x : Nat => .v (.int .u32 (x : Int))
/-- A number in words. -/
def WS (b : Bool) (n : Nat) : AV := .ag [.v (.bool b), .sl (digs B32 n).length (WL (digs B32 n))]
def WI (z : Int) : AV := WS (decide (z < 0)) z.natAbs
theorem WL_len (l : List Nat) : (WL l).length = l.length := List.length_map _
theorem WL_snoc (ds : List Nat) (r : Nat) : WL (ds ++ [r]) = WL ds ++ [.v (.int .u32 (r : Int))] := by unfold WL; rw [List.map_append]; rfl
theorem WL_take (ds : List Nat) (k : Nat) (h : ds.length = k) : (WL ds).take k = WL ds := List.take_of_length_le (by rw [WL_len]; omega)
theorem wl_idf (l : List Nat) : idf.idfL (WL l) = true := by
  rw [idfL_iff]
  intro z hz
  obtain ⟨x, _, rfl⟩ := List.mem_map.1 hz
  rfl
theorem hd_WL (ds : List Nat) (k : Nat) (h : k < ds.length) : ((WL ds).drop k).head? = some (.v (.int .u32 (ds.getD k 0 : Nat))) := hd_nat (fun x : Nat => AV.v (.int .u32 (x : Int))) ds k h
/-- What the digits from k on are worth. -/
theorem val_drop (n k : Nat) (h : k ≤ ln n) : val B ((digs B n).drop k) = n / B ^ k := by
  have h1 := val_split (digs B n) k h
  rw [val_digs B hB] at h1
  have h2 := val_lt B (by decide) ((digs B n).take k) (fun d hd => digs_lt B hB n d (List.mem_of_mem_take hd))
  rw [List.length_take, Nat.min_eq_left (show k ≤ (digs B n).length from h)] at h2
  have h3 : 0 < B ^ k := Nat.pow_pos (by decide)
  generalize val B ((digs B n).take k) = u at *
  generalize val B ((digs B n).drop k) = v at *
  rw [h1, Nat.add_mul_div_left _ _ h3, Nat.div_eq_of_lt h2, Nat.zero_add]
theorem drop_pos (n k : Nat) (h : k < ln n) : 0 < val B ((digs B n).drop k) := by
  rw [val_drop n k (by omega)]
  have h1 : ¬ n < B ^ k := fun q => by
    have := (ln_lt n k).1 q
    omega
  exact Nat.div_pos (by omega) (Nat.pow_pos (by decide))
theorem drop_two (l : List Nat) (k : Nat) (h : k < l.length) : val B (l.drop k) = l.getD k 0 + 65536 * l.getD (k + 1) 0 + 4294967296 * val B (l.drop (k + 2)) := by
  rw [val_take B l k h]
  by_cases h2 : k + 1 < l.length
  · rw [val_take B l (k + 1) h2, Nat.mul_add, ← Nat.mul_assoc, show k + 1 + 1 = k + 2 from rfl]
    unfold B
    omega
  · rw [getD_out l (k + 1) h2, List.drop_of_length_le (by omega), List.drop_of_length_le (by omega)]
    simp [val]

/-- At the head of a round of Give. -/
structure GiveI (b : Bool) (N : Nat) (s : St) (n i id : Nat) (ws : List Nat) (e : Env) (s' : St) : Prop where
  mu : n = ln N + 1 - i
  en : e.n = 45
  e1 : e.m 1 = .ptr s.nx 0
  e2 : e.m 2 = .ptr (s.nx + 1) 0
  e3 : e.m 3 = .ptr (s.nx + 2) 0
  e4 : e.m 4 = .v (.int .i64 i)
  g0 : s'.get s.nx = some [.v (.bool b), .sl (ln N) (DL (digs B N))]
  g1 : s'.get (s.nx + 1) = some [.v (.bool false), .v (.slice none 0 0)]
  g2 : s'.get (s.nx + 2) = some [.v (.bool b), .own id 0 ws.length 1]
  gi : s'.get id = some (WL ws)
  lo : s.nx + 3 ≤ id
  hi : id < s'.nx
  fr : ∀ i, i < s.nx → s'.get i = s.get i
  il : i ≤ ln N + 1
  wl : ws.length ≤ i
  all : digs B32 N = ws ++ digs B32 (val B ((digs B N).drop i))
theorem give_ax (b : Bool) (N : Nat) (l : ln N ≤ 1099511627776) : PCall Tryz.prog 127 [NS b N] (WS b N) := by
  refine pcall_of fun s => ?_
  refine acall_of Tryz.func127 rfl rfl (by simp [Tryz.ntmps127]) ?_; rw [Tryz.ntmps127, Tryz.results127]
  have hdx : ∀ k, (digs B N).getD k 0 < 65536 := getD_lt B (by decide) (digs B N) (digs_lt B hB N)
  rw [NS_eq]
  unfold WS
  (first | refine go (cj rTW (cj @dl_idf (cj @dl_ln @dl_one))) ?_ | exact go0 (cj rTW (cj @dl_idf (cj @dl_ln @dl_one))))
  refine aw_nil_box (s.nx + 2) 1 1 _ (by (first | refine rn (cj rTW (cj @dl_idf (cj @dl_ln @dl_one))) ?_ | exact rn0 (cj rTW (cj @dl_idf (cj @dl_ln @dl_one)))); rfl) rfl ?_
  refine aw_loop (fun n e s' => ∃ (i id : Nat) (ws : List Nat), GiveI b N s n i id ws e s') (ln N + 1) ?_ ?_
  · refine ⟨0, s.nx + 3, [], ?_⟩
    constructor <;> (try (first | refine rn trivial ?_ | exact rn0 trivial))
    all_goals (first | done | omega | (refine congrArg some ?_; rfl) | rfl | (refine congrArg (fun z : Int => AV.v (.int .i64 z)) ?_; omega) | (intro i hi; (first | refine rn trivial ?_ | exact rn0 trivial)) | skip)
    rw [val_digs B hB]; rfl
  · have tail : ∀ (i : Nat) (V x y V' : Nat) (ws : List Nat), x < 65536 → y < 65536 → V = x + 65536 * y + 4294967296 * V' → digs B32 V = V % B32 :: digs B32 (V / B32) → digs B32 N = ws ++ digs B32 V → digs B32 N = (ws ++ [x + 65536 * y]) ++ digs B32 V' := by
      intro i V x y V' ws hx hy hv hd ha
      rw [ha, hd, List.append_assoc]
      have e1 : V % B32 = x + 65536 * y := by unfold B32; omega
      have e2 : V / B32 = V' := by unfold B32; omega
      rw [e1, e2]
      rfl
    rintro n e s' ⟨i, id, ws, hI⟩
    have k0 := hI.en
    have k1 := hI.e1
    have k2 := hI.e2
    have k3 := hI.e3
    have k4 := hI.e4
    have g0 := hI.g0
    have g1 := hI.g1
    have g2 := hI.g2
    have gi := hI.gi
    have lo := hI.lo
    have hi := hI.hi
    have mu := hI.mu
    have il := hI.il
    have wl := hI.wl
    have l1 := WL_len ws
    have l2 : (digs B N).length = ln N := rfl
    by_cases hn : i < ln N
    · have d0 := hdx i
      have d1 := hdx (i + 1)
      have d2 := drop_pos N i hn
      have d3 := drop_two (digs B N) i hn
      have d4 := digs_pos B32 _ hB32 d2
      have o1 := getD_out (digs B N) (i + 1)
      by_cases hn2 : i + 1 < ln N
      · (first | refine go (cj rTW (cj @dl_idf (cj @dl_ln (cj @dl_one (cj @k0 (cj @k1 (cj @k2 (cj @k3 (cj @k4 (cj @g0 (cj @g1 (cj @g2 (cj @gi @hd_DL))))))))))))) ?_ | exact go0 (cj rTW (cj @dl_idf (cj @dl_ln (cj @dl_one (cj @k0 (cj @k1 (cj @k2 (cj @k3 (cj @k4 (cj @g0 (cj @g1 (cj @g2 (cj @gi @hd_DL))))))))))))))
        (try rw [then_normal]); (try refine aw_seq ?_); refine aw_cond rfl ?_ ?_ <;> intro hb <;> (try (cases hb; done)) <;> (try simp only [bq] at hb) <;> (try (exfalso; omega))
        (first | refine go (cj rTW (cj @dl_idf (cj @dl_ln (cj @dl_one (cj @k0 (cj @k1 (cj @k2 (cj @k3 (cj @k4 (cj @g0 (cj @g1 (cj @g2 (cj @gi @hd_DL))))))))))))) ?_ | exact go0 (cj rTW (cj @dl_idf (cj @dl_ln (cj @dl_one (cj @k0 (cj @k1 (cj @k2 (cj @k3 (cj @k4 (cj @g0 (cj @g1 (cj @g2 (cj @gi @hd_DL))))))))))))))
        (try rw [then_normal]); (try refine aw_seq ?_); refine aw_cond rfl ?_ ?_ <;> intro hb <;> (try (cases hb; done)) <;> (try simp only [bq] at hb) <;> (try (exfalso; omega))
        (first | refine go (cj rTW (cj @dl_idf (cj @dl_ln (cj @dl_one (cj @k0 (cj @k1 (cj @k2 (cj @k3 (cj @k4 (cj @g0 (cj @g1 (cj @g2 (cj @gi (cj @hd_DL @l1)))))))))))))) ?_ | exact go0 (cj rTW (cj @dl_idf (cj @dl_ln (cj @dl_one (cj @k0 (cj @k1 (cj @k2 (cj @k3 (cj @k4 (cj @g0 (cj @g1 (cj @g2 (cj @gi (cj @hd_DL @l1)))))))))))))))
        simp only [block_normal, loop_normal]; refine ⟨ln N + 1 - (i + 2), by omega, i + 2, s'.nx + 1, ws ++ [(digs B N).getD i 0 + 65536 * (digs B N).getD (i + 1) 0], ?_⟩
        constructor <;> (try (first | refine rn (cj rTW (cj @dl_idf (cj @dl_ln (cj @dl_one (cj @k0 (cj @k1 (cj @k2 (cj @k3 (cj @k4 (cj @g0 (cj @g1 (cj @g2 (cj @gi (cj @l1 (cj @WL_snoc rla))))))))))))))) ?_ | exact rn0 (cj rTW (cj @dl_idf (cj @dl_ln (cj @dl_one (cj @k0 (cj @k1 (cj @k2 (cj @k3 (cj @k4 (cj @g0 (cj @g1 (cj @g2 (cj @gi (cj @l1 (cj @WL_snoc rla)))))))))))))))))
        all_goals (first | done | omega | (refine congrArg some ?_; rfl) | rfl | (refine congrArg (fun z : Int => AV.v (.int .i64 z)) ?_; omega) | (intro i hi; (first | refine rn (hI.fr i hi) ?_ | exact rn0 (hI.fr i hi))) | skip)
        · refine congrArg (fun z : Int => some (WL ws ++ [.v (.int .u32 z)])) ?_
          omega
        · exact tail i _ _ _ _ ws d0 d1 d3 d4 hI.all
      · (first | refine go (cj rTW (cj @dl_idf (cj @dl_ln (cj @dl_one (cj @k0 (cj @k1 (cj @k2 (cj @k3 (cj @k4 (cj @g0 (cj @g1 (cj @g2 (cj @gi @hd_DL))))))))))))) ?_ | exact go0 (cj rTW (cj @dl_idf (cj @dl_ln (cj @dl_one (cj @k0 (cj @k1 (cj @k2 (cj @k3 (cj @k4 (cj @g0 (cj @g1 (cj @g2 (cj @gi @hd_DL))))))))))))))
        (try rw [then_normal]); (try refine aw_seq ?_); refine aw_cond rfl ?_ ?_ <;> intro hb <;> (try (cases hb; done)) <;> (try simp only [bq] at hb) <;> (try (exfalso; omega))
        (first | refine go (cj rTW (cj @dl_idf (cj @dl_ln (cj @dl_one (cj @k0 (cj @k1 (cj @k2 (cj @k3 (cj @k4 (cj @g0 (cj @g1 (cj @g2 (cj @gi @hd_DL))))))))))))) ?_ | exact go0 (cj rTW (cj @dl_idf (cj @dl_ln (cj @dl_one (cj @k0 (cj @k1 (cj @k2 (cj @k3 (cj @k4 (cj @g0 (cj @g1 (cj @g2 (cj @gi @hd_DL))))))))))))))
        (try rw [then_normal]); (try refine aw_seq ?_); refine aw_cond rfl ?_ ?_ <;> intro hb <;> (try (cases hb; done)) <;> (try simp only [bq] at hb) <;> (try (exfalso; omega))
        (first | refine go (cj rTW (cj @dl_idf (cj @dl_ln (cj @dl_one (cj @k0 (cj @k1 (cj @k2 (cj @k3 (cj @k4 (cj @g0 (cj @g1 (cj @g2 (cj @gi (cj @hd_DL @l1)))))))))))))) ?_ | exact go0 (cj rTW (cj @dl_idf (cj @dl_ln (cj @dl_one (cj @k0 (cj @k1 (cj @k2 (cj @k3 (cj @k4 (cj @g0 (cj @g1 (cj @g2 (cj @gi (cj @hd_DL @l1)))))))))))))))
        simp only [block_normal, loop_normal]; refine ⟨ln N + 1 - (i + 2), by omega, i + 2, s'.nx + 1, ws ++ [(digs B N).getD i 0 + 65536 * (digs B N).getD (i + 1) 0], ?_⟩
        constructor <;> (try (first | refine rn (cj rTW (cj @dl_idf (cj @dl_ln (cj @dl_one (cj @k0 (cj @k1 (cj @k2 (cj @k3 (cj @k4 (cj @g0 (cj @g1 (cj @g2 (cj @gi (cj @l1 (cj @WL_snoc rla))))))))))))))) ?_ | exact rn0 (cj rTW (cj @dl_idf (cj @dl_ln (cj @dl_one (cj @k0 (cj @k1 (cj @k2 (cj @k3 (cj @k4 (cj @g0 (cj @g1 (cj @g2 (cj @gi (cj @l1 (cj @WL_snoc rla)))))))))))))))))
        all_goals (first | done | omega | (refine congrArg some ?_; rfl) | rfl | (refine congrArg (fun z : Int => AV.v (.int .i64 z)) ?_; omega) | (intro i hi; (first | refine rn (hI.fr i hi) ?_ | exact rn0 (hI.fr i hi))) | skip)
        · refine congrArg (fun z : Int => some (WL ws ++ [.v (.int .u32 z)])) ?_
          omega
        · exact tail i _ _ _ _ ws d0 d1 d3 d4 hI.all
    · (first | refine go (cj rTW (cj @dl_idf (cj @dl_ln (cj @dl_one (cj @k0 (cj @k1 (cj @k2 (cj @k3 (cj @k4 (cj @g0 (cj @g1 (cj @g2 @gi)))))))))))) ?_ | exact go0 (cj rTW (cj @dl_idf (cj @dl_ln (cj @dl_one (cj @k0 (cj @k1 (cj @k2 (cj @k3 (cj @k4 (cj @g0 (cj @g1 (cj @g2 @gi)))))))))))))
      (try rw [then_normal]); (try refine aw_seq ?_); refine aw_cond rfl ?_ ?_ <;> intro hb <;> (try (cases hb; done)) <;> (try simp only [bq] at hb) <;> (try (exfalso; omega))
      refine aw_freeze2 id (WL ws) gi (fun i => i == s.nx + 2) fun e' s'' f1 f2 f3 f4 => ?_
      (first | refine go (cj rTW (cj @dl_idf (cj @dl_ln (cj @dl_one (cj @k0 (cj @k1 (cj @k2 (cj @k3 (cj @k4 (cj @g0 (cj @g1 (cj @g2 (cj @gi (cj @f1 (cj @f2 (cj @f3 (cj @f4 (cj frw (cj rbe @WL_take))))))))))))))))))) ?_ | exact go0 (cj rTW (cj @dl_idf (cj @dl_ln (cj @dl_one (cj @k0 (cj @k1 (cj @k2 (cj @k3 (cj @k4 (cj @g0 (cj @g1 (cj @g2 (cj @gi (cj @f1 (cj @f2 (cj @f3 (cj @f4 (cj frw (cj rbe @WL_take))))))))))))))))))))
      have ha := hI.all
      rw [List.drop_of_length_le (by omega), val, digs_zero, List.append_nil] at ha
      (repeat' refine And.intro ?_ ?_) <;> (first | done | exact rfl | (intro i hi; exact rn0 @wl_idf; done) | (exact rn0 @wl_idf; done) | skip)
      · rw [ha]
      · intro i hi
        (first | refine rn (hI.fr i hi) ?_ | exact rn0 (hI.fr i hi))
theorem giveN_ax (z : Int) (l : lz z ≤ 1099511627776) : PCall Tryz.prog 127 [NI z] (WI z) := give_ax _ _ l

theorem same_ax (a b : Bool) (m n : Nat) (lm : (digs B32 m).length ≤ 1099511627776) (l : (digs B32 n).length ≤ 1099511627776) : PCall Tryz.prog 78 [WS a m, WS b n] (.v (.bool (decide (a = b ∧ m = n)))) := by
  refine pcall_of fun s => ?_
  refine acall_of Tryz.func78 rfl rfl (by simp [Tryz.ntmps78]) ?_; rw [Tryz.ntmps78, Tryz.results78]
  have hinj := @digs_inj B32 hB32 m n
  have hcong : m = n → digs B32 m = digs B32 n := fun h => by rw [h]
  have hdx := digs_lt B32 hB32 m
  have hdy := digs_lt B32 hB32 n
  unfold WS
  generalize digs B32 m = xs at *
  generalize digs B32 n = ys at *
  have no : ∀ (k : Nat), k < xs.length → ¬ xs.getD k 0 = ys.getD k 0 → ¬ (a = b ∧ m = n) := fun k _ h q => h (by rw [hcong q.2])
  have nolen : xs.length ≠ ys.length → ¬ (a = b ∧ m = n) := fun h q => h (by rw [hcong q.2])
  have rest : ∀ (e : Env) (s' : St), True := fun _ _ => trivial
  by_cases hab : a = b
  · subst hab
    by_cases hl : xs.length = ys.length
    · have hyes : (∀ k, k < xs.length → xs.getD k 0 = ys.getD k 0) → (a = a ∧ m = n) := fun h => ⟨rfl, hinj (by
        refine List.ext_getElem hl fun k h1 h2 => ?_
        have := h k h1
        rw [List.getD_eq_getElem?_getD, List.getD_eq_getElem?_getD, List.getElem?_eq_getElem h1, List.getElem?_eq_getElem h2] at this
        exact this)⟩
      generalize hR : decide (a = a ∧ m = n) = r
      (first | refine go (cj rTW (cj @dl_idf (cj @dl_ln (cj @dl_one rbn)))) ?_ | exact go0 (cj rTW (cj @dl_idf (cj @dl_ln (cj @dl_one rbn)))))
      (try rw [then_normal]); (try refine aw_seq ?_); refine aw_cond rfl ?_ ?_ <;> intro hb <;> (try (cases hb; done)) <;> (try simp only [bq] at hb) <;> (try (exfalso; omega))
      (first | refine go (cj rTW (cj @dl_idf (cj @dl_ln (cj @dl_one rbn)))) ?_ | exact go0 (cj rTW (cj @dl_idf (cj @dl_ln (cj @dl_one rbn)))))
      refine aw_loop (fun n e s' => ∃ i : Nat, n = xs.length - i ∧ i ≤ xs.length ∧ (∀ k, k < i → xs.getD k 0 = ys.getD k 0) ∧ e.n = 38 ∧ e.m 2 = .ptr s.nx 0 ∧ e.m 3 = .ptr (s.nx + 1) 0 ∧ e.m 5 = .v (.int .i64 (i : Nat)) ∧ s'.get s.nx = some [.v (.bool a), .sl xs.length (WL xs)] ∧ s'.get (s.nx + 1) = some [.v (.bool a), .sl ys.length (WL ys)] ∧ ∀ i, i < s.nx → s'.get i = s.get i) xs.length ?_ ?_
      · refine ⟨0, by omega, by omega, fun k hk => by omega, ?_⟩
        (first | refine rn trivial ?_ | exact rn0 trivial)
        (repeat' refine And.intro ?_ ?_) <;> (first | done | exact rfl | (intro i hi; exact rn0 trivial; done) | (exact rn0 trivial; done) | skip)
      · rintro n e s' ⟨i, a1, a2, a3, k0, k2, k3, k5, g0, g1, fr⟩
        by_cases hn : i < xs.length
        · (first | refine go (cj rTW (cj @dl_idf (cj @dl_ln (cj @dl_one (cj @k0 (cj @k2 (cj @k3 (cj @k5 (cj @g0 @g1))))))))) ?_ | exact go0 (cj rTW (cj @dl_idf (cj @dl_ln (cj @dl_one (cj @k0 (cj @k2 (cj @k3 (cj @k5 (cj @g0 @g1))))))))))
          (try rw [then_normal]); (try refine aw_seq ?_); refine aw_cond rfl ?_ ?_ <;> intro hb <;> (try (cases hb; done)) <;> (try simp only [bq] at hb) <;> (try (exfalso; omega))
          have bx : xs.getD i 0 < 4294967296 := getD_lt B32 (by decide) xs hdx i
          have b2 : ys.getD i 0 < 4294967296 := getD_lt B32 (by decide) ys hdy i
          (first | refine go (cj rTW (cj @dl_idf (cj @dl_ln (cj @dl_one (cj @k0 (cj @k2 (cj @k3 (cj @k5 (cj @g0 @g1))))))))) ?_ | exact go0 (cj rTW (cj @dl_idf (cj @dl_ln (cj @dl_one (cj @k0 (cj @k2 (cj @k3 (cj @k5 (cj @g0 @g1))))))))))
          by_cases he : xs.getD i 0 = ys.getD i 0
          · refine aw_drw (.take 0 (.take 1 (.take 2 (.take 3 (.take 4 (.take 5 (.take 6 (.take 7 (.take 8 (.take 9 (.take 10 (.done)))))))))))) [s.nx, s.nx + 1] (by kernel_rfl) (by kernel_rfl) fun K hK => ?_; refine dr (cj rTW (cj @dl_idf (cj @dl_ln (cj @dl_one (cj @k0 (cj @k2 (cj @k3 (cj @k5 (cj @g0 (cj @g1 @hd_WL)))))))))) ?_; refine hK _ _ ?_; clear hK K
            (try rw [then_normal]); (try refine aw_seq ?_); refine aw_cond rfl ?_ ?_ <;> intro hb <;> (try (cases hb; done)) <;> (try simp only [bq] at hb) <;> (try (exfalso; omega))
            (first | refine go (cj rTW (cj @dl_idf (cj @dl_ln (cj @dl_one (cj @k0 (cj @k2 (cj @k3 (cj @k5 (cj @g0 @g1))))))))) ?_ | exact go0 (cj rTW (cj @dl_idf (cj @dl_ln (cj @dl_one (cj @k0 (cj @k2 (cj @k3 (cj @k5 (cj @g0 @g1))))))))))
            simp only [block_normal, loop_normal]; refine ⟨xs.length - (i + 1), by omega, i + 1, rfl, by omega, ?_, ?_⟩
            · intro k hk
              by_cases h : k = i
              · rw [h]; exact he
              · exact a3 k (by omega)
            · (first | refine rn (cj @k0 (cj @k2 (cj @k3 (cj @k5 (cj @g0 @g1))))) ?_ | exact rn0 (cj @k0 (cj @k2 (cj @k3 (cj @k5 (cj @g0 @g1))))))
              (repeat' refine And.intro ?_ ?_) <;> (first | done | exact rfl | (intro i hi; exact rn0 (fr i hi); done) | (exact rn0 (fr i hi); done) | skip)
          · have hno := no i hn he
            rw [decide_eq_false hno] at hR
            subst hR
            refine aw_drw (.take 0 (.take 1 (.take 2 (.take 3 (.take 4 (.take 5 (.take 6 (.take 7 (.take 8 (.take 9 (.take 10 (.done)))))))))))) [s.nx, s.nx + 1] (by kernel_rfl) (by kernel_rfl) fun K hK => ?_; refine dr (cj rTW (cj @dl_idf (cj @dl_ln (cj @dl_one (cj @k0 (cj @k2 (cj @k3 (cj @k5 (cj @g0 (cj @g1 @hd_WL)))))))))) ?_; refine hK _ _ ?_; clear hK K
            (try rw [then_normal]); (try refine aw_seq ?_); refine aw_cond rfl ?_ ?_ <;> intro hb <;> (try (cases hb; done)) <;> (try simp only [bq] at hb) <;> (try (exfalso; omega))
            (first | refine go (cj rTW (cj @dl_idf (cj @dl_ln (cj @dl_one (cj @k0 (cj @k2 (cj @k3 (cj @k5 (cj @g0 @g1))))))))) ?_ | exact go0 (cj rTW (cj @dl_idf (cj @dl_ln (cj @dl_one (cj @k0 (cj @k2 (cj @k3 (cj @k5 (cj @g0 @g1))))))))))
            (repeat' refine And.intro ?_ ?_) <;> (first | done | exact rfl | (intro i hi; exact rn0 (fr i hi); done) | (exact rn0 (fr i hi); done) | skip)
        · have hy := hyes fun k hk => a3 k (by omega)
          rw [decide_eq_true hy] at hR
          subst hR
          (first | refine go (cj rTW (cj @dl_idf (cj @dl_ln (cj @dl_one (cj @k0 (cj @k2 (cj @k3 (cj @k5 (cj @g0 @g1))))))))) ?_ | exact go0 (cj rTW (cj @dl_idf (cj @dl_ln (cj @dl_one (cj @k0 (cj @k2 (cj @k3 (cj @k5 (cj @g0 @g1))))))))))
          (try rw [then_normal]); (try refine aw_seq ?_); refine aw_cond rfl ?_ ?_ <;> intro hb <;> (try (cases hb; done)) <;> (try simp only [bq] at hb) <;> (try (exfalso; omega))
          (first | refine go (cj rTW (cj @dl_idf (cj @dl_ln (cj @dl_one (cj @k0 (cj @k2 (cj @k3 (cj @k5 (cj @g0 @g1))))))))) ?_ | exact go0 (cj rTW (cj @dl_idf (cj @dl_ln (cj @dl_one (cj @k0 (cj @k2 (cj @k3 (cj @k5 (cj @g0 @g1))))))))))
          (repeat' refine And.intro ?_ ?_) <;> (first | done | exact rfl | (intro i hi; exact rn0 (fr i hi); done) | (exact rn0 (fr i hi); done) | skip)
    · have hno := nolen hl
      rw [decide_eq_false hno]
      (first | refine go (cj rTW (cj @dl_idf (cj @dl_ln (cj @dl_one rbn)))) ?_ | exact go0 (cj rTW (cj @dl_idf (cj @dl_ln (cj @dl_one rbn)))))
      (try rw [then_normal]); (try refine aw_seq ?_); refine aw_cond rfl ?_ ?_ <;> intro hb <;> (try (cases hb; done)) <;> (try simp only [bq] at hb) <;> (try (exfalso; omega))
      (first | refine go (cj rTW (cj @dl_idf (cj @dl_ln @dl_one))) ?_ | exact go0 (cj rTW (cj @dl_idf (cj @dl_ln @dl_one))))
      (repeat' refine And.intro ?_ ?_) <;> (first | done | exact rfl | (intro i hi; exact rn0 trivial; done) | (exact rn0 trivial; done) | skip)
  · have hno : ¬ (a = b ∧ m = n) := fun q => hab q.1
    rw [decide_eq_false hno]
    cases a <;> cases b <;> (try exact absurd rfl hab)
    · (first | refine go (cj rTW (cj @dl_idf (cj @dl_ln @dl_one))) ?_ | exact go0 (cj rTW (cj @dl_idf (cj @dl_ln @dl_one))))
      (try rw [then_normal]); (try refine aw_seq ?_); refine aw_cond rfl ?_ ?_ <;> intro hb <;> (try (cases hb; done)) <;> (try simp only [bq] at hb) <;> (try (exfalso; omega))
      (first | refine go (cj rTW (cj @dl_idf (cj @dl_ln @dl_one))) ?_ | exact go0 (cj rTW (cj @dl_idf (cj @dl_ln @dl_one))))
      (repeat' refine And.intro ?_ ?_) <;> (first | done | exact rfl | (intro i hi; exact rn0 trivial; done) | (exact rn0 trivial; done) | skip)
    · (first | refine go (cj rTW (cj @dl_idf (cj @dl_ln @dl_one))) ?_ | exact go0 (cj rTW (cj @dl_idf (cj @dl_ln @dl_one))))
      (try rw [then_normal]); (try refine aw_seq ?_); refine aw_cond rfl ?_ ?_ <;> intro hb <;> (try (cases hb; done)) <;> (try simp only [bq] at hb) <;> (try (exfalso; omega))
      (first | refine go (cj rTW (cj @dl_idf (cj @dl_ln @dl_one))) ?_ | exact go0 (cj rTW (cj @dl_idf (cj @dl_ln @dl_one))))
      (repeat' refine And.intro ?_ ?_) <;> (first | done | exact rfl | (intro i hi; exact rn0 trivial; done) | (exact rn0 trivial; done) | skip)
end Go.Proofs.YtfjelkjlfcafgaaGreatDoor.RefH
end
section
/- The document's whole numbers (layer 1): the whole of 64 bits. -/
namespace Go.Proofs.YtfjelkjlfcafgaaGreatDoor.RefI
open Go Go.RowKit Go.Proofs.YtfjelkjlfcafgaaGreatDoor.Ax Go.Proofs.YtfjelkjlfcafgaaGreatDoor.Ti Go.Proofs.YtfjelkjlfcafgaaGreatDoor.BigM Go.Proofs.YtfjelkjlfcafgaaGreatDoor.RefA Go.Proofs.YtfjelkjlfcafgaaGreatDoor.RefB Go.Proofs.YtfjelkjlfcafgaaGreatDoor.RefC Go.Proofs.YtfjelkjlfcafgaaGreatDoor.RefD Go.Proofs.YtfjelkjlfcafgaaGreatDoor.RefE Go.Proofs.YtfjelkjlfcafgaaGreatDoor.RefF Go.Proofs.YtfjelkjlfcafgaaGreatDoor.RefG Go.Proofs.YtfjelkjlfcafgaaGreatDoor.RefH
set_option maxHeartbeats 2000000
set_option linter.unusedSimpArgs false
set_option linter.unusedVariables false
set_option maxRecDepth 4000
theorem rTI : type_of% (cj @ti105 (cj @ti63 (cj @ti3 @ti4))) := cj @ti105 (cj @ti63 (cj @ti3 @ti4))
theorem rTU : type_of% (cj @ti105 (cj @ti63 (cj @ti3 (cj @ti4 (cj @ti2 @ti165))))) := cj @ti105 (cj @ti63 (cj @ti3 (cj @ti4 (cj @ti2 @ti165))))

def fits (x : Int) : Prop := -9223372036854775808 ≤ x ∧ x ≤ 9223372036854775807
instance (x : Int) : Decidable (fits x) := by unfold fits; exact inferInstance
theorem whole_ax (x : Int) (l : lz x ≤ 1099511627776) : PCall Tryz.prog 62 [NI x] (if fits x then .tp [.v (.int .i64 x), .v (.bool true)] else .tp [.v (.int .i64 0), .v (.bool false)]) := by
  have lc : ∀ c : Int, -9223372036854775808 ≤ c → c ≤ 9223372036854775807 → lz c ≤ 4 := fun c h1 h2 => (ln_lt _ 4).1 (by unfold B; omega)
  have p0 := wide_ax (-9223372036854775808) (by omega) (by omega)
  have p1 := wide_ax 9223372036854775807 (by omega) (by omega)
  have p2 := heldN_ax x (-9223372036854775808) (by omega) (by have := lc (-9223372036854775808) (by omega) (by omega); omega)
  have p3 := heldN_ax x 9223372036854775807 (by omega) (by have := lc 9223372036854775807 (by omega) (by omega); omega)
  have hs : ∀ y : Int, (sgn y < 0 ↔ y < 0) ∧ (0 < sgn y ↔ 0 < y) := fun y => by unfold sgn; split <;> (try split) <;> omega
  have h2 := hs (x - -9223372036854775808)
  have h3 := hs (x - 9223372036854775807)
  refine pcall_of fun s => ?_
  refine acall_of Tryz.func62 rfl rfl (by simp [Tryz.ntmps62]) ?_; rw [Tryz.ntmps62, Tryz.results62]
  unfold NI at p0 p1 p2 p3 ⊢
  simp only [NS_eq, DN_ln] at p0 p1 p2 p3 ⊢
  change ln x.natAbs ≤ _ at l
  generalize hbb : decide (x < 0) = b at *
  generalize sgn (x - -9223372036854775808) = c2 at *
  generalize sgn (x - 9223372036854775807) = c3 at *
  by_cases hf : fits x
  · rw [if_pos hf]
    obtain ⟨f1, f2⟩ := hf
    (first | refine go (cj rTU (cj @dl_idf (cj @dl_ln @dl_one))) ?_ | exact go0 (cj rTU (cj @dl_idf (cj @dl_ln @dl_one))))
    refine aw_drw (.take 0 (.one 1 (.one 2 (.take 3 (.take 4 (.take 5 (.one 6 (.one 7 (.take 8 (.take 9 (.done))))))))))) [s.nx] (by kernel_rfl) (by kernel_rfl) fun K hK => ?_; refine dr (cj rTU (cj @dl_idf (cj @dl_ln @dl_one))) ?_; refine cont_pure p0 ?_; refine dr (cj rTU (cj @dl_idf (cj @dl_ln @dl_one))) ?_; refine cont_pure p2 ?_; refine dr (cj rTU (cj @dl_idf (cj @dl_ln @dl_one))) ?_; refine cont_pure p1 ?_; refine dr (cj rTU (cj @dl_idf (cj @dl_ln @dl_one))) ?_; refine cont_pure p3 ?_; refine dr (cj rTU (cj @dl_idf (cj @dl_ln @dl_one))) ?_; refine hK _ _ ?_; clear hK K
    (try rw [then_normal]); (try refine aw_seq ?_); refine aw_cond rfl ?_ ?_ <;> intro hb <;> (try (cases hb; done)) <;> (try simp only [bq] at hb) <;> (try (exfalso; omega))
    (first | refine go (cj rTU (cj @dl_idf (cj @dl_ln @dl_one))) ?_ | exact go0 (cj rTU (cj @dl_idf (cj @dl_ln @dl_one))))
    have hN : x.natAbs ≤ 9223372036854775808 := by omega
    refine aw_loop (fun n e s' => n ≤ ln x.natAbs ∧ e.n = 39 ∧ e.m 1 = .ptr s.nx 0 ∧ e.m 2 = .v (.int .i64 0) ∧ e.m 3 = .v (.bool false) ∧ e.m 4 = .v (.int .u64 (val B ((digs B x.natAbs).drop n) : Nat)) ∧ e.m 5 = .v (.int .i64 ((n : Int) - 1)) ∧ s' = s.push [.v (.bool b), .sl (ln x.natAbs) (DL (digs B x.natAbs))]) (ln x.natAbs) ?_ ?_
    · refine ⟨Nat.le_refl _, ?_⟩
      rw [List.drop_of_length_le (show (digs B x.natAbs).length ≤ ln x.natAbs from Nat.le_refl _), val]
      (first | refine rn trivial ?_ | exact rn0 trivial)
      (repeat' refine And.intro ?_ ?_) <;> (first | done | exact rfl | (intro i hi; exact rn0 trivial; done) | (exact rn0 trivial; done) | skip)
    · rintro n e s' ⟨a1, k0, k1, k2, k3, k4, k5, rfl⟩
      have hv := val_drop x.natAbs n a1
      have hle : val B ((digs B x.natAbs).drop n) ≤ 9223372036854775808 := by rw [hv]; exact Nat.le_trans (Nat.div_le_self _ _) hN
      have l2 : (digs B x.natAbs).length = ln x.natAbs := rfl
      by_cases hn : 0 < n
      · have hv2 := val_drop x.natAbs (n - 1) (by omega)
        have hle2 : val B ((digs B x.natAbs).drop (n - 1)) ≤ 9223372036854775808 := by rw [hv2]; exact Nat.le_trans (Nat.div_le_self _ _) hN
        have dp := drop_pred (digs B x.natAbs) n hn a1
        have hd : (digs B x.natAbs).getD (n - 1) 0 < 65536 := getD_lt B (by decide) _ (digs_lt B hB _) _
        have hv3 : val B ((digs B x.natAbs).drop (n - 1)) = (digs B x.natAbs).getD (n - 1) 0 + 65536 * val B ((digs B x.natAbs).drop n) := by rw [dp, val]; rfl
        generalize val B ((digs B x.natAbs).drop n) = V at *
        (first | refine go (cj rTU (cj @dl_idf (cj @dl_ln (cj @dl_one (cj @k0 (cj @k1 (cj @k2 (cj @k3 (cj @k4 @k5))))))))) ?_ | exact go0 (cj rTU (cj @dl_idf (cj @dl_ln (cj @dl_one (cj @k0 (cj @k1 (cj @k2 (cj @k3 (cj @k4 @k5))))))))))
        (try rw [then_normal]); (try refine aw_seq ?_); refine aw_cond rfl ?_ ?_ <;> intro hb <;> (try (cases hb; done)) <;> (try simp only [bq] at hb) <;> (try (exfalso; omega))
        (first | refine go (cj rTU (cj @dl_idf (cj @dl_ln (cj @dl_one (cj @k0 (cj @k1 (cj @k2 (cj @k3 (cj @k4 (cj @k5 @hd_DL)))))))))) ?_ | exact go0 (cj rTU (cj @dl_idf (cj @dl_ln (cj @dl_one (cj @k0 (cj @k1 (cj @k2 (cj @k3 (cj @k4 (cj @k5 @hd_DL)))))))))))
        simp only [block_normal, loop_normal]; refine ⟨n - 1, by omega, by omega, ?_⟩
        (first | refine rn (cj rTU (cj @dl_idf (cj @dl_ln (cj @dl_one (cj @k0 (cj @k1 (cj @k2 (cj @k3 (cj @k4 @k5))))))))) ?_ | exact rn0 (cj rTU (cj @dl_idf (cj @dl_ln (cj @dl_one (cj @k0 (cj @k1 (cj @k2 (cj @k3 (cj @k4 @k5))))))))))
        constructor
        · refine congrArg (fun z : Int => AV.v (.int .u64 z)) ?_
          omega
        · refine congrArg (fun z : Int => AV.v (.int .i64 z)) ?_
          omega
      · (first | refine go (cj rTU (cj @dl_idf (cj @dl_ln (cj @dl_one (cj @k0 (cj @k1 (cj @k2 (cj @k3 (cj @k4 @k5))))))))) ?_ | exact go0 (cj rTU (cj @dl_idf (cj @dl_ln (cj @dl_one (cj @k0 (cj @k1 (cj @k2 (cj @k3 (cj @k4 @k5))))))))))
        (try rw [then_normal]); (try refine aw_seq ?_); refine aw_cond rfl ?_ ?_ <;> intro hb <;> (try (cases hb; done)) <;> (try simp only [bq] at hb) <;> (try (exfalso; omega))
        obtain rfl : n = 0 := by omega
        rw [List.drop_zero, val_digs B hB] at k4
        (first | refine go (cj rTU (cj @dl_idf (cj @dl_ln (cj @dl_one (cj @k0 (cj @k1 (cj @k2 (cj @k3 (cj @k4 @k5))))))))) ?_ | exact go0 (cj rTU (cj @dl_idf (cj @dl_ln (cj @dl_one (cj @k0 (cj @k1 (cj @k2 (cj @k3 (cj @k4 @k5))))))))))
        cases b
        · have hb2 := of_decide_eq_false hbb
          (try rw [then_normal]); (try refine aw_seq ?_); refine aw_cond rfl ?_ ?_ <;> intro hb <;> (try (cases hb; done)) <;> (try simp only [bq] at hb) <;> (try (exfalso; omega))
          (first | refine go (cj rTU (cj @dl_idf (cj @dl_ln (cj @dl_one (cj @k0 (cj @k1 (cj @k2 (cj @k3 (cj @k4 @k5))))))))) ?_ | exact go0 (cj rTU (cj @dl_idf (cj @dl_ln (cj @dl_one (cj @k0 (cj @k1 (cj @k2 (cj @k3 (cj @k4 @k5))))))))))
          (repeat' refine And.intro ?_ ?_) <;> (first | done | exact rfl | (intro i hi; exact rn0 trivial; done) | (exact rn0 trivial; done) | skip)
          rw [show (x.natAbs : Int) = x by omega]
        · have hb2 := of_decide_eq_true hbb
          (try rw [then_normal]); (try refine aw_seq ?_); refine aw_cond rfl ?_ ?_ <;> intro hb <;> (try (cases hb; done)) <;> (try simp only [bq] at hb) <;> (try (exfalso; omega))
          (first | refine go (cj rTU (cj @dl_idf (cj @dl_ln (cj @dl_one (cj @k0 (cj @k1 (cj @k2 (cj @k3 (cj @k4 @k5))))))))) ?_ | exact go0 (cj rTU (cj @dl_idf (cj @dl_ln (cj @dl_one (cj @k0 (cj @k1 (cj @k2 (cj @k3 (cj @k4 @k5))))))))))
          (repeat' refine And.intro ?_ ?_) <;> (first | done | exact rfl | (intro i hi; exact rn0 trivial; done) | (exact rn0 trivial; done) | skip)
          rw [wrap_u64, IntKind.wrap_i64]
          refine congrArg (fun z : Int => AV.tp [.v (.int .i64 z), .v (.bool true)]) ?_
          omega
  · rw [if_neg hf]
    by_cases f1 : -9223372036854775808 ≤ x
    · have f2 : ¬ x ≤ 9223372036854775807 := fun q => hf ⟨f1, q⟩
      (first | refine go (cj rTU (cj @dl_idf (cj @dl_ln @dl_one))) ?_ | exact go0 (cj rTU (cj @dl_idf (cj @dl_ln @dl_one))))
      refine aw_drw (.take 0 (.one 1 (.one 2 (.take 3 (.take 4 (.take 5 (.one 6 (.one 7 (.take 8 (.take 9 (.done))))))))))) [s.nx] (by kernel_rfl) (by kernel_rfl) fun K hK => ?_; refine dr (cj rTU (cj @dl_idf (cj @dl_ln @dl_one))) ?_; refine cont_pure p0 ?_; refine dr (cj rTU (cj @dl_idf (cj @dl_ln @dl_one))) ?_; refine cont_pure p2 ?_; refine dr (cj rTU (cj @dl_idf (cj @dl_ln @dl_one))) ?_; refine cont_pure p1 ?_; refine dr (cj rTU (cj @dl_idf (cj @dl_ln @dl_one))) ?_; refine cont_pure p3 ?_; refine dr (cj rTU (cj @dl_idf (cj @dl_ln @dl_one))) ?_; refine hK _ _ ?_; clear hK K
      (try rw [then_normal]); (try refine aw_seq ?_); refine aw_cond rfl ?_ ?_ <;> intro hb <;> (try (cases hb; done)) <;> (try simp only [bq] at hb) <;> (try (exfalso; omega))
      (first | refine go (cj rTU (cj @dl_idf (cj @dl_ln @dl_one))) ?_ | exact go0 (cj rTU (cj @dl_idf (cj @dl_ln @dl_one))))
      (repeat' refine And.intro ?_ ?_) <;> (first | done | exact rfl | (intro i hi; exact rn0 trivial; done) | (exact rn0 trivial; done) | skip)
    · (first | refine go (cj rTU (cj @dl_idf (cj @dl_ln @dl_one))) ?_ | exact go0 (cj rTU (cj @dl_idf (cj @dl_ln @dl_one))))
      refine aw_drw (.take 0 (.one 1 (.one 2 (.take 3 (.take 4 (.take 5 (.one 6 (.one 7 (.take 8 (.take 9 (.done))))))))))) [s.nx] (by kernel_rfl) (by kernel_rfl) fun K hK => ?_; refine dr (cj rTU (cj @dl_idf (cj @dl_ln @dl_one))) ?_; refine cont_pure p0 ?_; refine dr (cj rTU (cj @dl_idf (cj @dl_ln @dl_one))) ?_; refine cont_pure p2 ?_; refine dr (cj rTU (cj @dl_idf (cj @dl_ln @dl_one))) ?_; refine hK _ _ ?_; clear hK K
      (try rw [then_normal]); (try refine aw_seq ?_); refine aw_cond rfl ?_ ?_ <;> intro hb <;> (try (cases hb; done)) <;> (try simp only [bq] at hb) <;> (try (exfalso; omega))
      (first | refine go (cj rTU (cj @dl_idf (cj @dl_ln @dl_one))) ?_ | exact go0 (cj rTU (cj @dl_idf (cj @dl_ln @dl_one))))
      (repeat' refine And.intro ?_ ?_) <;> (first | done | exact rfl | (intro i hi; exact rn0 trivial; done) | (exact rn0 trivial; done) | skip)
end Go.Proofs.YtfjelkjlfcafgaaGreatDoor.RefI
end
section
/- The document's whole numbers (layer 1): in decimal digits. -/
namespace Go.Proofs.YtfjelkjlfcafgaaGreatDoor.RefJ
open Go Go.RowKit Go.Proofs.YtfjelkjlfcafgaaGreatDoor.Ax Go.Proofs.YtfjelkjlfcafgaaGreatDoor.Ti Go.Proofs.YtfjelkjlfcafgaaGreatDoor.BigM Go.Proofs.YtfjelkjlfcafgaaGreatDoor.RefA Go.Proofs.YtfjelkjlfcafgaaGreatDoor.RefB Go.Proofs.YtfjelkjlfcafgaaGreatDoor.RefC Go.Proofs.YtfjelkjlfcafgaaGreatDoor.RefD Go.Proofs.YtfjelkjlfcafgaaGreatDoor.RefE Go.Proofs.YtfjelkjlfcafgaaGreatDoor.RefF Go.Proofs.YtfjelkjlfcafgaaGreatDoor.RefG Go.Proofs.YtfjelkjlfcafgaaGreatDoor.RefH Go.Proofs.YtfjelkjlfcafgaaGreatDoor.RefI
set_option maxHeartbeats 2000000
set_option linter.unusedSimpArgs false
set_option linter.unusedVariables false
set_option maxRecDepth 4000
theorem rTI : type_of% (cj @ti105 (cj @ti63 (cj @ti3 (cj @ti4 (cj @ti9 (cj @ti116 @ti5)))))) := cj @ti105 (cj @ti63 (cj @ti3 (cj @ti4 (cj @ti9 (cj @ti116 @ti5)))))

/-- A string of these bytes. -/
def bs (l : List Nat) : ByteArray := ⟨(l.map UInt8.ofNat).toArray⟩
theorem bs_append (a b : List Nat) : bs a ++ bs b = bs (a ++ b) := by
  apply ByteArray.ext
  rw [ByteArray.data_append]
  simp [bs]
theorem bs_size (l : List Nat) : (bs l).size = l.length := by simp [bs, ByteArray.size]
theorem trimZ_take : ∀ (l : List Nat), l.take (trimZ l).length = trimZ l
  | [] => rfl
  | d :: l => by
    rw [trimZ]
    split
    · rfl
    · rw [List.length_cons, List.take_succ_cons, trimZ_take l]
/-- Trim, of a slice that its holder goes on writing. -/
theorem trim_own (es : List Nat) (n id : Nat) (s : St) (hn : n ≤ es.length) (hl : es.length ≤ 140737488355328) (hg : s.get id = some (DL es)) :
    ACall Tryz.prog 115 [.own id 0 n 1] s fun r s' => r = .own id 0 (trimZ (es.take n)).length 1 ∧ s' = s := by
  refine acall_of Tryz.func115 rfl rfl (by simp [Tryz.ntmps115]) ?_; rw [Tryz.ntmps115, Tryz.results115]
  (first | refine go (cj rTI (cj @dl_idf (cj @dl_ln @dl_one))) ?_ | exact go0 (cj rTI (cj @dl_idf (cj @dl_ln @dl_one))))
  refine aw_loop (fun k e s' => k ≤ n ∧ e.n = 21 ∧ e.m 0 = .own id 0 n 1 ∧ e.m 3 = .v (.int .i64 k) ∧ s' = s ∧ trimZ (es.take k) = trimZ (es.take n)) n ?_ ?_
  · (first | refine rn @Nat.le_refl ?_ | exact rn0 @Nat.le_refl)
  · rintro k e s' ⟨hk, h1, h2, h3, rfl, h4⟩
    have l1 := DL_len es
    have z : ∀ i : Nat, 0 + i = i := Nat.zero_add
    by_cases h0 : 0 < k
    · by_cases hz : es.getD (k - 1) 0 = 0
      · (first | refine go (cj rTI (cj @dl_idf (cj @dl_ln (cj @dl_one (cj @h1 (cj @h2 (cj @h3 (cj @hg (cj @hd_DL @z))))))))) ?_ | exact go0 (cj rTI (cj @dl_idf (cj @dl_ln (cj @dl_one (cj @h1 (cj @h2 (cj @h3 (cj @hg (cj @hd_DL @z))))))))))
        (try rw [then_normal]); (try refine aw_seq ?_); refine aw_cond rfl ?_ ?_ <;> intro hb <;> (try (cases hb; done)) <;> (try simp only [bq] at hb) <;> (try (exfalso; omega))
        (first | refine go (cj rTI (cj @dl_idf (cj @dl_ln (cj @dl_one (cj @h1 (cj @h2 (cj @h3 (cj @hg (cj @hd_DL @z))))))))) ?_ | exact go0 (cj rTI (cj @dl_idf (cj @dl_ln (cj @dl_one (cj @h1 (cj @h2 (cj @h3 (cj @hg (cj @hd_DL @z))))))))))
        have h5 := trimZ_last es k h0 (by omega) hz
        simp only [block_normal, loop_normal]; refine ⟨k - 1, by omega, ?_⟩; (first | refine rn (cj @h1 @h2) ?_ | exact rn0 (cj @h1 @h2))
        exact ⟨by omega, by congr 2; omega, by rw [h5, h4]⟩
      · (first | refine go (cj rTI (cj @dl_idf (cj @dl_ln (cj @dl_one (cj @h1 (cj @h2 (cj @h3 (cj @hg (cj @hd_DL @z))))))))) ?_ | exact go0 (cj rTI (cj @dl_idf (cj @dl_ln (cj @dl_one (cj @h1 (cj @h2 (cj @h3 (cj @hg (cj @hd_DL @z))))))))))
        (try rw [then_normal]); (try refine aw_seq ?_); refine aw_cond rfl ?_ ?_ <;> intro hb <;> (try (cases hb; done)) <;> (try simp only [bq] at hb) <;> (try (exfalso; omega))
        have h5 := trimZ_stop es k (by omega) (.inr hz)
        rw [h4] at h5
        (first | refine go (cj rTI (cj @dl_idf (cj @dl_ln (cj @dl_one (cj @h1 (cj @h2 (cj @h3 (cj @hg (cj @hd_DL @z))))))))) ?_ | exact go0 (cj rTI (cj @dl_idf (cj @dl_ln (cj @dl_one (cj @h1 (cj @h2 (cj @h3 (cj @hg (cj @hd_DL @z))))))))))
        rw [h5, List.length_take, Nat.min_eq_left (by omega)]
        simp
    · have h5 := trimZ_stop es k (by omega) (.inl (by omega))
      rw [h4] at h5
      (first | refine go (cj rTI (cj @dl_idf (cj @dl_ln (cj @dl_one (cj @h1 (cj @h2 @h3)))))) ?_ | exact go0 (cj rTI (cj @dl_idf (cj @dl_ln (cj @dl_one (cj @h1 (cj @h2 @h3)))))))
      (try rw [then_normal]); (try refine aw_seq ?_); refine aw_cond rfl ?_ ?_ <;> intro hb <;> (try (cases hb; done)) <;> (try simp only [bq] at hb) <;> (try (exfalso; omega))
      (first | refine go (cj rTI (cj @dl_idf (cj @dl_ln (cj @dl_one (cj @h1 (cj @h2 @h3)))))) ?_ | exact go0 (cj rTI (cj @dl_idf (cj @dl_ln (cj @dl_one (cj @h1 (cj @h2 @h3)))))))
      rw [h5, List.length_take, Nat.min_eq_left (by omega)]
      simp

/-- The decimal digits, the highest first, as bytes. -/
def dec (n : Nat) : List Nat := ((digs 10 n).reverse).map fun d => 48 + d
def decZ (z : Int) : List Nat := if z = 0 then [48] else (if z < 0 then [45] else []) ++ dec z.natAbs
theorem dec_len (n : Nat) : (digs 10 n).length ≤ 5 * ln n := by
  rw [digs_length_le 10 (by decide)]
  have h1 := (ln_lt n _).2 (Nat.le_refl _)
  have h2 : B ^ ln n ≤ (10 ^ 5) ^ ln n := Nat.pow_le_pow_left (by decide) _
  rw [← Nat.pow_mul] at h2
  omega
/-- The memory of Digits. -/
structure DigM (b : Bool) (N : Nat) (s : St) (V : Nat) (dn : List Nat) (es : List Nat) (e : Env) (s' : St) : Prop where
  en : e.n = 53
  e1 : e.m 1 = .ptr s.nx 0
  e3 : e.m 3 = .v (.string (bs (dn.reverse.map fun d => 48 + d)))
  e4 : e.m 4 = .own (s.nx + 2) 0 (ln V) 1
  g0 : s'.get s.nx = some [.v (.bool b), .sl (ln N) (DL (digs B N))]
  gi : s'.get (s.nx + 2) = some (DL es)
  hi : s.nx + 3 ≤ s'.nx
  fr : ∀ i, i < s.nx → s'.get i = s.get i
  len : es.length = ln N
  lv : ln V ≤ ln N
  all : digs 10 N = dn ++ digs 10 V
structure DigO (b : Bool) (N : Nat) (s : St) (V : Nat) (dn : List Nat) (es : List Nat) (e : Env) (s' : St) : Prop extends DigM b N s V dn es e s' where
  ov : es.take (ln V) = digs B V
/-- Within: the digits from k on are divided. -/
structure DigJ (b : Bool) (N : Nat) (s : St) (V : Nat) (dn : List Nat) (k : Nat) (es : List Nat) (e : Env) (s' : St) : Prop extends DigM b N s V dn es e s' where
  e5 : e.m 5 = .v (.int .i64 (val B ((digs B V).drop k) % 10 : Nat))
  e6 : e.m 6 = .v (.int .i64 ((k : Int) - 1))
  kl : k ≤ ln V
  jt : es.take k = (digs B V).take k
  jv : val B ((es.take (ln V)).drop k) = val B ((digs B V).drop k) / 10
  lt : ∀ d ∈ es.take (ln V), d < B
theorem getD_take (l : List Nat) (k i : Nat) (h : i < k) : (l.take k).getD i 0 = l.getD i 0 := by
  rw [List.getD_eq_getElem?_getD, List.getD_eq_getElem?_getD, List.getElem?_take_of_lt h]
theorem dig_step (D es : List Nat) (L k : Nat) (hk : 0 < k) (hkl : k ≤ L) (hL : L ≤ es.length) (hD : D.length = L) (hd : ∀ d ∈ D, d < B) (jt : es.take k = D.take k) (jv : val B ((es.take L).drop k) = val B (D.drop k) / 10) (lt : ∀ d ∈ es.take L, d < B) (z : Nat) (hz : z = es.getD (k - 1) 0 + B * (val B (D.drop k) % 10)) :
    z < 10 * B ∧ z % 10 = val B (D.drop (k - 1)) % 10 ∧ (es.set (k - 1) (z / 10)).take (k - 1) = D.take (k - 1) ∧ val B (((es.set (k - 1) (z / 10)).take L).drop (k - 1)) = val B (D.drop (k - 1)) / 10 ∧ ∀ d ∈ (es.set (k - 1) (z / 10)).take L, d < B := by
  have e0 : es.getD (k - 1) 0 = D.getD (k - 1) 0 := by rw [← getD_take es k _ (by omega), jt, getD_take D k _ (by omega)]
  have hx : D.getD (k - 1) 0 < B := getD_lt B (by decide) D hd _
  have dp := drop_pred D k hk (by omega)
  have st := divide_step (D.getD (k - 1) 0) 10 (val B (D.drop k)) (by decide)
  have hv : val B (D.drop (k - 1)) = D.getD (k - 1) 0 + B * val B (D.drop k) := by rw [dp, val]
  rw [← hv, ← e0, ← hz] at st
  have hzl : z < 10 * B := by rw [hz, e0]; exact divide_lt _ 10 _ hx (Nat.mod_lt _ (by decide))
  refine ⟨hzl, st.2.symm, ?_, ?_, ?_⟩
  · rw [List.take_set_of_le (Nat.le_refl _)]
    have := congrArg (List.take (k - 1)) jt
    rwa [List.take_take, List.take_take, Nat.min_eq_left (by omega)] at this
  · rw [List.take_set, drop_pred _ k hk (by rw [List.length_set, List.length_take]; omega), getD_set _ _ _ _ (by rw [List.length_take]; omega), if_pos rfl, List.drop_set_of_lt (by omega), val, jv, st.1]
  · rw [List.take_set]
    exact set_lt _ _ _ lt (Nat.div_lt_of_lt_mul hzl)
theorem bs_dig (c : Nat) : ByteArray.mk #[unbyte (AV.v (.int .u8 (48 + (c : Int))))] = bs [48 + c] := by
  have : (48 + (c : Int)).toNat = 48 + c := by omega
  simp [bs, unbyte, this]
theorem digits_ax (x : Int) (l : lz x ≤ 1099511627776) : PCall Tryz.prog 65 [NI x] (.v (.string (bs (decZ x)))) := by
  have p0 := sign_ax x
  refine pcall_of fun s => ?_
  refine acall_of Tryz.func65 rfl rfl (by simp [Tryz.ntmps65]) ?_; rw [Tryz.ntmps65, Tryz.results65]
  unfold NI at p0 ⊢
  simp only [NS_eq, DN_ln] at p0 ⊢
  change ln x.natAbs ≤ _ at l
  by_cases h0 : x = 0
  · subst h0
    (first | refine go (cj rTI (cj @dl_idf (cj @dl_ln @dl_one))) ?_ | exact go0 (cj rTI (cj @dl_idf (cj @dl_ln @dl_one))))
    refine aw_reg fun K hK => ?_; refine rn (cj rTI (cj @dl_idf (cj @dl_ln @dl_one))) ?_; refine cont_pure p0 ?_; refine rn (cj rTI (cj @dl_idf (cj @dl_ln @dl_one))) ?_; refine hK _ _ ?_; clear hK K
    (try rw [then_normal]); (try refine aw_seq ?_); refine aw_cond rfl ?_ ?_ <;> intro hb <;> (try (cases hb; done)) <;> (try simp only [bq] at hb) <;> (try (exfalso; omega))
    (first | refine go (cj rTI (cj @dl_idf (cj @dl_ln @dl_one))) ?_ | exact go0 (cj rTI (cj @dl_idf (cj @dl_ln @dl_one))))
    (repeat' refine And.intro ?_ ?_) <;> (first | done | exact rfl | (intro i hi; exact rn0 trivial; done) | (exact rn0 trivial; done) | skip)
  · have hs : sgn x ≠ 0 := by unfold sgn; split <;> (try split) <;> omega
    generalize hbb : decide (x < 0) = b at *
    generalize sgn x = c at *
    have hdz : decZ x = (if b = true then [45] else []) ++ dec x.natAbs := by unfold decZ; rw [if_neg h0, ← hbb]; simp
    have h1 : 0 < x.natAbs := by omega
    generalize x.natAbs = N at *
    (first | refine go (cj rTI (cj @dl_idf (cj @dl_ln @dl_one))) ?_ | exact go0 (cj rTI (cj @dl_idf (cj @dl_ln @dl_one))))
    refine aw_reg fun K hK => ?_; refine rn (cj rTI (cj @dl_idf (cj @dl_ln @dl_one))) ?_; refine cont_pure p0 ?_; refine rn (cj rTI (cj @dl_idf (cj @dl_ln @dl_one))) ?_; refine hK _ _ ?_; clear hK K
    (try rw [then_normal]); (try refine aw_seq ?_); refine aw_cond rfl ?_ ?_ <;> intro hb <;> (try (cases hb; done)) <;> (try simp only [bq] at hb) <;> (try (exfalso; omega))
    (first | refine go (cj rTI (cj @dl_idf (cj @dl_ln @dl_one))) ?_ | exact go0 (cj rTI (cj @dl_idf (cj @dl_ln @dl_one))))
    have z : ∀ i : Nat, 0 + i = i := Nat.zero_add
    refine aw_loop (fun V e s' => ∃ dn es : List Nat, DigO b N s V dn es e s') N ?_ ?_
    · refine ⟨[], digs B N, ?_⟩
      constructor
      · constructor <;> (try (first | refine rn (cj rTI (cj @dl_idf (cj @dl_ln (cj @dl_one @z)))) ?_ | exact rn0 (cj rTI (cj @dl_idf (cj @dl_ln (cj @dl_one @z))))))
        all_goals (first | done | omega | (refine congrArg some ?_; rfl) | rfl | (refine congrArg (fun z : Int => AV.v (.int .i64 z)) ?_; omega) | (intro i hi; (first | refine rn trivial ?_ | exact rn0 trivial)) | skip)
      · exact List.take_of_length_le (Nat.le_refl _)
    · rintro V e s' ⟨dn, es, hO⟩
      have k0 := hO.en
      have k1 := hO.e1
      have k3 := hO.e3
      have k4 := hO.e4
      have g0 := hO.g0
      have gi := hO.gi
      have hi := hO.hi
      have l1 := DL_len es
      have l2 := hO.len
      have l3 := hO.lv
      have l4 := ln_zero V
      have l5 := congrArg List.length hO.all
      rw [List.length_append] at l5
      have l6 := dec_len N
      by_cases hV : 0 < V
      · (first | refine go (cj rTI (cj @dl_idf (cj @dl_ln (cj @dl_one (cj @k0 (cj @k1 (cj @k3 (cj @k4 (cj @g0 (cj @gi @z)))))))))) ?_ | exact go0 (cj rTI (cj @dl_idf (cj @dl_ln (cj @dl_one (cj @k0 (cj @k1 (cj @k3 (cj @k4 (cj @g0 (cj @gi @z)))))))))))
        (try rw [then_normal]); (try refine aw_seq ?_); refine aw_cond rfl ?_ ?_ <;> intro hb <;> (try (cases hb; done)) <;> (try simp only [bq] at hb) <;> (try (exfalso; omega))
        (first | refine go (cj rTI (cj @dl_idf (cj @dl_ln (cj @dl_one (cj @k0 (cj @k1 (cj @k3 (cj @k4 (cj @g0 (cj @gi @z)))))))))) ?_ | exact go0 (cj rTI (cj @dl_idf (cj @dl_ln (cj @dl_one (cj @k0 (cj @k1 (cj @k3 (cj @k4 (cj @g0 (cj @gi @z)))))))))))
        refine aw_loop (fun k e s' => ∃ es : List Nat, DigJ b N s V dn k es e s') (ln V) ?_ ?_
        · refine ⟨es, ?_⟩
          constructor
          · constructor <;> (try (first | refine rn (cj rTI (cj @dl_idf (cj @dl_ln (cj @dl_one (cj @k0 (cj @k1 (cj @k3 (cj @k4 (cj @g0 (cj @gi @z)))))))))) ?_ | exact rn0 (cj rTI (cj @dl_idf (cj @dl_ln (cj @dl_one (cj @k0 (cj @k1 (cj @k3 (cj @k4 (cj @g0 (cj @gi @z))))))))))))
            all_goals (first | done | omega | (refine congrArg some ?_; rfl) | rfl | (refine congrArg (fun z : Int => AV.v (.int .i64 z)) ?_; omega) | (intro i hi; (first | refine rn (hO.fr i hi) ?_ | exact rn0 (hO.fr i hi))) | skip)
            exact hO.all
          · rw [List.drop_of_length_le (show (digs B V).length ≤ ln V from Nat.le_refl _), val]
            (first | refine rn trivial ?_ | exact rn0 trivial)
            rfl
          · (first | refine rn trivial ?_ | exact rn0 trivial)
            all_goals (first | done | omega | (refine congrArg some ?_; rfl) | rfl | (refine congrArg (fun z : Int => AV.v (.int .i64 z)) ?_; omega) | (intro i hi; (first | refine rn trivial ?_ | exact rn0 trivial)) | skip)
          · omega
          · exact hO.ov.trans (List.take_of_length_le (Nat.le_refl _)).symm
          · rw [List.drop_of_length_le (by rw [List.length_take]; omega), List.drop_of_length_le (show (digs B V).length ≤ ln V from Nat.le_refl _)]; rfl
          · rw [hO.ov]; exact digs_lt B hB V
        · clear k0 k1 k3 k4 g0 gi hi l1 l2
          rintro k e2 s2 ⟨es, hJ⟩
          have k0 := hJ.en
          have k1 := hJ.e1
          have k3 := hJ.e3
          have k4 := hJ.e4
          have k5 := hJ.e5
          have k6 := hJ.e6
          have g0 := hJ.g0
          have gi := hJ.gi
          have hi := hJ.hi
          have l1 := DL_len es
          have l2 := hJ.len
          have b1 := hJ.kl
          by_cases hk : 0 < k
          · (first | refine go (cj rTI (cj @dl_idf (cj @dl_ln (cj @dl_one (cj @k0 (cj @k1 (cj @k3 (cj @k4 (cj @k5 (cj @k6 (cj @g0 (cj @gi (cj @z @hd_DL))))))))))))) ?_ | exact go0 (cj rTI (cj @dl_idf (cj @dl_ln (cj @dl_one (cj @k0 (cj @k1 (cj @k3 (cj @k4 (cj @k5 (cj @k6 (cj @g0 (cj @gi (cj @z @hd_DL))))))))))))))
            (try rw [then_normal]); (try refine aw_seq ?_); refine aw_cond rfl ?_ ?_ <;> intro hb <;> (try (cases hb; done)) <;> (try simp only [bq] at hb) <;> (try (exfalso; omega))
            obtain ⟨q1, q2, q3, q4, q5⟩ := dig_step (digs B V) es (ln V) k hk b1 (by omega) rfl (digs_lt B hB V) hJ.jt hJ.jv hJ.lt _ rfl
            have hx : es.getD (k - 1) 0 < 65536 := by
              rw [← getD_take es (ln V) _ (by omega)]
              exact getD_lt B (by decide) _ hJ.lt _
            have hc : val B ((digs B V).drop k) % 10 < 10 := Nat.mod_lt _ (by decide)
            generalize hcc : val B ((digs B V).drop k) % 10 = c at *
            (first | refine go (cj rTI (cj @dl_idf (cj @dl_ln (cj @dl_one (cj @k0 (cj @k1 (cj @k3 (cj @k4 (cj @k5 (cj @k6 (cj @g0 (cj @gi (cj @z @hd_DL))))))))))))) ?_ | exact go0 (cj rTI (cj @dl_idf (cj @dl_ln (cj @dl_one (cj @k0 (cj @k1 (cj @k3 (cj @k4 (cj @k5 (cj @k6 (cj @g0 (cj @gi (cj @z @hd_DL))))))))))))))
            have e1 : (c : Int) * 65536 + ((es.getD (k - 1) 0 : Nat) : Int) = ((es.getD (k - 1) 0 + B * c : Nat) : Int) := by unfold B; omega
            have e2 : ∀ z : Nat, ((z : Int) % 10) = ((z % 10 : Nat) : Int) := fun z => by omega
            have e3 : ∀ z : Nat, ((z : Int) / 10) = ((z / 10 : Nat) : Int) := fun z => by omega
            have q6 : es.getD (k - 1) 0 + B * c < 10 * 65536 := q1
            simp only [block_normal, loop_normal]; refine ⟨k - 1, by omega, es.set (k - 1) ((es.getD (k - 1) 0 + B * c) / 10), ?_⟩
            constructor
            · constructor <;> (try (first | refine rn (cj rTI (cj @dl_idf (cj @dl_ln (cj @dl_one (cj @k0 (cj @k1 (cj @k3 (cj @k4 (cj @k5 (cj @k6 (cj @g0 (cj @gi (cj @z (cj @e1 (cj @e2 (cj @e3 (cj @DL_set rls))))))))))))))))) ?_ | exact rn0 (cj rTI (cj @dl_idf (cj @dl_ln (cj @dl_one (cj @k0 (cj @k1 (cj @k3 (cj @k4 (cj @k5 (cj @k6 (cj @g0 (cj @gi (cj @z (cj @e1 (cj @e2 (cj @e3 (cj @DL_set rls)))))))))))))))))))
              all_goals (first | done | omega | (refine congrArg some ?_; rfl) | rfl | (refine congrArg (fun z : Int => AV.v (.int .i64 z)) ?_; omega) | (intro i hi; (first | refine rn (hJ.fr i hi) ?_ | exact rn0 (hJ.fr i hi))) | skip)
              exact hJ.all
            · (first | refine rn (cj rTI (cj @dl_idf (cj @dl_ln (cj @dl_one (cj @k0 (cj @k1 (cj @k3 (cj @k4 (cj @k5 (cj @k6 (cj @g0 (cj @gi (cj @z (cj @e1 (cj @e2 @e3))))))))))))))) ?_ | exact rn0 (cj rTI (cj @dl_idf (cj @dl_ln (cj @dl_one (cj @k0 (cj @k1 (cj @k3 (cj @k4 (cj @k5 (cj @k6 (cj @g0 (cj @gi (cj @z (cj @e1 (cj @e2 @e3))))))))))))))))
              all_goals (first | done | omega | (refine congrArg some ?_; rfl) | rfl | (refine congrArg (fun z : Int => AV.v (.int .i64 z)) ?_; omega) | (intro i hi; (first | refine rn trivial ?_ | exact rn0 trivial)) | skip)
            · (first | refine rn trivial ?_ | exact rn0 trivial)
              all_goals (first | done | omega | (refine congrArg some ?_; rfl) | rfl | (refine congrArg (fun z : Int => AV.v (.int .i64 z)) ?_; omega) | (intro i hi; (first | refine rn trivial ?_ | exact rn0 trivial)) | skip)
            · omega
            · exact q3
            · exact q4
            · exact q5
          · (first | refine go (cj rTI (cj @dl_idf (cj @dl_ln (cj @dl_one (cj @k0 (cj @k1 (cj @k3 (cj @k4 (cj @k5 (cj @k6 (cj @g0 (cj @gi @z)))))))))))) ?_ | exact go0 (cj rTI (cj @dl_idf (cj @dl_ln (cj @dl_one (cj @k0 (cj @k1 (cj @k3 (cj @k4 (cj @k5 (cj @k6 (cj @g0 (cj @gi @z)))))))))))))
            (try rw [then_normal]); (try refine aw_seq ?_); refine aw_cond rfl ?_ ?_ <;> intro hb <;> (try (cases hb; done)) <;> (try simp only [bq] at hb) <;> (try (exfalso; omega))
            obtain rfl : k = 0 := by omega
            have hv := hJ.jv
            rw [List.drop_zero, List.drop_zero, val_digs B hB] at hv
            rw [List.drop_zero, val_digs B hB] at k5
            have ht := digs_val B hB _ hJ.lt
            rw [hv] at ht
            have hlen : (trimZ (es.take (ln V))).length = ln (V / 10) := by rw [← ht]; rfl
            have htk : es.take (ln (V / 10)) = digs B (V / 10) := by
              have h7 := trimZ_take (es.take (ln V))
              rw [hlen, List.take_take, Nat.min_eq_left (ln_mono (Nat.div_le_self _ _)), ← ht] at h7
              exact h7
            have ha := hJ.all
            rw [digs_pos 10 V (by decide) hV] at ha
            have hc : V % 10 < 10 := Nat.mod_lt _ (by decide)
            generalize V % 10 = c at *
            (first | refine go (cj rTI (cj @dl_idf (cj @dl_ln (cj @dl_one (cj @k0 (cj @k1 (cj @k3 (cj @k4 (cj @k5 (cj @k6 (cj @g0 (cj @gi @z)))))))))))) ?_ | exact go0 (cj rTI (cj @dl_idf (cj @dl_ln (cj @dl_one (cj @k0 (cj @k1 (cj @k3 (cj @k4 (cj @k5 (cj @k6 (cj @g0 (cj @gi @z)))))))))))))
            refine aw_reg fun K hK => ?_; refine rn (cj rTI (cj @dl_idf (cj @dl_ln (cj @dl_one (cj @k0 @k4))))) ?_; refine cont_go (trim_own es (ln V) (s.nx + 2) s2 (by omega) (by omega) gi) ?_; rintro _ s3 ⟨rfl, hs3⟩; rw [hlen, hs3]; clear hs3 s3; refine rn (cj rTI (cj @dl_idf (cj @dl_ln (cj @dl_one (cj @k0 @k4))))) ?_; refine hK _ _ ?_; clear hK K
            repeat (first | refine aw_seq ?_ | refine aw_block ?_ | (refine aw_reg fun K hK => ?_; simp (disch := omega) only [↓core, ↓List.getElem?_toArray, ↓List.getElem?_cons_succ, ↓List.getElem?_cons_zero, ↓onO_some, more, xbuild, if_pos, if_neg, onO_some, onO_none, onV_eq, xbuiltin, xlen, xload, loadA, xstore, spl, xfield, xindexAddr, xindex, xslice, bnd, xbin, xint, xshift, xstr, xeq, xun, xconv, xmake, xappend, xsrc, xbuildSlice, fillA, xminmax, gval, isK, mapM_nil_o, mapM_cons_o, AV.cells, AV.boxable, AV.one, TI.agg, resA, retA, zrow_one, eq_self, List.map, List.map_cons, List.map_nil, Option.map_some, Option.map_none, Option.bind_some, Option.bind_none, ↓reduceIte, Nat.reduceLT, Nat.reduceEqDiff, Nat.reduceAdd, Nat.reduceMul, Nat.mul_one, Nat.reduceLeDiff, decide_true, decide_false, true_and, and_true, if_true, if_false, List.toList_toArray, List.size_toArray, beq_self_eq_true, Bool.true_eq_false, Bool.false_eq_true, forall_const, false_implies, implies_true, undef, IntKind.bits, List.drop_zero, List.drop_succ_cons, List.take_succ_cons, List.take_zero, List.length_cons, List.length_nil, List.set_cons_zero, List.set_cons_succ, List.head?_cons, List.all_cons, List.all_nil, List.replicate_succ, List.replicate_zero, Bool.and_true, Bool.and_self, Value.oneCell', Bool.true_and, Bool.or_true, Bool.or_false, Bool.not_true, Bool.not_false, ti105, ti63, ti3, ti4, ti9, ti116, ti5, dl_idf, dl_ln, dl_one, k0, k1, k3, k4, k5, k6, g0, gi, z, isByte, bs_dig, bs_append, bs_size, List.length_map, List.length_reverse]; refine hK _ _ ?_; clear hK K) | (refine aw_skip ?_; try simp (disch := omega) only [↓core, ↓List.getElem?_toArray, ↓List.getElem?_cons_succ, ↓List.getElem?_cons_zero, ↓onO_some, more, xbuild, if_pos, if_neg, onO_some, onO_none, onV_eq, xbuiltin, xlen, xload, loadA, xstore, spl, xfield, xindexAddr, xindex, xslice, bnd, xbin, xint, xshift, xstr, xeq, xun, xconv, xmake, xappend, xsrc, xbuildSlice, fillA, xminmax, gval, isK, mapM_nil_o, mapM_cons_o, AV.cells, AV.boxable, AV.one, TI.agg, resA, retA, zrow_one, eq_self, List.map, List.map_cons, List.map_nil, Option.map_some, Option.map_none, Option.bind_some, Option.bind_none, ↓reduceIte, Nat.reduceLT, Nat.reduceEqDiff, Nat.reduceAdd, Nat.reduceMul, Nat.mul_one, Nat.reduceLeDiff, decide_true, decide_false, true_and, and_true, if_true, if_false, List.toList_toArray, List.size_toArray, beq_self_eq_true, Bool.true_eq_false, Bool.false_eq_true, forall_const, false_implies, implies_true, undef, IntKind.bits, List.drop_zero, List.drop_succ_cons, List.take_succ_cons, List.take_zero, List.length_cons, List.length_nil, List.set_cons_zero, List.set_cons_succ, List.head?_cons, List.all_cons, List.all_nil, List.replicate_succ, List.replicate_zero, Bool.and_true, Bool.and_self, Value.oneCell', Bool.true_and, Bool.or_true, Bool.or_false, Bool.not_true, Bool.not_false, ti105, ti63, ti3, ti4, ti9, ti116, ti5, dl_idf, dl_ln, dl_one, k0, k1, k3, k4, k5, k6, g0, gi, z, isByte, bs_dig, bs_append, bs_size, List.length_map, List.length_reverse]) | (refine aw_exit ?_; try simp (disch := omega) only [↓core, ↓List.getElem?_toArray, ↓List.getElem?_cons_succ, ↓List.getElem?_cons_zero, ↓onO_some, more, xbuild, if_pos, if_neg, onO_some, onO_none, onV_eq, xbuiltin, xlen, xload, loadA, xstore, spl, xfield, xindexAddr, xindex, xslice, bnd, xbin, xint, xshift, xstr, xeq, xun, xconv, xmake, xappend, xsrc, xbuildSlice, fillA, xminmax, gval, isK, mapM_nil_o, mapM_cons_o, AV.cells, AV.boxable, AV.one, TI.agg, resA, retA, zrow_one, eq_self, List.map, List.map_cons, List.map_nil, Option.map_some, Option.map_none, Option.bind_some, Option.bind_none, ↓reduceIte, Nat.reduceLT, Nat.reduceEqDiff, Nat.reduceAdd, Nat.reduceMul, Nat.mul_one, Nat.reduceLeDiff, decide_true, decide_false, true_and, and_true, if_true, if_false, List.toList_toArray, List.size_toArray, beq_self_eq_true, Bool.true_eq_false, Bool.false_eq_true, forall_const, false_implies, implies_true, undef, IntKind.bits, List.drop_zero, List.drop_succ_cons, List.take_succ_cons, List.take_zero, List.length_cons, List.length_nil, List.set_cons_zero, List.set_cons_succ, List.head?_cons, List.all_cons, List.all_nil, List.replicate_succ, List.replicate_zero, Bool.and_true, Bool.and_self, Value.oneCell', Bool.true_and, Bool.or_true, Bool.or_false, Bool.not_true, Bool.not_false, ti105, ti63, ti3, ti4, ti9, ti116, ti5, dl_idf, dl_ln, dl_one, k0, k1, k3, k4, k5, k6, g0, gi, z, isByte, bs_dig, bs_append, bs_size, List.length_map, List.length_reverse]) | (refine aw_ret ?_; try simp (disch := omega) only [↓core, ↓List.getElem?_toArray, ↓List.getElem?_cons_succ, ↓List.getElem?_cons_zero, ↓onO_some, more, xbuild, if_pos, if_neg, onO_some, onO_none, onV_eq, xbuiltin, xlen, xload, loadA, xstore, spl, xfield, xindexAddr, xindex, xslice, bnd, xbin, xint, xshift, xstr, xeq, xun, xconv, xmake, xappend, xsrc, xbuildSlice, fillA, xminmax, gval, isK, mapM_nil_o, mapM_cons_o, AV.cells, AV.boxable, AV.one, TI.agg, resA, retA, zrow_one, eq_self, List.map, List.map_cons, List.map_nil, Option.map_some, Option.map_none, Option.bind_some, Option.bind_none, ↓reduceIte, Nat.reduceLT, Nat.reduceEqDiff, Nat.reduceAdd, Nat.reduceMul, Nat.mul_one, Nat.reduceLeDiff, decide_true, decide_false, true_and, and_true, if_true, if_false, List.toList_toArray, List.size_toArray, beq_self_eq_true, Bool.true_eq_false, Bool.false_eq_true, forall_const, false_implies, implies_true, undef, IntKind.bits, List.drop_zero, List.drop_succ_cons, List.take_succ_cons, List.take_zero, List.length_cons, List.length_nil, List.set_cons_zero, List.set_cons_succ, List.head?_cons, List.all_cons, List.all_nil, List.replicate_succ, List.replicate_zero, Bool.and_true, Bool.and_self, Value.oneCell', Bool.true_and, Bool.or_true, Bool.or_false, Bool.not_true, Bool.not_false, ti105, ti63, ti3, ti4, ti9, ti116, ti5, dl_idf, dl_ln, dl_one, k0, k1, k3, k4, k5, k6, g0, gi, z, isByte, bs_dig, bs_append, bs_size, List.length_map, List.length_reverse]))
            simp only [block_normal, loop_normal]; refine ⟨V / 10, Nat.div_lt_self hV (by decide), dn ++ [c], es, ?_⟩
            constructor
            · constructor <;> (try (first | refine rn (cj rTI (cj @dl_idf (cj @dl_ln (cj @dl_one (cj @k0 (cj @k1 (cj @k3 (cj @k4 (cj @k5 (cj @k6 (cj @g0 (cj @gi @z)))))))))))) ?_ | exact rn0 (cj rTI (cj @dl_idf (cj @dl_ln (cj @dl_one (cj @k0 (cj @k1 (cj @k3 (cj @k4 (cj @k5 (cj @k6 (cj @g0 (cj @gi @z))))))))))))))
              all_goals (first | done | omega | (refine congrArg some ?_; rfl) | rfl | (refine congrArg (fun z : Int => AV.v (.int .i64 z)) ?_; omega) | (intro i hi; (first | refine rn (hJ.fr i hi) ?_ | exact rn0 (hJ.fr i hi))) | skip)
              · simp
              · exact Nat.le_trans (ln_mono (Nat.div_le_self _ _)) hJ.lv
              · rw [ha, List.append_assoc]; rfl
            · exact htk
      · (first | refine go (cj rTI (cj @dl_idf (cj @dl_ln (cj @dl_one (cj @k0 (cj @k1 (cj @k3 (cj @k4 (cj @g0 (cj @gi @z)))))))))) ?_ | exact go0 (cj rTI (cj @dl_idf (cj @dl_ln (cj @dl_one (cj @k0 (cj @k1 (cj @k3 (cj @k4 (cj @g0 (cj @gi @z)))))))))))
        (try rw [then_normal]); (try refine aw_seq ?_); refine aw_cond rfl ?_ ?_ <;> intro hb <;> (try (cases hb; done)) <;> (try simp only [bq] at hb) <;> (try (exfalso; omega))
        (first | refine go (cj rTI (cj @dl_idf (cj @dl_ln (cj @dl_one (cj @k0 (cj @k1 (cj @k3 (cj @k4 (cj @g0 (cj @gi @z)))))))))) ?_ | exact go0 (cj rTI (cj @dl_idf (cj @dl_ln (cj @dl_one (cj @k0 (cj @k1 (cj @k3 (cj @k4 (cj @g0 (cj @gi @z)))))))))))
        have ha := hO.all
        rw [show V = 0 by omega, digs_zero, List.append_nil] at ha
        have hdz2 : decZ x = (if b = true then [45] else []) ++ dn.reverse.map fun d => 48 + d := by rw [hdz, dec, ha]
        have hsz : dn.length ≤ 5 * ln N := by rw [← ha]; exact l6
        rw [hdz2]
        cases b
        · (try rw [then_normal]); (try refine aw_seq ?_); refine aw_cond rfl ?_ ?_ <;> intro hb <;> (try (cases hb; done)) <;> (try simp only [bq] at hb) <;> (try (exfalso; omega))
          (first | refine go (cj rTI (cj @dl_idf (cj @dl_ln (cj @dl_one (cj @k0 (cj @k1 (cj @k3 (cj @k4 (cj @g0 (cj @gi @z)))))))))) ?_ | exact go0 (cj rTI (cj @dl_idf (cj @dl_ln (cj @dl_one (cj @k0 (cj @k1 (cj @k3 (cj @k4 (cj @g0 (cj @gi @z)))))))))))
          (repeat' refine And.intro ?_ ?_) <;> (first | done | exact rfl | (intro i hi; exact rn0 (hO.fr i hi); done) | (exact rn0 (hO.fr i hi); done) | skip)
        · (try rw [then_normal]); (try refine aw_seq ?_); refine aw_cond rfl ?_ ?_ <;> intro hb <;> (try (cases hb; done)) <;> (try simp only [bq] at hb) <;> (try (exfalso; omega))
          (first | refine go (cj rTI (cj @dl_idf (cj @dl_ln (cj @dl_one (cj @k0 (cj @k1 (cj @k3 (cj @k4 (cj @g0 (cj @gi (cj @z (cj (show ByteArray.mk #[45] = bs [45] from rfl) (cj @bs_append (cj @bs_size (cj rlm rlr))))))))))))))) ?_ | exact go0 (cj rTI (cj @dl_idf (cj @dl_ln (cj @dl_one (cj @k0 (cj @k1 (cj @k3 (cj @k4 (cj @g0 (cj @gi (cj @z (cj (show ByteArray.mk #[45] = bs [45] from rfl) (cj @bs_append (cj @bs_size (cj rlm rlr))))))))))))))))
          (repeat' refine And.intro ?_ ?_) <;> (first | done | exact rfl | (intro i hi; exact rn0 (hO.fr i hi); done) | (exact rn0 (hO.fr i hi); done) | skip)
end Go.Proofs.YtfjelkjlfcafgaaGreatDoor.RefJ
end
section
/- The document's fractions (layer 2). -/
namespace Go.Proofs.YtfjelkjlfcafgaaGreatDoor.RefK
open Go Go.RowKit Go.Proofs.YtfjelkjlfcafgaaGreatDoor.Ax Go.Proofs.YtfjelkjlfcafgaaGreatDoor.Ti Go.Proofs.YtfjelkjlfcafgaaGreatDoor.BigM Go.Proofs.YtfjelkjlfcafgaaGreatDoor.RefA Go.Proofs.YtfjelkjlfcafgaaGreatDoor.RefB Go.Proofs.YtfjelkjlfcafgaaGreatDoor.RefC Go.Proofs.YtfjelkjlfcafgaaGreatDoor.RefD Go.Proofs.YtfjelkjlfcafgaaGreatDoor.RefE Go.Proofs.YtfjelkjlfcafgaaGreatDoor.RefF Go.Proofs.YtfjelkjlfcafgaaGreatDoor.RefG Go.Proofs.YtfjelkjlfcafgaaGreatDoor.RefH Go.Proofs.YtfjelkjlfcafgaaGreatDoor.RefI Go.Proofs.YtfjelkjlfcafgaaGreatDoor.RefJ
set_option linter.unusedSimpArgs false
set_option linter.unusedVariables false
set_option maxRecDepth 4000
theorem rTI : type_of% (cj @ti124 (cj @ti105 (cj @ti63 (cj @ti3 @ti4)))) := cj @ti124 (cj @ti105 (cj @ti63 (cj @ti3 @ti4)))
theorem rTU : type_of% (cj @ti2 (cj @ti124 (cj @ti105 (cj @ti63 (cj @ti3 @ti4))))) := cj @ti2 (cj @ti124 (cj @ti105 (cj @ti63 (cj @ti3 @ti4))))
theorem rTW : type_of% (cj @ti45 (cj @ti43 (cj @ti41 (cj @ti35 (cj @ti124 (cj @ti105 (cj @ti63 (cj @ti3 @ti4)))))))) := cj @ti45 (cj @ti43 (cj @ti41 (cj @ti35 (cj @ti124 (cj @ti105 (cj @ti63 (cj @ti3 @ti4)))))))

/-- Below 0; not unfolded within a walk. -/
def ng (z : Int) : Bool := decide (z < 0)
/-- A fraction, as the document has it. -/
def FA (n d : Int) : AV := .ag [.v (.bool (ng n)), .sl (lz n) (DL (digs B n.natAbs)), .v (.bool (ng d)), .sl (lz d) (DL (digs B d.natAbs))]
theorem NI_eq (z : Int) : NI z = .ag [.v (.bool (ng z)), .sl (lz z) (DL (digs B z.natAbs))] := rfl
/-- In lowest terms, the denominator above 0. -/
def low (n d : Int) : Int × Int := if d < 0 then ((-n).tdiv (Nat.gcd n.natAbs d.natAbs), (-d).tdiv (Nat.gcd n.natAbs d.natAbs)) else (n.tdiv (Nat.gcd n.natAbs d.natAbs), d.tdiv (Nat.gcd n.natAbs d.natAbs))
theorem sgn_lt (z : Int) : sgn z < 0 ↔ z < 0 := by unfold sgn; split <;> (try split) <;> omega
theorem lz_gcd (n d : Int) (hd : d ≠ 0) : lz (Nat.gcd n.natAbs d.natAbs : Nat) ≤ lz d := ln_mono (Nat.le_of_dvd (by omega) (Nat.gcd_dvd_right _ _))
/-- Within Lowest: the two numbers, the denominator above 0. -/
structure LowI (s : St) (n d : Int) (e : Env) (s' : St) : Prop where
  en : e.n = 35
  e2 : e.m 2 = .ptr s.nx 0
  e3 : e.m 3 = .ptr (s.nx + 1) 0
  e4 : e.m 4 = .ptr (s.nx + 2) 0
  g0 : s'.get s.nx = some [.v (.bool (ng n)), .sl (lz n) (DL (digs B n.natAbs))]
  g1 : s'.get (s.nx + 1) = some [.v (.bool (ng d)), .sl (lz d) (DL (digs B d.natAbs))]
  g2 : s'.get (s.nx + 2) = some [.v (.bool false), .v (.slice none 0 0), .v (.bool false), .v (.slice none 0 0)]
  hi : s.nx + 3 ≤ s'.nx
  fr : ∀ i, i < s.nx → s'.get i = s.get i
set_option maxHeartbeats 2000000 in
theorem lowest_ax (n d : Int) (hd : d ≠ 0) (ln' : lz n ≤ 274877906944) (ld : lz d ≤ 274877906944) : PCall Tryz.prog 128 [NI n, NI d] (FA (low n d).1 (low n d).2) := by
  have p0 := sign_ax d
  have p1 := minusN_ax n
  have p2 := minusN_ax d
  have hsg := sgn_lt d
  refine pcall_of fun s => ?_
  refine acall_of Tryz.func128 rfl rfl (by simp [Tryz.ntmps128]) ?_; rw [Tryz.ntmps128, Tryz.results128]
  by_cases hneg : d < 0
  · rw [show low n d = ((-n).tdiv (Nat.gcd (-n).natAbs (-d).natAbs), (-d).tdiv (Nat.gcd (-n).natAbs (-d).natAbs)) by unfold low; rw [if_pos hneg, Int.natAbs_neg, Int.natAbs_neg]]
    have hg := Nat.gcd_pos_of_pos_right (-n).natAbs (n := (-d).natAbs) (by omega)
    have p3 := commonN_ax (-n) (-d) (by rw [lz_neg]; exact ln') (by rw [lz_neg]; exact ld)
    have p4 := divideN_ax (-n) (Nat.gcd (-n).natAbs (-d).natAbs) (by omega) (by rw [lz_neg]; omega) (Nat.le_trans (lz_gcd (-n) (-d) (by omega)) (by rw [lz_neg]; exact ld))
    have p5 := divideN_ax (-d) (Nat.gcd (-n).natAbs (-d).natAbs) (by omega) (by rw [lz_neg]; omega) (Nat.le_trans (lz_gcd (-n) (-d) (by omega)) (by rw [lz_neg]; exact ld))
    simp only [NI_eq] at p0 p1 p2 p3 p4 p5 ⊢
    unfold FA
    (first | refine go (cj rTI (cj @dl_idf (cj @dl_ln @dl_one))) ?_ | exact go0 (cj rTI (cj @dl_idf (cj @dl_ln @dl_one))))
    refine aw_reg fun K hK => ?_; refine rn (cj rTI (cj @dl_idf (cj @dl_ln @dl_one))) ?_; refine cont_pure p0 ?_; refine rn (cj rTI (cj @dl_idf (cj @dl_ln @dl_one))) ?_; refine hK _ _ ?_; clear hK K
    (try rw [then_normal]); (try refine aw_seq ?_); refine aw_cond rfl ?_ ?_ <;> intro hb <;> (try (cases hb; done)) <;> (try simp only [bq] at hb) <;> (try (exfalso; omega))
    refine aw_drw (.two 0 (.two 1 (.one 2 (.one 3 (.one 4 (.one 5 (.done))))) 2 (.one 1 (.one 3 (.one 4 (.one 5 (.done)))))) 2 (.one 0 (.one 1 (.one 3 (.one 4 (.one 5 (.done))))))) [] (by kernel_rfl) (by kernel_rfl) fun K hK => ?_; refine dr (cj rTI (cj @dl_idf (cj @dl_ln @dl_one))) ?_; skip
    have hK2 : ∀ (e : Env) (s' : St), LowI s (-n) (-d) e s' → K e s' := by
      intro e s' hI
      refine hK e s' ?_
      clear hK
      have k0 := hI.en
      have k2 := hI.e2
      have k3 := hI.e3
      have k4 := hI.e4
      have g0 := hI.g0
      have g1 := hI.g1
      have g2 := hI.g2
      have hi := hI.hi
      (first | refine rn trivial ?_ | exact rn0 trivial)
      (first | refine go trivial ?_ | exact go0 trivial)
      refine aw_reg fun K hK => ?_; refine rn (cj rTI (cj @dl_idf (cj @dl_ln (cj @dl_one (cj @k0 (cj @k2 (cj @k3 (cj @k4 (cj @g0 (cj @g1 @g2)))))))))) ?_; refine cont_pure p3 ?_; refine rn (cj rTI (cj @dl_idf (cj @dl_ln (cj @dl_one (cj @k0 (cj @k2 (cj @k3 (cj @k4 (cj @g0 (cj @g1 @g2)))))))))) ?_; refine hK _ _ ?_; clear hK K
      (first | refine go trivial ?_ | exact go0 trivial)
      refine aw_reg fun K hK => ?_; refine rn (cj rTI (cj @dl_idf (cj @dl_ln (cj @dl_one (cj @k0 (cj @k2 (cj @k3 (cj @k4 (cj @g0 (cj @g1 @g2)))))))))) ?_; refine cont_pure p4 ?_; refine rn (cj rTI (cj @dl_idf (cj @dl_ln (cj @dl_one (cj @k0 (cj @k2 (cj @k3 (cj @k4 (cj @g0 (cj @g1 @g2)))))))))) ?_; refine hK _ _ ?_; clear hK K
      (first | refine go trivial ?_ | exact go0 trivial)
      refine aw_reg fun K hK => ?_; refine rn (cj rTI (cj @dl_idf (cj @dl_ln (cj @dl_one (cj @k0 (cj @k2 (cj @k3 (cj @k4 (cj @g0 (cj @g1 @g2)))))))))) ?_; refine cont_pure p5 ?_; refine rn (cj rTI (cj @dl_idf (cj @dl_ln (cj @dl_one (cj @k0 (cj @k2 (cj @k3 (cj @k4 (cj @g0 (cj @g1 @g2)))))))))) ?_; refine hK _ _ ?_; clear hK K
      (first | refine go (cj rTI (cj @dl_idf (cj @dl_ln (cj @dl_one (cj @k0 (cj @k2 (cj @k3 (cj @k4 (cj @g0 (cj @g1 @g2)))))))))) ?_ | exact go0 (cj rTI (cj @dl_idf (cj @dl_ln (cj @dl_one (cj @k0 (cj @k2 (cj @k3 (cj @k4 (cj @g0 (cj @g1 @g2)))))))))))
      (repeat' refine And.intro ?_ ?_) <;> (first | done | exact rfl | (intro i hi; exact rn0 (hI.fr i hi); done) | (exact rn0 (hI.fr i hi); done) | skip)
    have fin : ∀ (e : Env) (s' : St), e.n = 35 → e.m 2 = .ptr s.nx 0 → e.m 3 = .ptr (s.nx + 1) 0 → e.m 4 = .ptr (s.nx + 2) 0 → s'.get s.nx = some [.v (.bool (ng (-n))), .sl (lz (-n)) (DL (digs B (-n).natAbs))] →
        s'.get (s.nx + 1) = some [.v (.bool (ng (-d))), .sl (lz (-d)) (DL (digs B (-d).natAbs))] → s'.get (s.nx + 2) = some [.v (.bool false), .v (.slice none 0 0), .v (.bool false), .v (.slice none 0 0)] → s.nx + 3 ≤ s'.nx → (∀ i, i < s.nx → s'.get i = s.get i) → K e s' :=
      fun e s' q0 q1 q2 q3 q4 q5 q6 q7 q8 => hK2 e s' ⟨q0, q1, q2, q3, q4, q5, q6, q7, q8⟩
    refine ⟨⟨?_, ?_⟩, ?_⟩ <;> (refine cont_pure p1 ?_; refine dr (cj rTI (cj @dl_idf (cj @dl_ln @dl_one))) ?_; refine cont_pure p2 ?_; refine dr (cj rTI (cj @dl_idf (cj @dl_ln @dl_one))) ?_; apply fin <;> (try (first | refine rn trivial ?_ | exact rn0 trivial)))
    all_goals (all_goals (first | done | omega | (refine congrArg some ?_; rfl) | rfl | (refine congrArg (fun z : Int => AV.v (.int .i64 z)) ?_; omega) | (intro i hi; (first | refine rn trivial ?_ | exact rn0 trivial)) | skip))
  · rw [show low n d = (n.tdiv (Nat.gcd n.natAbs d.natAbs), d.tdiv (Nat.gcd n.natAbs d.natAbs)) by unfold low; rw [if_neg hneg]]
    have hg := Nat.gcd_pos_of_pos_right n.natAbs (n := d.natAbs) (by omega)
    have p3 := commonN_ax n d ln' ld
    have p4 := divideN_ax n (Nat.gcd n.natAbs d.natAbs) (by omega) (by omega) (Nat.le_trans (lz_gcd n d hd) ld)
    have p5 := divideN_ax d (Nat.gcd n.natAbs d.natAbs) (by omega) (by omega) (Nat.le_trans (lz_gcd n d hd) ld)
    simp only [NI_eq] at p0 p1 p2 p3 p4 p5 ⊢
    unfold FA
    (first | refine go (cj rTI (cj @dl_idf (cj @dl_ln @dl_one))) ?_ | exact go0 (cj rTI (cj @dl_idf (cj @dl_ln @dl_one))))
    refine aw_reg fun K hK => ?_; refine rn (cj rTI (cj @dl_idf (cj @dl_ln @dl_one))) ?_; refine cont_pure p0 ?_; refine rn (cj rTI (cj @dl_idf (cj @dl_ln @dl_one))) ?_; refine hK _ _ ?_; clear hK K
    (try rw [then_normal]); (try refine aw_seq ?_); refine aw_cond rfl ?_ ?_ <;> intro hb <;> (try (cases hb; done)) <;> (try simp only [bq] at hb) <;> (try (exfalso; omega))
    (first | refine go (cj rTI (cj @dl_idf (cj @dl_ln @dl_one))) ?_ | exact go0 (cj rTI (cj @dl_idf (cj @dl_ln @dl_one))))
    refine aw_reg fun K hK => ?_; refine rn (cj rTI (cj @dl_idf (cj @dl_ln @dl_one))) ?_; refine cont_pure p3 ?_; refine rn (cj rTI (cj @dl_idf (cj @dl_ln @dl_one))) ?_; refine hK _ _ ?_; clear hK K
    (first | refine go (cj rTI (cj @dl_idf (cj @dl_ln @dl_one))) ?_ | exact go0 (cj rTI (cj @dl_idf (cj @dl_ln @dl_one))))
    refine aw_reg fun K hK => ?_; refine rn (cj rTI (cj @dl_idf (cj @dl_ln @dl_one))) ?_; refine cont_pure p4 ?_; refine rn (cj rTI (cj @dl_idf (cj @dl_ln @dl_one))) ?_; refine hK _ _ ?_; clear hK K
    (first | refine go (cj rTI (cj @dl_idf (cj @dl_ln @dl_one))) ?_ | exact go0 (cj rTI (cj @dl_idf (cj @dl_ln @dl_one))))
    refine aw_reg fun K hK => ?_; refine rn (cj rTI (cj @dl_idf (cj @dl_ln @dl_one))) ?_; refine cont_pure p5 ?_; refine rn (cj rTI (cj @dl_idf (cj @dl_ln @dl_one))) ?_; refine hK _ _ ?_; clear hK K
    (first | refine go (cj rTI (cj @dl_idf (cj @dl_ln @dl_one))) ?_ | exact go0 (cj rTI (cj @dl_idf (cj @dl_ln @dl_one))))
    (repeat' refine And.intro ?_ ?_) <;> (first | done | exact rfl | (intro i hi; exact rn0 trivial; done) | (exact rn0 trivial; done) | skip)

theorem lz_small (z : Int) (h1 : -9223372036854775808 ≤ z) (h2 : z ≤ 9223372036854775807) : lz z ≤ 4 := (ln_lt _ 4).1 (by unfold B; omega)
theorem of_ax (v : Int) (h1 : -9223372036854775808 ≤ v) (h2 : v ≤ 9223372036854775807) : PCall Tryz.prog 137 [.v (.int .i64 v)] (FA v 1) := by
  refine pcall_of fun s => ?_
  refine acall_of Tryz.func137 rfl rfl (by simp [Tryz.ntmps137]) ?_; rw [Tryz.ntmps137, Tryz.results137]
  have p0 := wide_ax v h1 (by omega)
  have p1 := small_ax 1 (by omega) (by omega)
  unfold FA
  simp only [NI_eq] at p0 p1
  (first | refine go (cj rTU (cj @dl_idf (cj @dl_ln @dl_one))) ?_ | exact go0 (cj rTU (cj @dl_idf (cj @dl_ln @dl_one))))
  refine aw_reg fun K hK => ?_; refine rn (cj rTU (cj @dl_idf (cj @dl_ln @dl_one))) ?_; refine cont_pure p0 ?_; (first | refine rn (cj rTU (cj @dl_idf (cj @dl_ln @dl_one))) ?_ | exact rn0 (cj rTU (cj @dl_idf (cj @dl_ln @dl_one)))); refine cont_pure p1 ?_; refine rn (cj rTU (cj @dl_idf (cj @dl_ln @dl_one))) ?_; refine hK _ _ ?_; clear hK K
  (first | refine go (cj rTU (cj @dl_idf (cj @dl_ln @dl_one))) ?_ | exact go0 (cj rTU (cj @dl_idf (cj @dl_ln @dl_one))))
  (repeat' refine And.intro ?_ ?_) <;> (first | done | exact rfl | (intro i hi; exact rn0 trivial; done) | (exact rn0 trivial; done) | skip)
theorem timesF_ax (a b c d : Int) (ha : lz a ≤ 68719476736) (hb' : lz b ≤ 68719476736) (hc : lz c ≤ 68719476736) (hd : lz d ≤ 68719476736) (h : b * d ≠ 0) : PCall Tryz.prog 136 [FA a b, FA c d] (FA (low (a * c) (b * d)).1 (low (a * c) (b * d)).2) := by
  refine pcall_of fun s => ?_
  refine acall_of Tryz.func136 rfl rfl (by simp [Tryz.ntmps136]) ?_; rw [Tryz.ntmps136, Tryz.results136]
  have l1 := lz_mul a c
  have l2 := lz_mul b d
  have p0 := timesN_ax a c (by omega)
  have p1 := timesN_ax b d (by omega)
  have p2 := lowest_ax (a * c) (b * d) h (by omega) (by omega)
  unfold FA at p2 ⊢
  simp only [NI_eq] at p0 p1 p2
  (first | refine go (cj rTI (cj @dl_idf (cj @dl_ln @dl_one))) ?_ | exact go0 (cj rTI (cj @dl_idf (cj @dl_ln @dl_one))))
  refine aw_drw (.take 0 (.take 1 (.take 2 (.take 3 (.take 5 (.take 6 (.take 7 (.take 8 (.one 4 (.one 9 (.one 10 (.one 11 (.done))))))))))))) [s.nx, s.nx + 1] (by kernel_rfl) (by kernel_rfl) fun K hK => ?_; refine dr (cj rTI (cj @dl_idf (cj @dl_ln @dl_one))) ?_; refine cont_pure p0 ?_; refine dr (cj rTI (cj @dl_idf (cj @dl_ln @dl_one))) ?_; refine cont_pure p1 ?_; refine dr (cj rTI (cj @dl_idf (cj @dl_ln @dl_one))) ?_; refine cont_pure p2 ?_; refine dr (cj rTI (cj @dl_idf (cj @dl_ln @dl_one))) ?_; refine hK _ _ ?_; clear hK K
  (first | refine go (cj rTI (cj @dl_idf (cj @dl_ln @dl_one))) ?_ | exact go0 (cj rTI (cj @dl_idf (cj @dl_ln @dl_one))))
  (repeat' refine And.intro ?_ ?_) <;> (first | done | exact rfl | (intro i hi; exact rn0 trivial; done) | (exact rn0 trivial; done) | skip)
theorem heldF_ax (a b c d : Int) (ha : lz a ≤ 68719476736) (hb' : lz b ≤ 68719476736) (hc : lz c ≤ 68719476736) (hd : lz d ≤ 68719476736) : PCall Tryz.prog 77 [FA a b, FA c d] (.v (.int .i64 (sgn (a * d - c * b)))) := by
  refine pcall_of fun s => ?_
  refine acall_of Tryz.func77 rfl rfl (by simp [Tryz.ntmps77]) ?_; rw [Tryz.ntmps77, Tryz.results77]
  have l1 := lz_mul a d
  have l2 := lz_mul c b
  have p0 := timesN_ax a d (by omega)
  have p1 := timesN_ax c b (by omega)
  have p2 := heldN_ax (a * d) (c * b) (by omega) (by omega)
  unfold FA
  simp only [NI_eq] at p0 p1 p2
  (first | refine go (cj rTI (cj @dl_idf (cj @dl_ln @dl_one))) ?_ | exact go0 (cj rTI (cj @dl_idf (cj @dl_ln @dl_one))))
  refine aw_drw (.take 0 (.take 1 (.take 2 (.take 3 (.take 5 (.take 6 (.take 7 (.take 8 (.one 4 (.one 9 (.one 10 (.take 11 (.done))))))))))))) [s.nx, s.nx + 1] (by kernel_rfl) (by kernel_rfl) fun K hK => ?_; refine dr (cj rTI (cj @dl_idf (cj @dl_ln @dl_one))) ?_; refine cont_pure p0 ?_; refine dr (cj rTI (cj @dl_idf (cj @dl_ln @dl_one))) ?_; refine cont_pure p1 ?_; refine dr (cj rTI (cj @dl_idf (cj @dl_ln @dl_one))) ?_; refine cont_pure p2 ?_; refine dr (cj rTI (cj @dl_idf (cj @dl_ln @dl_one))) ?_; refine hK _ _ ?_; clear hK K
  (first | refine go (cj rTI (cj @dl_idf (cj @dl_ln @dl_one))) ?_ | exact go0 (cj rTI (cj @dl_idf (cj @dl_ln @dl_one))))
  (repeat' refine And.intro ?_ ?_) <;> (first | done | exact rfl | (intro i hi; exact rn0 trivial; done) | (exact rn0 trivial; done) | skip)
/-- A fraction in words. -/
def WA (n d : Int) : AV := .ag [.v (.bool (ng n)), .sl (digs B32 n.natAbs).length (WL (digs B32 n.natAbs)), .v (.bool (ng d)), .sl (digs B32 d.natAbs).length (WL (digs B32 d.natAbs))]
theorem WI_eq (z : Int) : WI z = .ag [.v (.bool (ng z)), .sl (digs B32 z.natAbs).length (WL (digs B32 z.natAbs))] := rfl
theorem giveF_ax (a b : Int) (ha : lz a ≤ 68719476736) (hb' : lz b ≤ 68719476736) : PCall Tryz.prog 69 [FA a b] (WA a b) := by
  refine pcall_of fun s => ?_
  refine acall_of Tryz.func69 rfl rfl (by simp [Tryz.ntmps69]) ?_; rw [Tryz.ntmps69, Tryz.results69]
  have p0 := giveN_ax a (by omega)
  have p1 := giveN_ax b (by omega)
  unfold FA WA
  simp only [NI_eq, WI_eq] at p0 p1
  (first | refine go (cj rTW (cj @dl_idf (cj @dl_ln @dl_one))) ?_ | exact go0 (cj rTW (cj @dl_idf (cj @dl_ln @dl_one))))
  refine aw_drw (.take 0 (.take 1 (.take 3 (.take 4 (.one 2 (.one 5 (.take 6 (.one 7 (.done))))))))) [s.nx] (by kernel_rfl) (by kernel_rfl) fun K hK => ?_; refine dr (cj rTW (cj @dl_idf (cj @dl_ln @dl_one))) ?_; refine cont_pure p0 ?_; refine dr (cj rTW (cj @dl_idf (cj @dl_ln @dl_one))) ?_; refine cont_pure p1 ?_; refine dr (cj rTW (cj @dl_idf (cj @dl_ln @dl_one))) ?_; refine hK _ _ ?_; clear hK K
  (first | refine go (cj rTW (cj @dl_idf (cj @dl_ln @dl_one))) ?_ | exact go0 (cj rTW (cj @dl_idf (cj @dl_ln @dl_one))))
  (repeat' refine And.intro ?_ ?_) <;> (first | done | exact rfl | (intro i hi; exact rn0 @wl_idf; done) | (exact rn0 @wl_idf; done) | skip)
theorem sameI_ax (x y : Int) (lm : (digs B32 x.natAbs).length ≤ 1099511627776) (l : (digs B32 y.natAbs).length ≤ 1099511627776) : PCall Tryz.prog 78 [WI x, WI y] (.v (.bool (decide (x = y)))) := by
  have h := same_ax (decide (x < 0)) (decide (y < 0)) x.natAbs y.natAbs lm l
  rw [show decide (decide (x < 0) = decide (y < 0) ∧ x.natAbs = y.natAbs) = decide (x = y) by
    rw [decide_eq_decide, decide_eq_decide]; omega] at h
  exact h
theorem sameF_ax (a b c d : Int) (ha : (digs B32 a.natAbs).length ≤ 1099511627776) (hb' : (digs B32 b.natAbs).length ≤ 1099511627776) (hc : (digs B32 c.natAbs).length ≤ 1099511627776) (hd : (digs B32 d.natAbs).length ≤ 1099511627776) : PCall Tryz.prog 27 [WA a b, WA c d] (.v (.bool (decide (a = c ∧ b = d)))) := by
  refine pcall_of fun s => ?_
  refine acall_of Tryz.func27 rfl rfl (by simp [Tryz.ntmps27]) ?_; rw [Tryz.ntmps27, Tryz.results27]
  have p0 := sameI_ax a c ha hc
  have p1 := sameI_ax b d hb' hd
  unfold WA
  simp only [WI_eq] at p0 p1
  (first | refine go (cj rTW (cj @dl_idf (cj @dl_ln @dl_one))) ?_ | exact go0 (cj rTW (cj @dl_idf (cj @dl_ln @dl_one))))
  by_cases h : a = c
  · rw [decide_eq_true h] at p0
    rw [show decide (a = c ∧ b = d) = decide (b = d) by rw [decide_eq_decide]; simp [h]]
    generalize decide (b = d) = r at *
    refine aw_reg fun K hK => ?_; refine rn (cj rTW (cj @dl_idf (cj @dl_ln @dl_one))) ?_; refine cont_pure p0 ?_; (first | refine rn (cj rTW (cj @dl_idf (cj @dl_ln @dl_one))) ?_ | exact rn0 (cj rTW (cj @dl_idf (cj @dl_ln @dl_one)))); refine cont_pure p1 ?_; refine rn (cj rTW (cj @dl_idf (cj @dl_ln @dl_one))) ?_; refine hK _ _ ?_; clear hK K
    (first | refine go (cj rTW (cj @dl_idf (cj @dl_ln @dl_one))) ?_ | exact go0 (cj rTW (cj @dl_idf (cj @dl_ln @dl_one))))
    (repeat' refine And.intro ?_ ?_) <;> (first | done | exact rfl | (intro i hi; exact rn0 trivial; done) | (exact rn0 trivial; done) | skip)
  · rw [decide_eq_false h] at p0
    rw [show decide (a = c ∧ b = d) = false by rw [decide_eq_false_iff_not]; simp [h]]
    refine aw_reg fun K hK => ?_; refine rn (cj rTW (cj @dl_idf (cj @dl_ln @dl_one))) ?_; refine cont_pure p0 ?_; refine rn (cj rTW (cj @dl_idf (cj @dl_ln @dl_one))) ?_; refine hK _ _ ?_; clear hK K
    (first | refine go (cj rTW (cj @dl_idf (cj @dl_ln @dl_one))) ?_ | exact go0 (cj rTW (cj @dl_idf (cj @dl_ln @dl_one))))
    (repeat' refine And.intro ?_ ?_) <;> (first | done | exact rfl | (intro i hi; exact rn0 trivial; done) | (exact rn0 trivial; done) | skip)
end Go.Proofs.YtfjelkjlfcafgaaGreatDoor.RefK
end
section
/- The document's fractions (layer 2): to the nearest whole number. -/
namespace Go.Proofs.YtfjelkjlfcafgaaGreatDoor.RefL
open Go Go.RowKit Go.Proofs.YtfjelkjlfcafgaaGreatDoor.Ax Go.Proofs.YtfjelkjlfcafgaaGreatDoor.Ti Go.Proofs.YtfjelkjlfcafgaaGreatDoor.BigM Go.Proofs.YtfjelkjlfcafgaaGreatDoor.RefA Go.Proofs.YtfjelkjlfcafgaaGreatDoor.RefB Go.Proofs.YtfjelkjlfcafgaaGreatDoor.RefC Go.Proofs.YtfjelkjlfcafgaaGreatDoor.RefD Go.Proofs.YtfjelkjlfcafgaaGreatDoor.RefE Go.Proofs.YtfjelkjlfcafgaaGreatDoor.RefF Go.Proofs.YtfjelkjlfcafgaaGreatDoor.RefG Go.Proofs.YtfjelkjlfcafgaaGreatDoor.RefH Go.Proofs.YtfjelkjlfcafgaaGreatDoor.RefI Go.Proofs.YtfjelkjlfcafgaaGreatDoor.RefJ Go.Proofs.YtfjelkjlfcafgaaGreatDoor.RefK
set_option linter.unusedSimpArgs false
set_option linter.unusedVariables false
set_option maxRecDepth 4000
theorem rTI : type_of% (cj @ti124 (cj @ti105 (cj @ti63 (cj @ti3 @ti4)))) := cj @ti124 (cj @ti105 (cj @ti63 (cj @ti3 @ti4)))
theorem rTU : type_of% (cj @ti2 (cj @ti124 (cj @ti105 (cj @ti63 (cj @ti3 @ti4))))) := cj @ti2 (cj @ti124 (cj @ti105 (cj @ti63 (cj @ti3 @ti4))))

/-- The nearest whole number; of two as near, the even one. -/
def near (n d : Int) : Int :=
  let q := n.tdiv d
  let r := n.tmod d
  if d < 2 * (r.natAbs : Int) ∨ (2 * (r.natAbs : Int) = d ∧ q.tmod 2 ≠ 0) then (if n < 0 then q - 1 else q + 1) else q
/-- Behind the doubling. -/
structure NearI (s : St) (n d q u : Int) (e : Env) (s' : St) : Prop where
  en : e.n = 55
  e1 : e.m 1 = .ptr s.nx 0
  e2 : e.m 2 = .ptr (s.nx + 1) 0
  e3 : e.m 3 = .ptr (s.nx + 2) 0
  e4 : e.m 4 = .ptr (s.nx + 3) 0
  e6 : e.m 6 = .ptr (s.nx + 5) 0
  g0 : s'.get s.nx = some [.v (.bool (ng n)), .sl (lz n) (DL (digs B n.natAbs)), .v (.bool (ng d)), .sl (lz d) (DL (digs B d.natAbs))]
  g1 : s'.get (s.nx + 1) = some [.v (.bool false), .v (.slice none 0 0)]
  g2 : s'.get (s.nx + 2) = some [.v (.bool (ng 2)), .sl (lz 2) (DL (digs B (2 : Int).natAbs))]
  g3 : s'.get (s.nx + 3) = some [.v (.bool (ng q)), .sl (lz q) (DL (digs B q.natAbs))]
  g5 : s'.get (s.nx + 5) = some [.v (.bool (ng u)), .sl (lz u) (DL (digs B u.natAbs))]
  hi : s.nx + 6 ≤ s'.nx
  fr : ∀ i, i < s.nx → s'.get i = s.get i
theorem lz_le {a b : Int} (h : a.natAbs ≤ b.natAbs) : lz a ≤ lz b := ln_mono h
set_option maxHeartbeats 2000000 in
theorem near_ax (n d : Int) (hd : 0 < d) (lnn : lz n ≤ 68719476736) (ld : lz d ≤ 68719476736) : PCall Tryz.prog 135 [FA n d] (NI (near n d)) := by
  refine pcall_of fun s => ?_
  refine acall_of Tryz.func135 rfl rfl (by simp [Tryz.ntmps135]) ?_; rw [Tryz.ntmps135, Tryz.results135]
  have q0 : (n.tdiv d).natAbs ≤ n.natAbs := by rw [Int.natAbs_tdiv]; exact Nat.div_le_self _ _
  have r0 : (n.tmod d).natAbs ≤ n.natAbs := by rw [Int.natAbs_tmod]; exact Nat.mod_le _ _
  have l2 : lz 2 ≤ 4 := lz_small 2 (by omega) (by omega)
  have l1 : lz 1 ≤ 4 := lz_small 1 (by omega) (by omega)
  have lq : lz (n.tdiv d) ≤ 68719476736 := Nat.le_trans (lz_le q0) lnn
  have lr : lz ((n.tmod d).natAbs : Int) ≤ 68719476736 := Nat.le_trans (lz_le (by omega)) lnn
  have lt := lz_mul ((n.tmod d).natAbs : Int) 2
  have p2 := small_ax 2 (by omega) (by omega)
  have p1 := small_ax 1 (by omega) (by omega)
  have pd := divideN_ax n d (by omega) (by omega) (by omega)
  have pa := abs_ax (n.tmod d)
  have pt := timesN_ax ((n.tmod d).natAbs : Int) 2 (by omega)
  have ph := heldN_ax ((n.tmod d).natAbs * 2 : Int) d (by omega) (by omega)
  have pq := divideN_ax (n.tdiv d) 2 (by omega) (by omega) (by omega)
  have ps := sign_ax ((n.tdiv d).tmod 2)
  have pn := sign_ax n
  have pl := lessN_ax (n.tdiv d) 1 (by omega) (by omega)
  have pp := plusN_ax (n.tdiv d) 1 (by omega) (by omega)
  have c0 : sgn n < 0 ↔ n < 0 := sgn_lt n
  have c1 : (0 < sgn ((n.tmod d).natAbs * 2 - d : Int) ↔ d < 2 * ((n.tmod d).natAbs : Int)) ∧ (sgn ((n.tmod d).natAbs * 2 - d : Int) = 0 ↔ 2 * ((n.tmod d).natAbs : Int) = d) := by unfold sgn; split <;> (try split) <;> omega
  have c2 : sgn ((n.tdiv d).tmod 2) = 0 ↔ (n.tdiv d).tmod 2 = 0 := by unfold sgn; split <;> (try split) <;> omega
  have hnear : near n d = if d < 2 * ((n.tmod d).natAbs : Int) ∨ (2 * ((n.tmod d).natAbs : Int) = d ∧ (n.tdiv d).tmod 2 ≠ 0) then (if n < 0 then n.tdiv d - 1 else n.tdiv d + 1) else n.tdiv d := rfl
  generalize near n d = res at *
  generalize n.tdiv d = q at *
  generalize n.tmod d = r at *
  generalize q.tmod 2 = o at *
  unfold FA
  simp only [NI_eq] at p1 p2 pd pa pt ph pq ps pn pl pp ⊢
  generalize sgn ((r.natAbs : Int) * 2 - d) = k at *
  generalize sgn o = j at *
  generalize sgn n = i at *
  (first | refine go (cj rTI (cj @dl_idf (cj @dl_ln @dl_one))) ?_ | exact go0 (cj rTI (cj @dl_idf (cj @dl_ln @dl_one))))
  refine aw_reg fun K hK => ?_; refine rn (cj rTI (cj @dl_idf (cj @dl_ln @dl_one))) ?_; refine cont_pure p2 ?_; refine rn (cj rTI (cj @dl_idf (cj @dl_ln @dl_one))) ?_; refine hK _ _ ?_; clear hK K
  (first | refine go (cj rTI (cj @dl_idf (cj @dl_ln @dl_one))) ?_ | exact go0 (cj rTI (cj @dl_idf (cj @dl_ln @dl_one))))
  refine aw_reg fun K hK => ?_; refine rn (cj rTI (cj @dl_idf (cj @dl_ln @dl_one))) ?_; refine cont_pure pd ?_; refine rn (cj rTI (cj @dl_idf (cj @dl_ln @dl_one))) ?_; refine hK _ _ ?_; clear hK K
  (first | refine go (cj rTI (cj @dl_idf (cj @dl_ln @dl_one))) ?_ | exact go0 (cj rTI (cj @dl_idf (cj @dl_ln @dl_one))))
  refine aw_drw (.take 0 (.take 2 (.two 1 (.two 3 (.one 4 (.one 5 (.done))) 4 (.one 3 (.one 5 (.done)))) 4 (.one 1 (.one 3 (.one 5 (.done))))))) [s.nx + 2, s.nx + 4] (by kernel_rfl) (by kernel_rfl) fun K hK => ?_; refine dr (cj rTI (cj @dl_idf (cj @dl_ln @dl_one))) ?_; skip
  have hK2 : ∀ (e : Env) (s' : St), NearI s n d q ((r.natAbs : Int) * 2) e s' → K e s' := by
    intro e s' hI
    refine hK e s' ?_
    clear hK
    have k0 := hI.en
    have k1 := hI.e1
    have k2 := hI.e2
    have k3 := hI.e3
    have k4 := hI.e4
    have k6 := hI.e6
    have g0 := hI.g0
    have g1 := hI.g1
    have g2 := hI.g2
    have g3 := hI.g3
    have g5 := hI.g5
    have hi := hI.hi
    (first | refine rn trivial ?_ | exact rn0 trivial)
    (first | refine go trivial ?_ | exact go0 trivial)
    refine aw_reg fun K hK => ?_; refine rn (cj rTI (cj @dl_idf (cj @dl_ln (cj @dl_one (cj @k0 (cj @k1 (cj @k2 (cj @k3 (cj @k4 (cj @k6 (cj @g0 (cj @g1 (cj @g2 (cj @g3 @g5)))))))))))))) ?_; refine cont_pure ph ?_; refine rn (cj rTI (cj @dl_idf (cj @dl_ln (cj @dl_one (cj @k0 (cj @k1 (cj @k2 (cj @k3 (cj @k4 (cj @k6 (cj @g0 (cj @g1 (cj @g2 (cj @g3 @g5)))))))))))))) ?_; refine hK _ _ ?_; clear hK K
    (first | refine go trivial ?_ | exact go0 trivial)
    refine aw_reg fun K hK => ?_; refine rn (cj rTI (cj @dl_idf (cj @dl_ln (cj @dl_one (cj @k0 (cj @k1 (cj @k2 (cj @k3 (cj @k4 (cj @k6 (cj @g0 (cj @g1 (cj @g2 (cj @g3 @g5)))))))))))))) ?_; refine cont_pure pq ?_; refine rn (cj rTI (cj @dl_idf (cj @dl_ln (cj @dl_one (cj @k0 (cj @k1 (cj @k2 (cj @k3 (cj @k4 (cj @k6 (cj @g0 (cj @g1 (cj @g2 (cj @g3 @g5)))))))))))))) ?_; refine hK _ _ ?_; clear hK K
    (first | refine go trivial ?_ | exact go0 trivial)
    by_cases hk : 0 < k
    · have hc : d < 2 * (r.natAbs : Int) ∨ (2 * (r.natAbs : Int) = d ∧ o ≠ 0) := .inl (c1.1.1 hk)
      rw [if_pos hc] at hnear
      (first | refine go (cj rTI (cj @dl_idf (cj @dl_ln (cj @dl_one (cj @k0 (cj @k1 (cj @k2 (cj @k3 (cj @k4 (cj @k6 (cj @g0 (cj @g1 (cj @g2 (cj @g3 @g5)))))))))))))) ?_ | exact go0 (cj rTI (cj @dl_idf (cj @dl_ln (cj @dl_one (cj @k0 (cj @k1 (cj @k2 (cj @k3 (cj @k4 (cj @k6 (cj @g0 (cj @g1 (cj @g2 (cj @g3 @g5)))))))))))))))
      (try rw [then_normal]); (try refine aw_seq ?_); refine aw_cond rfl ?_ ?_ <;> intro hb <;> (try (cases hb; done)) <;> (try simp only [bq] at hb) <;> (try (exfalso; omega))
      (first | refine go (cj rTI (cj @dl_idf (cj @dl_ln (cj @dl_one (cj @k0 (cj @k1 (cj @k2 (cj @k3 (cj @k4 (cj @k6 (cj @g0 (cj @g1 (cj @g2 (cj @g3 @g5)))))))))))))) ?_ | exact go0 (cj rTI (cj @dl_idf (cj @dl_ln (cj @dl_one (cj @k0 (cj @k1 (cj @k2 (cj @k3 (cj @k4 (cj @k6 (cj @g0 (cj @g1 (cj @g2 (cj @g3 @g5)))))))))))))))
      refine aw_reg fun K hK => ?_; refine rn (cj rTI (cj @dl_idf (cj @dl_ln (cj @dl_one (cj @k0 (cj @k1 (cj @k2 (cj @k3 (cj @k4 (cj @k6 (cj @g0 (cj @g1 (cj @g2 (cj @g3 @g5)))))))))))))) ?_; refine cont_pure pn ?_; refine rn (cj rTI (cj @dl_idf (cj @dl_ln (cj @dl_one (cj @k0 (cj @k1 (cj @k2 (cj @k3 (cj @k4 (cj @k6 (cj @g0 (cj @g1 (cj @g2 (cj @g3 @g5)))))))))))))) ?_; refine hK _ _ ?_; clear hK K
      by_cases hn : n < 0
      · rw [if_pos hn] at hnear
        subst hnear
        (try rw [then_normal]); (try refine aw_seq ?_); refine aw_cond rfl ?_ ?_ <;> intro hb <;> (try (cases hb; done)) <;> (try simp only [bq] at hb) <;> (try (exfalso; omega))
        (first | refine go trivial ?_ | exact go0 trivial)
        refine aw_drw (.take 0 (.one 1 (.one 2 (.one 3 (.done))))) [s.nx + 3] (by kernel_rfl) (by kernel_rfl) fun K hK => ?_; refine dr (cj rTI (cj @dl_idf (cj @dl_ln (cj @dl_one (cj @k0 (cj @k1 (cj @k2 (cj @k3 (cj @k4 (cj @k6 (cj @g0 (cj @g1 (cj @g2 (cj @g3 @g5)))))))))))))) ?_; refine cont_pure p1 ?_; refine dr (cj rTI (cj @dl_idf (cj @dl_ln (cj @dl_one (cj @k0 (cj @k1 (cj @k2 (cj @k3 (cj @k4 (cj @k6 (cj @g0 (cj @g1 (cj @g2 (cj @g3 @g5)))))))))))))) ?_; refine cont_pure pl ?_; refine dr (cj rTI (cj @dl_idf (cj @dl_ln (cj @dl_one (cj @k0 (cj @k1 (cj @k2 (cj @k3 (cj @k4 (cj @k6 (cj @g0 (cj @g1 (cj @g2 (cj @g3 @g5)))))))))))))) ?_; refine hK _ _ ?_; clear hK K
        (first | refine go (cj rTI (cj @dl_idf (cj @dl_ln (cj @dl_one (cj @k0 (cj @k1 (cj @k2 (cj @k3 (cj @k4 (cj @k6 (cj @g0 (cj @g1 (cj @g2 (cj @g3 @g5)))))))))))))) ?_ | exact go0 (cj rTI (cj @dl_idf (cj @dl_ln (cj @dl_one (cj @k0 (cj @k1 (cj @k2 (cj @k3 (cj @k4 (cj @k6 (cj @g0 (cj @g1 (cj @g2 (cj @g3 @g5)))))))))))))))
        (repeat' refine And.intro ?_ ?_) <;> (first | done | exact rfl | (intro i hi; exact rn0 (hI.fr i hi); done) | (exact rn0 (hI.fr i hi); done) | skip)
      · rw [if_neg hn] at hnear
        subst hnear
        (try rw [then_normal]); (try refine aw_seq ?_); refine aw_cond rfl ?_ ?_ <;> intro hb <;> (try (cases hb; done)) <;> (try simp only [bq] at hb) <;> (try (exfalso; omega))
        (first | refine go trivial ?_ | exact go0 trivial)
        refine aw_drw (.take 0 (.one 1 (.one 2 (.one 3 (.done))))) [s.nx + 3] (by kernel_rfl) (by kernel_rfl) fun K hK => ?_; refine dr (cj rTI (cj @dl_idf (cj @dl_ln (cj @dl_one (cj @k0 (cj @k1 (cj @k2 (cj @k3 (cj @k4 (cj @k6 (cj @g0 (cj @g1 (cj @g2 (cj @g3 @g5)))))))))))))) ?_; refine cont_pure p1 ?_; refine dr (cj rTI (cj @dl_idf (cj @dl_ln (cj @dl_one (cj @k0 (cj @k1 (cj @k2 (cj @k3 (cj @k4 (cj @k6 (cj @g0 (cj @g1 (cj @g2 (cj @g3 @g5)))))))))))))) ?_; refine cont_pure pp ?_; refine dr (cj rTI (cj @dl_idf (cj @dl_ln (cj @dl_one (cj @k0 (cj @k1 (cj @k2 (cj @k3 (cj @k4 (cj @k6 (cj @g0 (cj @g1 (cj @g2 (cj @g3 @g5)))))))))))))) ?_; refine hK _ _ ?_; clear hK K
        (first | refine go (cj rTI (cj @dl_idf (cj @dl_ln (cj @dl_one (cj @k0 (cj @k1 (cj @k2 (cj @k3 (cj @k4 (cj @k6 (cj @g0 (cj @g1 (cj @g2 (cj @g3 @g5)))))))))))))) ?_ | exact go0 (cj rTI (cj @dl_idf (cj @dl_ln (cj @dl_one (cj @k0 (cj @k1 (cj @k2 (cj @k3 (cj @k4 (cj @k6 (cj @g0 (cj @g1 (cj @g2 (cj @g3 @g5)))))))))))))))
        (repeat' refine And.intro ?_ ?_) <;> (first | done | exact rfl | (intro i hi; exact rn0 (hI.fr i hi); done) | (exact rn0 (hI.fr i hi); done) | skip)
    · by_cases hk0 : k = 0
      · by_cases hj : j = 0
        · have hc : ¬ (d < 2 * (r.natAbs : Int) ∨ (2 * (r.natAbs : Int) = d ∧ o ≠ 0)) := by
            have := c1.2.1 hk0
            have := c2.1 hj
            omega
          rw [if_neg hc] at hnear
          subst hnear
          refine aw_reg fun K hK => ?_; refine rn (cj rTI (cj @dl_idf (cj @dl_ln (cj @dl_one (cj @k0 (cj @k1 (cj @k2 (cj @k3 (cj @k4 (cj @k6 (cj @g0 (cj @g1 (cj @g2 (cj @g3 @g5)))))))))))))) ?_; refine cont_pure ps ?_; refine rn (cj rTI (cj @dl_idf (cj @dl_ln (cj @dl_one (cj @k0 (cj @k1 (cj @k2 (cj @k3 (cj @k4 (cj @k6 (cj @g0 (cj @g1 (cj @g2 (cj @g3 @g5)))))))))))))) ?_; refine hK _ _ ?_; clear hK K
          (try rw [then_normal]); (try refine aw_seq ?_); refine aw_cond rfl ?_ ?_ <;> intro hb <;> (try (cases hb; done)) <;> (try simp only [bq] at hb) <;> (try (exfalso; omega))
          (first | refine go (cj rTI (cj @dl_idf (cj @dl_ln (cj @dl_one (cj @k0 (cj @k1 (cj @k2 (cj @k3 (cj @k4 (cj @k6 (cj @g0 (cj @g1 (cj @g2 (cj @g3 @g5)))))))))))))) ?_ | exact go0 (cj rTI (cj @dl_idf (cj @dl_ln (cj @dl_one (cj @k0 (cj @k1 (cj @k2 (cj @k3 (cj @k4 (cj @k6 (cj @g0 (cj @g1 (cj @g2 (cj @g3 @g5)))))))))))))))
          (repeat' refine And.intro ?_ ?_) <;> (first | done | exact rfl | (intro i hi; exact rn0 (hI.fr i hi); done) | (exact rn0 (hI.fr i hi); done) | skip)
        · have hc : d < 2 * (r.natAbs : Int) ∨ (2 * (r.natAbs : Int) = d ∧ o ≠ 0) := .inr ⟨c1.2.1 hk0, fun q => hj (c2.2 q)⟩
          rw [if_pos hc] at hnear
          refine aw_reg fun K hK => ?_; refine rn (cj rTI (cj @dl_idf (cj @dl_ln (cj @dl_one (cj @k0 (cj @k1 (cj @k2 (cj @k3 (cj @k4 (cj @k6 (cj @g0 (cj @g1 (cj @g2 (cj @g3 @g5)))))))))))))) ?_; refine cont_pure ps ?_; refine rn (cj rTI (cj @dl_idf (cj @dl_ln (cj @dl_one (cj @k0 (cj @k1 (cj @k2 (cj @k3 (cj @k4 (cj @k6 (cj @g0 (cj @g1 (cj @g2 (cj @g3 @g5)))))))))))))) ?_; refine hK _ _ ?_; clear hK K
          (try rw [then_normal]); (try refine aw_seq ?_); refine aw_cond rfl ?_ ?_ <;> intro hb <;> (try (cases hb; done)) <;> (try simp only [bq] at hb) <;> (try (exfalso; omega))
          (first | refine go (cj rTI (cj @dl_idf (cj @dl_ln (cj @dl_one (cj @k0 (cj @k1 (cj @k2 (cj @k3 (cj @k4 (cj @k6 (cj @g0 (cj @g1 (cj @g2 (cj @g3 @g5)))))))))))))) ?_ | exact go0 (cj rTI (cj @dl_idf (cj @dl_ln (cj @dl_one (cj @k0 (cj @k1 (cj @k2 (cj @k3 (cj @k4 (cj @k6 (cj @g0 (cj @g1 (cj @g2 (cj @g3 @g5)))))))))))))))
          refine aw_reg fun K hK => ?_; refine rn (cj rTI (cj @dl_idf (cj @dl_ln (cj @dl_one (cj @k0 (cj @k1 (cj @k2 (cj @k3 (cj @k4 (cj @k6 (cj @g0 (cj @g1 (cj @g2 (cj @g3 @g5)))))))))))))) ?_; refine cont_pure pn ?_; refine rn (cj rTI (cj @dl_idf (cj @dl_ln (cj @dl_one (cj @k0 (cj @k1 (cj @k2 (cj @k3 (cj @k4 (cj @k6 (cj @g0 (cj @g1 (cj @g2 (cj @g3 @g5)))))))))))))) ?_; refine hK _ _ ?_; clear hK K
          by_cases hn : n < 0
          · rw [if_pos hn] at hnear
            subst hnear
            (try rw [then_normal]); (try refine aw_seq ?_); refine aw_cond rfl ?_ ?_ <;> intro hb <;> (try (cases hb; done)) <;> (try simp only [bq] at hb) <;> (try (exfalso; omega))
            (first | refine go trivial ?_ | exact go0 trivial)
            refine aw_drw (.take 0 (.one 1 (.one 2 (.one 3 (.done))))) [s.nx + 3] (by kernel_rfl) (by kernel_rfl) fun K hK => ?_; refine dr (cj rTI (cj @dl_idf (cj @dl_ln (cj @dl_one (cj @k0 (cj @k1 (cj @k2 (cj @k3 (cj @k4 (cj @k6 (cj @g0 (cj @g1 (cj @g2 (cj @g3 @g5)))))))))))))) ?_; refine cont_pure p1 ?_; refine dr (cj rTI (cj @dl_idf (cj @dl_ln (cj @dl_one (cj @k0 (cj @k1 (cj @k2 (cj @k3 (cj @k4 (cj @k6 (cj @g0 (cj @g1 (cj @g2 (cj @g3 @g5)))))))))))))) ?_; refine cont_pure pl ?_; refine dr (cj rTI (cj @dl_idf (cj @dl_ln (cj @dl_one (cj @k0 (cj @k1 (cj @k2 (cj @k3 (cj @k4 (cj @k6 (cj @g0 (cj @g1 (cj @g2 (cj @g3 @g5)))))))))))))) ?_; refine hK _ _ ?_; clear hK K
            (first | refine go (cj rTI (cj @dl_idf (cj @dl_ln (cj @dl_one (cj @k0 (cj @k1 (cj @k2 (cj @k3 (cj @k4 (cj @k6 (cj @g0 (cj @g1 (cj @g2 (cj @g3 @g5)))))))))))))) ?_ | exact go0 (cj rTI (cj @dl_idf (cj @dl_ln (cj @dl_one (cj @k0 (cj @k1 (cj @k2 (cj @k3 (cj @k4 (cj @k6 (cj @g0 (cj @g1 (cj @g2 (cj @g3 @g5)))))))))))))))
            (repeat' refine And.intro ?_ ?_) <;> (first | done | exact rfl | (intro i hi; exact rn0 (hI.fr i hi); done) | (exact rn0 (hI.fr i hi); done) | skip)
          · rw [if_neg hn] at hnear
            subst hnear
            (try rw [then_normal]); (try refine aw_seq ?_); refine aw_cond rfl ?_ ?_ <;> intro hb <;> (try (cases hb; done)) <;> (try simp only [bq] at hb) <;> (try (exfalso; omega))
            (first | refine go trivial ?_ | exact go0 trivial)
            refine aw_drw (.take 0 (.one 1 (.one 2 (.one 3 (.done))))) [s.nx + 3] (by kernel_rfl) (by kernel_rfl) fun K hK => ?_; refine dr (cj rTI (cj @dl_idf (cj @dl_ln (cj @dl_one (cj @k0 (cj @k1 (cj @k2 (cj @k3 (cj @k4 (cj @k6 (cj @g0 (cj @g1 (cj @g2 (cj @g3 @g5)))))))))))))) ?_; refine cont_pure p1 ?_; refine dr (cj rTI (cj @dl_idf (cj @dl_ln (cj @dl_one (cj @k0 (cj @k1 (cj @k2 (cj @k3 (cj @k4 (cj @k6 (cj @g0 (cj @g1 (cj @g2 (cj @g3 @g5)))))))))))))) ?_; refine cont_pure pp ?_; refine dr (cj rTI (cj @dl_idf (cj @dl_ln (cj @dl_one (cj @k0 (cj @k1 (cj @k2 (cj @k3 (cj @k4 (cj @k6 (cj @g0 (cj @g1 (cj @g2 (cj @g3 @g5)))))))))))))) ?_; refine hK _ _ ?_; clear hK K
            (first | refine go (cj rTI (cj @dl_idf (cj @dl_ln (cj @dl_one (cj @k0 (cj @k1 (cj @k2 (cj @k3 (cj @k4 (cj @k6 (cj @g0 (cj @g1 (cj @g2 (cj @g3 @g5)))))))))))))) ?_ | exact go0 (cj rTI (cj @dl_idf (cj @dl_ln (cj @dl_one (cj @k0 (cj @k1 (cj @k2 (cj @k3 (cj @k4 (cj @k6 (cj @g0 (cj @g1 (cj @g2 (cj @g3 @g5)))))))))))))))
            (repeat' refine And.intro ?_ ?_) <;> (first | done | exact rfl | (intro i hi; exact rn0 (hI.fr i hi); done) | (exact rn0 (hI.fr i hi); done) | skip)
      · have hc : ¬ (d < 2 * (r.natAbs : Int) ∨ (2 * (r.natAbs : Int) = d ∧ o ≠ 0)) := by
          have h1 : ¬ d < 2 * (r.natAbs : Int) := fun q => hk (c1.1.2 q)
          have h2 : ¬ 2 * (r.natAbs : Int) = d := fun q => hk0 (c1.2.2 q)
          exact fun q => q.elim h1 fun w => h2 w.1
        rw [if_neg hc] at hnear
        subst hnear
        (first | refine go (cj rTI (cj @dl_idf (cj @dl_ln (cj @dl_one (cj @k0 (cj @k1 (cj @k2 (cj @k3 (cj @k4 (cj @k6 (cj @g0 (cj @g1 (cj @g2 (cj @g3 @g5)))))))))))))) ?_ | exact go0 (cj rTI (cj @dl_idf (cj @dl_ln (cj @dl_one (cj @k0 (cj @k1 (cj @k2 (cj @k3 (cj @k4 (cj @k6 (cj @g0 (cj @g1 (cj @g2 (cj @g3 @g5)))))))))))))))
        (try rw [then_normal]); (try refine aw_seq ?_); refine aw_cond rfl ?_ ?_ <;> intro hb <;> (try (cases hb; done)) <;> (try simp only [bq] at hb) <;> (try (exfalso; omega))
        (first | refine go (cj rTI (cj @dl_idf (cj @dl_ln (cj @dl_one (cj @k0 (cj @k1 (cj @k2 (cj @k3 (cj @k4 (cj @k6 (cj @g0 (cj @g1 (cj @g2 (cj @g3 @g5)))))))))))))) ?_ | exact go0 (cj rTI (cj @dl_idf (cj @dl_ln (cj @dl_one (cj @k0 (cj @k1 (cj @k2 (cj @k3 (cj @k4 (cj @k6 (cj @g0 (cj @g1 (cj @g2 (cj @g3 @g5)))))))))))))))
        (repeat' refine And.intro ?_ ?_) <;> (first | done | exact rfl | (intro i hi; exact rn0 (hI.fr i hi); done) | (exact rn0 (hI.fr i hi); done) | skip)
  have fin : ∀ (e : Env) (s' : St), e.n = 55 → e.m 1 = .ptr s.nx 0 → e.m 2 = .ptr (s.nx + 1) 0 → e.m 3 = .ptr (s.nx + 2) 0 → e.m 4 = .ptr (s.nx + 3) 0 → e.m 6 = .ptr (s.nx + 5) 0 →
      s'.get s.nx = some [.v (.bool (ng n)), .sl (lz n) (DL (digs B n.natAbs)), .v (.bool (ng d)), .sl (lz d) (DL (digs B d.natAbs))] → s'.get (s.nx + 1) = some [.v (.bool false), .v (.slice none 0 0)] → s'.get (s.nx + 2) = some [.v (.bool (ng 2)), .sl (lz 2) (DL (digs B (2 : Int).natAbs))] →
      s'.get (s.nx + 3) = some [.v (.bool (ng q)), .sl (lz q) (DL (digs B q.natAbs))] → s'.get (s.nx + 5) = some [.v (.bool (ng ((r.natAbs : Int) * 2))), .sl (lz ((r.natAbs : Int) * 2)) (DL (digs B ((r.natAbs : Int) * 2).natAbs))] → s.nx + 6 ≤ s'.nx → (∀ i, i < s.nx → s'.get i = s.get i) → K e s' :=
    fun e s' q0 q1 q2 q3 q4 q5 q6 q7 q8 q9 q10 q11 q12 => hK2 e s' ⟨q0, q1, q2, q3, q4, q5, q6, q7, q8, q9, q10, q11, q12⟩
  clear c0 c1 c2 hnear hK2 q0 r0 l2 l1 lq lr lt
  refine ⟨?_, ?_⟩ <;> (refine cont_pure pa ?_; refine dr (cj rTI (cj @dl_idf (cj @dl_ln @dl_one))) ?_)
  (refine ⟨?_, ?_⟩ <;> (refine cont_pure pt ?_; refine dr (cj rTI (cj @dl_idf (cj @dl_ln @dl_one))) ?_; apply fin <;> (try (first | refine rn trivial ?_ | exact rn0 trivial))))
  all_goals (try (refine cont_pure pt ?_; refine dr (cj rTI (cj @dl_idf (cj @dl_ln @dl_one))) ?_; apply fin <;> (try (first | refine rn trivial ?_ | exact rn0 trivial))))
  all_goals (all_goals (first | done | omega | (refine congrArg some ?_; rfl) | rfl | (refine congrArg (fun z : Int => AV.v (.int .i64 z)) ?_; omega) | (intro i hi; (first | refine rn trivial ?_ | exact rn0 trivial)) | skip))

theorem lz_near (n d : Int) (hd : 0 < d) (lnn : lz n ≤ 68719476736) : lz (near n d) ≤ 68719476737 := by
  have q0 : (n.tdiv d).natAbs ≤ n.natAbs := by rw [Int.natAbs_tdiv]; exact Nat.div_le_self _ _
  have lq : lz (n.tdiv d) ≤ 68719476736 := Nat.le_trans (lz_le q0) lnn
  have l1 : lz 1 ≤ 68719476736 := Nat.le_trans (lz_small 1 (by omega) (by omega)) (by omega)
  unfold near
  simp only
  split
  · split
    · exact lz_add _ (-1) _ lq (by rw [lz_neg]; exact l1)
    · exact lz_add _ 1 _ lq l1
  · omega
/-- What Grid gives: the number, and the mark 4 where it does not fit. -/
def gridF (n d : Int) : AV := if -1000000000000000000 ≤ near n d ∧ near n d ≤ 1000000000000000000 then .tp [.v (.int .i64 (near n d)), .v (.int .i64 0)] else .tp [.v (.int .i64 0), .v (.int .i64 4)]
theorem gridF_ax (n d : Int) (hd : 0 < d) (lnn : lz n ≤ 68719476736) (ld : lz d ≤ 68719476736) : PCall Tryz.prog 74 [FA n d] (gridF n d) := by
  refine pcall_of fun s => ?_
  refine acall_of Tryz.func74 rfl rfl (by simp [Tryz.ntmps74]) ?_; rw [Tryz.ntmps74, Tryz.results74]
  have p0 := near_ax n d hd lnn ld
  have p1 := whole_ax (near n d) (by have := lz_near n d hd lnn; omega)
  unfold gridF
  generalize near n d = z at *
  unfold FA at p0 ⊢
  simp only [NI_eq] at p0 p1 ⊢
  by_cases hf : fits z
  · rw [if_pos hf] at p1
    have h1 := hf.1
    have h2 := hf.2
    by_cases c1 : z ≤ 1000000000000000000
    · by_cases c2 : -1000000000000000000 ≤ z
      · rw [if_pos ⟨c2, c1⟩]
        (first | refine go (cj rTU (cj @dl_idf (cj @dl_ln @dl_one))) ?_ | exact go0 (cj rTU (cj @dl_idf (cj @dl_ln @dl_one))))
        refine aw_reg fun K hK => ?_; refine rn (cj rTU (cj @dl_idf (cj @dl_ln @dl_one))) ?_; refine cont_pure p0 ?_; (first | refine rn (cj rTU (cj @dl_idf (cj @dl_ln @dl_one))) ?_ | exact rn0 (cj rTU (cj @dl_idf (cj @dl_ln @dl_one)))); refine cont_pure p1 ?_; refine rn (cj rTU (cj @dl_idf (cj @dl_ln @dl_one))) ?_; refine hK _ _ ?_; clear hK K
        (first | refine go (cj rTU (cj @dl_idf (cj @dl_ln @dl_one))) ?_ | exact go0 (cj rTU (cj @dl_idf (cj @dl_ln @dl_one))))
        (try rw [then_normal]); (try refine aw_seq ?_); refine aw_cond rfl ?_ ?_ <;> intro hb <;> (try (cases hb; done)) <;> (try simp only [bq] at hb) <;> (try (exfalso; omega))
        (first | refine go (cj rTU (cj @dl_idf (cj @dl_ln @dl_one))) ?_ | exact go0 (cj rTU (cj @dl_idf (cj @dl_ln @dl_one))))
        (repeat' refine And.intro ?_ ?_) <;> (first | done | exact rfl | (intro i hi; exact rn0 trivial; done) | (exact rn0 trivial; done) | skip)
      · rw [if_neg fun q => c2 q.1]
        (first | refine go (cj rTU (cj @dl_idf (cj @dl_ln @dl_one))) ?_ | exact go0 (cj rTU (cj @dl_idf (cj @dl_ln @dl_one))))
        refine aw_reg fun K hK => ?_; refine rn (cj rTU (cj @dl_idf (cj @dl_ln @dl_one))) ?_; refine cont_pure p0 ?_; (first | refine rn (cj rTU (cj @dl_idf (cj @dl_ln @dl_one))) ?_ | exact rn0 (cj rTU (cj @dl_idf (cj @dl_ln @dl_one)))); refine cont_pure p1 ?_; refine rn (cj rTU (cj @dl_idf (cj @dl_ln @dl_one))) ?_; refine hK _ _ ?_; clear hK K
        (first | refine go (cj rTU (cj @dl_idf (cj @dl_ln @dl_one))) ?_ | exact go0 (cj rTU (cj @dl_idf (cj @dl_ln @dl_one))))
        (try rw [then_normal]); (try refine aw_seq ?_); refine aw_cond rfl ?_ ?_ <;> intro hb <;> (try (cases hb; done)) <;> (try simp only [bq] at hb) <;> (try (exfalso; omega))
        (first | refine go (cj rTU (cj @dl_idf (cj @dl_ln @dl_one))) ?_ | exact go0 (cj rTU (cj @dl_idf (cj @dl_ln @dl_one))))
        (repeat' refine And.intro ?_ ?_) <;> (first | done | exact rfl | (intro i hi; exact rn0 trivial; done) | (exact rn0 trivial; done) | skip)
    · rw [if_neg fun q => c1 q.2]
      (first | refine go (cj rTU (cj @dl_idf (cj @dl_ln @dl_one))) ?_ | exact go0 (cj rTU (cj @dl_idf (cj @dl_ln @dl_one))))
      refine aw_reg fun K hK => ?_; refine rn (cj rTU (cj @dl_idf (cj @dl_ln @dl_one))) ?_; refine cont_pure p0 ?_; (first | refine rn (cj rTU (cj @dl_idf (cj @dl_ln @dl_one))) ?_ | exact rn0 (cj rTU (cj @dl_idf (cj @dl_ln @dl_one)))); refine cont_pure p1 ?_; refine rn (cj rTU (cj @dl_idf (cj @dl_ln @dl_one))) ?_; refine hK _ _ ?_; clear hK K
      (first | refine go (cj rTU (cj @dl_idf (cj @dl_ln @dl_one))) ?_ | exact go0 (cj rTU (cj @dl_idf (cj @dl_ln @dl_one))))
      (try rw [then_normal]); (try refine aw_seq ?_); refine aw_cond rfl ?_ ?_ <;> intro hb <;> (try (cases hb; done)) <;> (try simp only [bq] at hb) <;> (try (exfalso; omega))
      (first | refine go (cj rTU (cj @dl_idf (cj @dl_ln @dl_one))) ?_ | exact go0 (cj rTU (cj @dl_idf (cj @dl_ln @dl_one))))
      (repeat' refine And.intro ?_ ?_) <;> (first | done | exact rfl | (intro i hi; exact rn0 trivial; done) | (exact rn0 trivial; done) | skip)
  · rw [if_neg hf] at p1
    rw [if_neg fun q => hf ⟨by omega, by omega⟩]
    (first | refine go (cj rTU (cj @dl_idf (cj @dl_ln @dl_one))) ?_ | exact go0 (cj rTU (cj @dl_idf (cj @dl_ln @dl_one))))
    refine aw_reg fun K hK => ?_; refine rn (cj rTU (cj @dl_idf (cj @dl_ln @dl_one))) ?_; refine cont_pure p0 ?_; (first | refine rn (cj rTU (cj @dl_idf (cj @dl_ln @dl_one))) ?_ | exact rn0 (cj rTU (cj @dl_idf (cj @dl_ln @dl_one)))); refine cont_pure p1 ?_; refine rn (cj rTU (cj @dl_idf (cj @dl_ln @dl_one))) ?_; refine hK _ _ ?_; clear hK K
    (first | refine go (cj rTU (cj @dl_idf (cj @dl_ln @dl_one))) ?_ | exact go0 (cj rTU (cj @dl_idf (cj @dl_ln @dl_one))))
    (try rw [then_normal]); (try refine aw_seq ?_); refine aw_cond rfl ?_ ?_ <;> intro hb <;> (try (cases hb; done)) <;> (try simp only [bq] at hb) <;> (try (exfalso; omega))
    (first | refine go (cj rTU (cj @dl_idf (cj @dl_ln @dl_one))) ?_ | exact go0 (cj rTU (cj @dl_idf (cj @dl_ln @dl_one))))
    (repeat' refine And.intro ?_ ?_) <;> (first | done | exact rfl | (intro i hi; exact rn0 trivial; done) | (exact rn0 trivial; done) | skip)
end Go.Proofs.YtfjelkjlfcafgaaGreatDoor.RefL
end
section
/- The document's numbers (layer 3): valid, the value. -/
namespace Go.Proofs.YtfjelkjlfcafgaaGreatDoor.RefM
open Go Go.RowKit Go.Proofs.YtfjelkjlfcafgaaGreatDoor.Ax Go.Proofs.YtfjelkjlfcafgaaGreatDoor.Ti Go.Proofs.YtfjelkjlfcafgaaGreatDoor.BigM Go.Proofs.YtfjelkjlfcafgaaGreatDoor.RefA Go.Proofs.YtfjelkjlfcafgaaGreatDoor.RefB Go.Proofs.YtfjelkjlfcafgaaGreatDoor.RefC Go.Proofs.YtfjelkjlfcafgaaGreatDoor.RefD Go.Proofs.YtfjelkjlfcafgaaGreatDoor.RefE Go.Proofs.YtfjelkjlfcafgaaGreatDoor.RefF Go.Proofs.YtfjelkjlfcafgaaGreatDoor.RefG Go.Proofs.YtfjelkjlfcafgaaGreatDoor.RefH Go.Proofs.YtfjelkjlfcafgaaGreatDoor.RefI Go.Proofs.YtfjelkjlfcafgaaGreatDoor.RefJ Go.Proofs.YtfjelkjlfcafgaaGreatDoor.RefK Go.Proofs.YtfjelkjlfcafgaaGreatDoor.RefL
set_option maxHeartbeats 2000000
set_option linter.unusedSimpArgs false
set_option linter.unusedVariables false
set_option maxRecDepth 4000
theorem rTI : type_of% (cj @ti124 (cj @ti105 (cj @ti63 (cj @ti3 @ti4)))) := cj @ti124 (cj @ti105 (cj @ti63 (cj @ti3 @ti4)))
theorem rTN : type_of% (cj @ti24 (cj @ti2 (cj @ti124 (cj @ti105 (cj @ti63 (cj @ti3 @ti4)))))) := cj @ti24 (cj @ti2 (cj @ti124 (cj @ti105 (cj @ti63 (cj @ti3 @ti4)))))
theorem rTW : type_of% (cj @ti45 (cj @ti43 (cj @ti41 (cj @ti35 (cj @ti24 (cj @ti2 (cj @ti124 (cj @ti105 (cj @ti63 (cj @ti3 @ti4)))))))))) := cj @ti45 (cj @ti43 (cj @ti41 (cj @ti35 (cj @ti24 (cj @ti2 (cj @ti124 (cj @ti105 (cj @ti63 (cj @ti3 @ti4)))))))))

/-- A number: a mantissa and a power of ten. -/
def NM (m k : Int) : AV := .ag [.v (.int .i64 m), .v (.int .i64 k)]
def validN (m k : Int) : Bool := if m.tmod 10 = 0 then decide (m = 0) && decide (k = 0) else decide (m ≤ 999999999) && decide (-999999999 ≤ m) && decide (k ≤ 9) && decide (-18 ≤ k)
theorem valid_ax (m k : Int) : PCall Tryz.prog 16 [NM m k] (.v (.bool (validN m k))) := by
  refine pcall_of fun s => ?_
  refine acall_of Tryz.func16 rfl rfl (by simp [Tryz.ntmps16]) ?_; rw [Tryz.ntmps16, Tryz.results16]
  unfold NM validN
  by_cases h0 : m = 0
  · subst h0
    by_cases hk : k = 0
    · (first | refine go (cj rTN (cj @dl_idf (cj @dl_ln @dl_one))) ?_ | exact go0 (cj rTN (cj @dl_idf (cj @dl_ln @dl_one))))
      (try rw [then_normal]); (try refine aw_seq ?_); refine aw_cond rfl ?_ ?_ <;> intro hb <;> (try (cases hb; done)) <;> (try simp only [bq] at hb) <;> (try (exfalso; omega))
      (first | refine go (cj rTN (cj @dl_idf (cj @dl_ln @dl_one))) ?_ | exact go0 (cj rTN (cj @dl_idf (cj @dl_ln @dl_one))))
      (repeat' refine And.intro ?_ ?_) <;> (first | done | exact rfl | (intro i hi; exact rn0 trivial; done) | (exact rn0 trivial; done) | skip)
    · (first | refine go (cj rTN (cj @dl_idf (cj @dl_ln @dl_one))) ?_ | exact go0 (cj rTN (cj @dl_idf (cj @dl_ln @dl_one))))
      (try rw [then_normal]); (try refine aw_seq ?_); refine aw_cond rfl ?_ ?_ <;> intro hb <;> (try (cases hb; done)) <;> (try simp only [bq] at hb) <;> (try (exfalso; omega))
      (first | refine go (cj rTN (cj @dl_idf (cj @dl_ln @dl_one))) ?_ | exact go0 (cj rTN (cj @dl_idf (cj @dl_ln @dl_one))))
      (repeat' refine And.intro ?_ ?_) <;> (first | done | exact rfl | (intro i hi; exact rn0 trivial; done) | (exact rn0 trivial; done) | skip)
  · by_cases h1 : m.tmod 10 = 0
    · rw [if_pos h1]
      (first | refine go (cj rTN (cj @dl_idf (cj @dl_ln (cj @dl_one @h1)))) ?_ | exact go0 (cj rTN (cj @dl_idf (cj @dl_ln (cj @dl_one @h1)))))
      (try rw [then_normal]); (try refine aw_seq ?_); refine aw_cond rfl ?_ ?_ <;> intro hb <;> (try (cases hb; done)) <;> (try simp only [bq] at hb) <;> (try (exfalso; omega))
      (first | refine go (cj rTN (cj @dl_idf (cj @dl_ln @dl_one))) ?_ | exact go0 (cj rTN (cj @dl_idf (cj @dl_ln @dl_one))))
      (repeat' refine And.intro ?_ ?_) <;> (first | done | exact rfl | (intro i hi; exact rn0 trivial; done) | (exact rn0 trivial; done) | skip)
    · rw [if_neg h1]
      have h2 : (m.tmod 10 == 0) = false := beq_eq_false_iff_ne.2 h1
      (first | refine go (cj rTN (cj @dl_idf (cj @dl_ln (cj @dl_one @h2)))) ?_ | exact go0 (cj rTN (cj @dl_idf (cj @dl_ln (cj @dl_one @h2)))))
      (try rw [then_normal]); (try refine aw_seq ?_); refine aw_cond rfl ?_ ?_ <;> intro hb <;> (try (cases hb; done)) <;> (try simp only [bq] at hb) <;> (try (exfalso; omega))
      by_cases c1 : m ≤ 999999999
      · by_cases c2 : -999999999 ≤ m
        · by_cases c3 : k ≤ 9
          · (first | refine go (cj rTN (cj @dl_idf (cj @dl_ln @dl_one))) ?_ | exact go0 (cj rTN (cj @dl_idf (cj @dl_ln @dl_one))))
            (repeat' refine And.intro ?_ ?_) <;> (first | done | exact rfl | (intro i hi; exact rn0 trivial; done) | (exact rn0 trivial; done) | skip)
          · (first | refine go (cj rTN (cj @dl_idf (cj @dl_ln @dl_one))) ?_ | exact go0 (cj rTN (cj @dl_idf (cj @dl_ln @dl_one))))
            (repeat' refine And.intro ?_ ?_) <;> (first | done | exact rfl | (intro i hi; exact rn0 trivial; done) | (exact rn0 trivial; done) | skip)
        · (first | refine go (cj rTN (cj @dl_idf (cj @dl_ln @dl_one))) ?_ | exact go0 (cj rTN (cj @dl_idf (cj @dl_ln @dl_one))))
          (repeat' refine And.intro ?_ ?_) <;> (first | done | exact rfl | (intro i hi; exact rn0 trivial; done) | (exact rn0 trivial; done) | skip)
      · (first | refine go (cj rTN (cj @dl_idf (cj @dl_ln @dl_one))) ?_ | exact go0 (cj rTN (cj @dl_idf (cj @dl_ln @dl_one))))
        (repeat' refine And.intro ?_ ?_) <;> (first | done | exact rfl | (intro i hi; exact rn0 trivial; done) | (exact rn0 trivial; done) | skip)

/-- At the head of a round of power. -/
structure PowI (s : St) (k i : Nat) (e : Env) (s' : St) : Prop where
  en : e.n = 15
  e0 : e.m 0 = .v (.int .i64 k)
  e2 : e.m 2 = .ptr s.nx 0
  e3 : e.m 3 = .ptr (s.nx + 1) 0
  e4 : e.m 4 = .v (.int .i64 i)
  g0 : s'.get s.nx = some [.v (.bool false), .v (.slice none 0 0)]
  g1 : s'.get (s.nx + 1) = some [.v (.bool (ng (10 ^ i : Nat))), .sl (lz (10 ^ i : Nat)) (DL (digs B (10 ^ i)))]
  hi : s.nx + 2 ≤ s'.nx
  fr : ∀ i, i < s.nx → s'.get i = s.get i
  il : i ≤ k
theorem power_ax (k : Nat) (hk : k ≤ 1000000) : PCall Tryz.prog 129 [.v (.int .i64 k)] (NI (10 ^ k : Nat)) := by
  refine pcall_of fun s => ?_
  refine acall_of Tryz.func129 rfl rfl (by simp [Tryz.ntmps129]) ?_; rw [Tryz.ntmps129, Tryz.results129]
  have p1 := small_ax 1 (by omega) (by omega)
  have p10 := small_ax 10 (by omega) (by omega)
  have l10 : lz 10 ≤ 4 := lz_small 10 (by omega) (by omega)
  have lp : ∀ i : Nat, lz (10 ^ i : Nat) ≤ i + 1 := fun i => (ln_lt _ _).1 (by
    rw [Int.natAbs_natCast]
    calc 10 ^ i ≤ B ^ i := Nat.pow_le_pow_left (by decide) _
      _ < B ^ (i + 1) := Nat.pow_lt_pow_right (by decide) (by omega))
  simp only [NI_eq] at p1 p10 ⊢
  (first | refine go (cj rTN (cj @dl_idf (cj @dl_ln @dl_one))) ?_ | exact go0 (cj rTN (cj @dl_idf (cj @dl_ln @dl_one))))
  refine aw_reg fun K hK => ?_; refine rn (cj rTN (cj @dl_idf (cj @dl_ln @dl_one))) ?_; refine cont_pure p1 ?_; refine rn (cj rTN (cj @dl_idf (cj @dl_ln @dl_one))) ?_; refine hK _ _ ?_; clear hK K
  (first | refine go (cj rTN (cj @dl_idf (cj @dl_ln @dl_one))) ?_ | exact go0 (cj rTN (cj @dl_idf (cj @dl_ln @dl_one))))
  refine aw_loop (fun n e s' => ∃ i, n = k - i ∧ PowI s k i e s') k ?_ ?_
  · refine ⟨0, by omega, ?_⟩
    constructor <;> (try (first | refine rn (cj rTN (cj @dl_idf (cj @dl_ln @dl_one))) ?_ | exact rn0 (cj rTN (cj @dl_idf (cj @dl_ln @dl_one)))))
    all_goals (first | done | omega | (refine congrArg some ?_; rfl) | rfl | (refine congrArg (fun z : Int => AV.v (.int .i64 z)) ?_; omega) | (intro i hi; (first | refine rn trivial ?_ | exact rn0 trivial)) | skip)
  · rintro n e s' ⟨i, hn, hI⟩
    have k0 := hI.en
    have k1 := hI.e0
    have k2 := hI.e2
    have k3 := hI.e3
    have k4 := hI.e4
    have g0 := hI.g0
    have g1 := hI.g1
    have hi := hI.hi
    have il := hI.il
    have pt := timesN_ax (10 ^ i : Nat) 10 (by have := lp i; omega)
    rw [show ((10 ^ i : Nat) : Int) * 10 = ((10 ^ (i + 1) : Nat) : Int) by rw [Nat.pow_succ]; omega] at pt
    simp only [NI_eq, Int.natAbs_natCast] at pt
    by_cases h : i < k
    · (first | refine go (cj rTN (cj @dl_idf (cj @dl_ln (cj @dl_one (cj @k0 (cj @k1 (cj @k2 (cj @k3 (cj @k4 (cj @g0 @g1)))))))))) ?_ | exact go0 (cj rTN (cj @dl_idf (cj @dl_ln (cj @dl_one (cj @k0 (cj @k1 (cj @k2 (cj @k3 (cj @k4 (cj @g0 @g1)))))))))))
      (try rw [then_normal]); (try refine aw_seq ?_); refine aw_cond rfl ?_ ?_ <;> intro hb <;> (try (cases hb; done)) <;> (try simp only [bq] at hb) <;> (try (exfalso; omega))
      (first | refine go (cj rTN (cj @dl_idf (cj @dl_ln (cj @dl_one (cj @k0 (cj @k1 (cj @k2 (cj @k3 (cj @k4 (cj @g0 @g1)))))))))) ?_ | exact go0 (cj rTN (cj @dl_idf (cj @dl_ln (cj @dl_one (cj @k0 (cj @k1 (cj @k2 (cj @k3 (cj @k4 (cj @g0 @g1)))))))))))
      refine aw_drw (.two 0 (.one 1 (.one 2 (.one 3 (.done)))) 1 (.one 0 (.one 2 (.one 3 (.done))))) [] (by kernel_rfl) (by kernel_rfl) fun K hK => ?_; refine dr (cj rTN (cj @dl_idf (cj @dl_ln (cj @dl_one (cj @k0 (cj @k1 (cj @k2 (cj @k3 (cj @k4 (cj @g0 @g1)))))))))) ?_; skip
      refine ⟨?_, ?_⟩
      all_goals (refine cont_pure p10 ?_; refine dr (cj rTN (cj @dl_idf (cj @dl_ln (cj @dl_one (cj @k0 (cj @k1 (cj @k2 (cj @k3 (cj @k4 (cj @g0 @g1)))))))))) ?_; refine cont_pure pt ?_; refine dr (cj rTN (cj @dl_idf (cj @dl_ln (cj @dl_one (cj @k0 (cj @k1 (cj @k2 (cj @k3 (cj @k4 (cj @g0 @g1)))))))))) ?_; refine hK _ _ ?_; clear hK K; (first | refine go (cj rTN (cj @dl_idf (cj @dl_ln (cj @dl_one (cj @k0 (cj @k1 (cj @k2 (cj @k3 (cj @k4 (cj @g0 @g1)))))))))) ?_ | exact go0 (cj rTN (cj @dl_idf (cj @dl_ln (cj @dl_one (cj @k0 (cj @k1 (cj @k2 (cj @k3 (cj @k4 (cj @g0 @g1))))))))))))
      all_goals (simp only [block_normal, loop_normal]; refine ⟨k - (i + 1), by omega, i + 1, rfl, ?_⟩)
      all_goals (constructor <;> (try (first | refine rn (cj rTN (cj @dl_idf (cj @dl_ln (cj @dl_one (cj @k0 (cj @k1 (cj @k2 (cj @k3 (cj @k4 (cj @g0 @g1)))))))))) ?_ | exact rn0 (cj rTN (cj @dl_idf (cj @dl_ln (cj @dl_one (cj @k0 (cj @k1 (cj @k2 (cj @k3 (cj @k4 (cj @g0 @g1)))))))))))))
      all_goals (all_goals (first | done | omega | (refine congrArg some ?_; rfl) | rfl | (refine congrArg (fun z : Int => AV.v (.int .i64 z)) ?_; omega) | (intro i hi; (first | refine rn (hI.fr i hi) ?_ | exact rn0 (hI.fr i hi))) | skip))
    · (first | refine go (cj rTN (cj @dl_idf (cj @dl_ln (cj @dl_one (cj @k0 (cj @k1 (cj @k2 (cj @k3 (cj @k4 (cj @g0 @g1)))))))))) ?_ | exact go0 (cj rTN (cj @dl_idf (cj @dl_ln (cj @dl_one (cj @k0 (cj @k1 (cj @k2 (cj @k3 (cj @k4 (cj @g0 @g1)))))))))))
      (try rw [then_normal]); (try refine aw_seq ?_); refine aw_cond rfl ?_ ?_ <;> intro hb <;> (try (cases hb; done)) <;> (try simp only [bq] at hb) <;> (try (exfalso; omega))
      (first | refine go (cj rTN (cj @dl_idf (cj @dl_ln (cj @dl_one (cj @k0 (cj @k1 (cj @k2 (cj @k3 (cj @k4 (cj @g0 @g1)))))))))) ?_ | exact go0 (cj rTN (cj @dl_idf (cj @dl_ln (cj @dl_one (cj @k0 (cj @k1 (cj @k2 (cj @k3 (cj @k4 (cj @g0 @g1)))))))))))
      obtain rfl : i = k := by omega
      (repeat' refine And.intro ?_ ?_) <;> (first | done | exact rfl | (intro i hi; exact rn0 (cj (hI.fr i hi) @Int.natAbs_natCast); done) | (exact rn0 (cj (hI.fr i hi) @Int.natAbs_natCast); done) | skip)

/-- The fraction of a number. -/
def ofN (m k : Int) : Int × Int := if k < 0 then low m ((10 ^ (-k).toNat : Nat) : Int) else (m * ((10 ^ k.toNat : Nat) : Int), 1)
theorem lz_pow (i : Nat) : lz (10 ^ i : Nat) ≤ i + 1 := (ln_lt _ _).1 (by
  rw [Int.natAbs_natCast]
  calc 10 ^ i ≤ B ^ i := Nat.pow_le_pow_left (by decide) _
    _ < B ^ (i + 1) := Nat.pow_lt_pow_right (by decide) (by omega))
theorem ofN_ax (m k : Int) (m1 : -9223372036854775808 ≤ m) (m2 : m ≤ 9223372036854775807) (k1 : -1000 ≤ k) (k2 : k ≤ 1000) : PCall Tryz.prog 70 [NM m k] (FA (ofN m k).1 (ofN m k).2) := by
  refine pcall_of fun s => ?_
  refine acall_of Tryz.func70 rfl rfl (by simp [Tryz.ntmps70]) ?_; rw [Tryz.ntmps70, Tryz.results70]
  have p0 := wide_ax m m1 (by omega)
  have p1 := small_ax 1 (by omega) (by omega)
  have lm := lz_small m m1 m2
  unfold NM
  by_cases hk : k < 0
  · have pp := power_ax (-k).toNat (by omega)
    have lp := lz_pow (-k).toNat
    have h10 : ((10 ^ (-k).toNat : Nat) : Int) ≠ 0 := by
      have : 0 < 10 ^ (-k).toNat := Nat.pow_pos (by decide)
      omega
    have pl := lowest_ax m ((10 ^ (-k).toNat : Nat) : Int) h10 (by omega) (by omega)
    rw [show (((-k).toNat : Nat) : Int) = 0 - k by omega] at pp
    rw [show ofN m k = low m ((10 ^ (-k).toNat : Nat) : Int) by unfold ofN; rw [if_pos hk]]
    generalize ((10 ^ (-k).toNat : Nat) : Int) = u at *
    unfold FA at pl ⊢
    simp only [NI_eq] at p0 p1 pp pl ⊢
    (first | refine go (cj rTN (cj @dl_idf (cj @dl_ln @dl_one))) ?_ | exact go0 (cj rTN (cj @dl_idf (cj @dl_ln @dl_one))))
    refine aw_reg fun K hK => ?_; refine rn (cj rTN (cj @dl_idf (cj @dl_ln @dl_one))) ?_; refine cont_pure p0 ?_; refine rn (cj rTN (cj @dl_idf (cj @dl_ln @dl_one))) ?_; refine hK _ _ ?_; clear hK K
    (first | refine go (cj rTN (cj @dl_idf (cj @dl_ln @dl_one))) ?_ | exact go0 (cj rTN (cj @dl_idf (cj @dl_ln @dl_one))))
    (try rw [then_normal]); (try refine aw_seq ?_); refine aw_cond rfl ?_ ?_ <;> intro hb <;> (try (cases hb; done)) <;> (try simp only [bq] at hb) <;> (try (exfalso; omega))
    (first | refine go (cj rTN (cj @dl_idf (cj @dl_ln @dl_one))) ?_ | exact go0 (cj rTN (cj @dl_idf (cj @dl_ln @dl_one))))
    refine aw_drw (.take 0 (.take 1 (.take 2 (.take 3 (.one 4 (.one 5 (.one 6 (.done)))))))) [s.nx, s.nx + 2] (by kernel_rfl) (by kernel_rfl) fun K hK => ?_; refine dr (cj rTN (cj @dl_idf (cj @dl_ln @dl_one))) ?_; refine cont_pure pp ?_; refine dr (cj rTN (cj @dl_idf (cj @dl_ln @dl_one))) ?_; refine cont_pure pl ?_; refine dr (cj rTN (cj @dl_idf (cj @dl_ln @dl_one))) ?_; refine hK _ _ ?_; clear hK K
    (first | refine go (cj rTN (cj @dl_idf (cj @dl_ln @dl_one))) ?_ | exact go0 (cj rTN (cj @dl_idf (cj @dl_ln @dl_one))))
    (repeat' refine And.intro ?_ ?_) <;> (first | done | exact rfl | (intro i hi; exact rn0 trivial; done) | (exact rn0 trivial; done) | skip)
  · have pp := power_ax k.toNat (by omega)
    have lp := lz_pow k.toNat
    have pt := timesN_ax m ((10 ^ k.toNat : Nat) : Int) (by omega)
    rw [show ((k.toNat : Nat) : Int) = k by omega] at pp
    rw [show ofN m k = (m * ((10 ^ k.toNat : Nat) : Int), 1) by unfold ofN; rw [if_neg hk]]
    generalize ((10 ^ k.toNat : Nat) : Int) = u at *
    unfold FA
    simp only [NI_eq] at p0 p1 pp pt ⊢
    (first | refine go (cj rTN (cj @dl_idf (cj @dl_ln @dl_one))) ?_ | exact go0 (cj rTN (cj @dl_idf (cj @dl_ln @dl_one))))
    refine aw_reg fun K hK => ?_; refine rn (cj rTN (cj @dl_idf (cj @dl_ln @dl_one))) ?_; refine cont_pure p0 ?_; refine rn (cj rTN (cj @dl_idf (cj @dl_ln @dl_one))) ?_; refine hK _ _ ?_; clear hK K
    (first | refine go (cj rTN (cj @dl_idf (cj @dl_ln @dl_one))) ?_ | exact go0 (cj rTN (cj @dl_idf (cj @dl_ln @dl_one))))
    (try rw [then_normal]); (try refine aw_seq ?_); refine aw_cond rfl ?_ ?_ <;> intro hb <;> (try (cases hb; done)) <;> (try simp only [bq] at hb) <;> (try (exfalso; omega))
    (first | refine go (cj rTN (cj @dl_idf (cj @dl_ln @dl_one))) ?_ | exact go0 (cj rTN (cj @dl_idf (cj @dl_ln @dl_one))))
    refine aw_drw (.take 0 (.take 1 (.take 2 (.one 3 (.one 4 (.one 5 (.take 6 (.one 7 (.done))))))))) [s.nx, s.nx + 2] (by kernel_rfl) (by kernel_rfl) fun K hK => ?_; refine dr (cj rTN (cj @dl_idf (cj @dl_ln @dl_one))) ?_; refine cont_pure pp ?_; refine dr (cj rTN (cj @dl_idf (cj @dl_ln @dl_one))) ?_; refine cont_pure pt ?_; refine dr (cj rTN (cj @dl_idf (cj @dl_ln @dl_one))) ?_; refine cont_pure p1 ?_; refine dr (cj rTN (cj @dl_idf (cj @dl_ln @dl_one))) ?_; refine hK _ _ ?_; clear hK K
    (first | refine go (cj rTN (cj @dl_idf (cj @dl_ln @dl_one))) ?_ | exact go0 (cj rTN (cj @dl_idf (cj @dl_ln @dl_one))))
    (repeat' refine And.intro ?_ ?_) <;> (first | done | exact rfl | (intro i hi; exact rn0 trivial; done) | (exact rn0 trivial; done) | skip)

theorem validN_m (m k : Int) (h : validN m k = true) : -999999999 ≤ m ∧ m ≤ 999999999 ∧ -18 ≤ k ∧ k ≤ 9 := by
  unfold validN at h
  split at h
  · simp only [Bool.and_eq_true, decide_eq_true_eq] at h; omega
  · simp only [Bool.and_eq_true, decide_eq_true_eq] at h; omega
theorem lz_tdiv (a b : Int) : lz (a.tdiv b) ≤ lz a := lz_le (by rw [Int.natAbs_tdiv]; exact Nat.div_le_self _ _)
theorem ofN_lz (m k : Int) (m1 : -9223372036854775808 ≤ m) (m2 : m ≤ 9223372036854775807) (k1 : -1000 ≤ k) (k2 : k ≤ 1000) : lz (ofN m k).1 ≤ 1100 ∧ lz (ofN m k).2 ≤ 1100 := by
  have lm := lz_small m m1 m2
  have l1 := lz_small 1 (by omega) (by omega)
  unfold ofN low
  split
  · have lp := lz_pow (-k).toNat
    split
    · simp only
      refine ⟨Nat.le_trans (lz_tdiv _ _) ?_, Nat.le_trans (lz_tdiv _ _) ?_⟩
      · rw [lz_neg]; omega
      · rw [lz_neg]; omega
    · simp only
      refine ⟨Nat.le_trans (lz_tdiv _ _) ?_, Nat.le_trans (lz_tdiv _ _) ?_⟩
      · omega
      · omega
  · have lp := lz_pow k.toNat
    exact ⟨Nat.le_trans (lz_mul m _) (by omega), by simp only; omega⟩
/-- What Value gives. -/
def valueN (m k : Int) : AV := if validN m k then .tp [WA (ofN m k).1 (ofN m k).2, .v (.int .i64 0)] else .tp [.ag [.v (.bool false), .v (.slice none 0 0), .v (.bool false), .v (.slice none 0 0)], .v (.int .i64 30)]
theorem valueN_ax (m k : Int) : PCall Tryz.prog 22 [NM m k] (valueN m k) := by
  refine pcall_of fun s => ?_
  refine acall_of Tryz.func22 rfl rfl (by simp [Tryz.ntmps22]) ?_; rw [Tryz.ntmps22, Tryz.results22]
  have p0 := valid_ax m k
  unfold valueN
  by_cases hv : validN m k = true
  · obtain ⟨m1, m2, k1, k2⟩ := validN_m m k hv
    have p1 := ofN_ax m k (by omega) (by omega) (by omega) (by omega)
    obtain ⟨l1, l2⟩ := ofN_lz m k (by omega) (by omega) (by omega) (by omega)
    have p2 := giveF_ax (ofN m k).1 (ofN m k).2 (by omega) (by omega)
    rw [if_pos hv]
    rw [hv] at p0
    generalize (ofN m k).1 = n at *
    generalize (ofN m k).2 = d at *
    unfold NM FA WA at *
    (first | refine go (cj rTW (cj @dl_idf (cj @dl_ln @dl_one))) ?_ | exact go0 (cj rTW (cj @dl_idf (cj @dl_ln @dl_one))))
    refine aw_reg fun K hK => ?_; refine rn (cj rTW (cj @dl_idf (cj @dl_ln @dl_one))) ?_; refine cont_pure p0 ?_; refine rn (cj rTW (cj @dl_idf (cj @dl_ln @dl_one))) ?_; refine hK _ _ ?_; clear hK K
    (try rw [then_normal]); (try refine aw_seq ?_); refine aw_cond rfl ?_ ?_ <;> intro hb <;> (try (cases hb; done)) <;> (try simp only [bq] at hb) <;> (try (exfalso; omega))
    (first | refine go (cj rTW (cj @dl_idf (cj @dl_ln @dl_one))) ?_ | exact go0 (cj rTW (cj @dl_idf (cj @dl_ln @dl_one))))
    refine aw_reg fun K hK => ?_; refine rn (cj rTW (cj @dl_idf (cj @dl_ln @dl_one))) ?_; refine cont_pure p1 ?_; (first | refine rn (cj rTW (cj @dl_idf (cj @dl_ln @dl_one))) ?_ | exact rn0 (cj rTW (cj @dl_idf (cj @dl_ln @dl_one)))); refine cont_pure p2 ?_; refine rn (cj rTW (cj @dl_idf (cj @dl_ln @dl_one))) ?_; refine hK _ _ ?_; clear hK K
    (first | refine go (cj rTW (cj @dl_idf (cj @dl_ln @dl_one))) ?_ | exact go0 (cj rTW (cj @dl_idf (cj @dl_ln @dl_one))))
    (repeat' refine And.intro ?_ ?_) <;> (first | done | exact rfl | (intro i hi; exact rn0 @wl_idf; done) | (exact rn0 @wl_idf; done) | skip)
  · have hv2 : validN m k = false := by simpa using hv
    rw [if_neg hv]
    rw [hv2] at p0
    unfold NM at *
    (first | refine go (cj rTW (cj @dl_idf (cj @dl_ln @dl_one))) ?_ | exact go0 (cj rTW (cj @dl_idf (cj @dl_ln @dl_one))))
    refine aw_reg fun K hK => ?_; refine rn (cj rTW (cj @dl_idf (cj @dl_ln @dl_one))) ?_; refine cont_pure p0 ?_; refine rn (cj rTW (cj @dl_idf (cj @dl_ln @dl_one))) ?_; refine hK _ _ ?_; clear hK K
    (try rw [then_normal]); (try refine aw_seq ?_); refine aw_cond rfl ?_ ?_ <;> intro hb <;> (try (cases hb; done)) <;> (try simp only [bq] at hb) <;> (try (exfalso; omega))
    (first | refine go (cj rTW (cj @dl_idf (cj @dl_ln @dl_one))) ?_ | exact go0 (cj rTW (cj @dl_idf (cj @dl_ln @dl_one))))
    (repeat' refine And.intro ?_ ?_) <;> (first | done | exact rfl | (intro i hi; exact rn0 trivial; done) | (exact rn0 trivial; done) | skip)
/-- What Cmp gives. -/
def cmpNN (m k m' k' : Int) : AV := if validN m k = true ∧ validN m' k' = true then .tp [.v (.int .i64 (sgn ((ofN m k).1 * (ofN m' k').2 - (ofN m' k').1 * (ofN m k).2))), .v (.int .i64 0)] else .tp [.v (.int .i64 0), .v (.int .i64 30)]
theorem cmpNN_ax (m k m' k' : Int) : PCall Tryz.prog 26 [NM m k, NM m' k'] (cmpNN m k m' k') := by
  refine pcall_of fun s => ?_
  refine acall_of Tryz.func26 rfl rfl (by simp [Tryz.ntmps26]) ?_; rw [Tryz.ntmps26, Tryz.results26]
  have p0 := valid_ax m k
  have p1 := valid_ax m' k'
  unfold cmpNN
  by_cases hv : validN m k = true
  · rw [hv] at p0
    by_cases hw : validN m' k' = true
    · rw [if_pos ⟨hv, hw⟩]
      rw [hw] at p1
      obtain ⟨m1, m2, k1, k2⟩ := validN_m m k hv
      obtain ⟨m3, m4, k3, k4⟩ := validN_m m' k' hw
      have p2 := ofN_ax m k (by omega) (by omega) (by omega) (by omega)
      have p3 := ofN_ax m' k' (by omega) (by omega) (by omega) (by omega)
      obtain ⟨l1, l2⟩ := ofN_lz m k (by omega) (by omega) (by omega) (by omega)
      obtain ⟨l3, l4⟩ := ofN_lz m' k' (by omega) (by omega) (by omega) (by omega)
      have p4 := heldF_ax (ofN m k).1 (ofN m k).2 (ofN m' k').1 (ofN m' k').2 (by omega) (by omega) (by omega) (by omega)
      generalize (ofN m k).1 = n at *
      generalize (ofN m k).2 = d at *
      generalize (ofN m' k').1 = n' at *
      generalize (ofN m' k').2 = d' at *
      unfold NM FA at *
      (first | refine go (cj rTW (cj @dl_idf (cj @dl_ln @dl_one))) ?_ | exact go0 (cj rTW (cj @dl_idf (cj @dl_ln @dl_one))))
      refine aw_reg fun K hK => ?_; refine rn (cj rTW (cj @dl_idf (cj @dl_ln @dl_one))) ?_; refine cont_pure p0 ?_; (first | refine rn (cj rTW (cj @dl_idf (cj @dl_ln @dl_one))) ?_ | exact rn0 (cj rTW (cj @dl_idf (cj @dl_ln @dl_one)))); refine cont_pure p1 ?_; refine rn (cj rTW (cj @dl_idf (cj @dl_ln @dl_one))) ?_; refine hK _ _ ?_; clear hK K
      (try rw [then_normal]); (try refine aw_seq ?_); refine aw_cond rfl ?_ ?_ <;> intro hb <;> (try (cases hb; done)) <;> (try simp only [bq] at hb) <;> (try (exfalso; omega))
      (first | refine go (cj rTW (cj @dl_idf (cj @dl_ln @dl_one))) ?_ | exact go0 (cj rTW (cj @dl_idf (cj @dl_ln @dl_one))))
      refine aw_drw (.take 0 (.take 2 (.one 1 (.one 3 (.one 4 (.take 5 (.take 6 (.done)))))))) [s.nx, s.nx + 1] (by kernel_rfl) (by kernel_rfl) fun K hK => ?_; refine dr (cj rTW (cj @dl_idf (cj @dl_ln @dl_one))) ?_; refine cont_pure p2 ?_; refine dr (cj rTW (cj @dl_idf (cj @dl_ln @dl_one))) ?_; refine cont_pure p3 ?_; refine dr (cj rTW (cj @dl_idf (cj @dl_ln @dl_one))) ?_; refine cont_pure p4 ?_; refine dr (cj rTW (cj @dl_idf (cj @dl_ln @dl_one))) ?_; refine hK _ _ ?_; clear hK K
      (first | refine go (cj rTW (cj @dl_idf (cj @dl_ln @dl_one))) ?_ | exact go0 (cj rTW (cj @dl_idf (cj @dl_ln @dl_one))))
      (repeat' refine And.intro ?_ ?_) <;> (first | done | exact rfl | (intro i hi; exact rn0 trivial; done) | (exact rn0 trivial; done) | skip)
    · have hw2 : validN m' k' = false := by simpa using hw
      rw [if_neg fun q => hw q.2]
      rw [hw2] at p1
      unfold NM at *
      (first | refine go (cj rTW (cj @dl_idf (cj @dl_ln @dl_one))) ?_ | exact go0 (cj rTW (cj @dl_idf (cj @dl_ln @dl_one))))
      refine aw_reg fun K hK => ?_; refine rn (cj rTW (cj @dl_idf (cj @dl_ln @dl_one))) ?_; refine cont_pure p0 ?_; (first | refine rn (cj rTW (cj @dl_idf (cj @dl_ln @dl_one))) ?_ | exact rn0 (cj rTW (cj @dl_idf (cj @dl_ln @dl_one)))); refine cont_pure p1 ?_; refine rn (cj rTW (cj @dl_idf (cj @dl_ln @dl_one))) ?_; refine hK _ _ ?_; clear hK K
      (try rw [then_normal]); (try refine aw_seq ?_); refine aw_cond rfl ?_ ?_ <;> intro hb <;> (try (cases hb; done)) <;> (try simp only [bq] at hb) <;> (try (exfalso; omega))
      (first | refine go (cj rTW (cj @dl_idf (cj @dl_ln @dl_one))) ?_ | exact go0 (cj rTW (cj @dl_idf (cj @dl_ln @dl_one))))
      (repeat' refine And.intro ?_ ?_) <;> (first | done | exact rfl | (intro i hi; exact rn0 trivial; done) | (exact rn0 trivial; done) | skip)
  · have hv2 : validN m k = false := by simpa using hv
    rw [if_neg fun q => hv q.1]
    rw [hv2] at p0
    unfold NM at *
    (first | refine go (cj rTW (cj @dl_idf (cj @dl_ln @dl_one))) ?_ | exact go0 (cj rTW (cj @dl_idf (cj @dl_ln @dl_one))))
    refine aw_reg fun K hK => ?_; refine rn (cj rTW (cj @dl_idf (cj @dl_ln @dl_one))) ?_; refine cont_pure p0 ?_; refine rn (cj rTW (cj @dl_idf (cj @dl_ln @dl_one))) ?_; refine hK _ _ ?_; clear hK K
    (try rw [then_normal]); (try refine aw_seq ?_); refine aw_cond rfl ?_ ?_ <;> intro hb <;> (try (cases hb; done)) <;> (try simp only [bq] at hb) <;> (try (exfalso; omega))
    (first | refine go (cj rTW (cj @dl_idf (cj @dl_ln @dl_one))) ?_ | exact go0 (cj rTW (cj @dl_idf (cj @dl_ln @dl_one))))
    (repeat' refine And.intro ?_ ?_) <;> (first | done | exact rfl | (intro i hi; exact rn0 trivial; done) | (exact rn0 trivial; done) | skip)

theorem low_pos (n d : Int) (hd : d ≠ 0) : 0 < (low n d).2 := by
  have hg : 0 < Nat.gcd n.natAbs d.natAbs := Nat.gcd_pos_of_pos_right _ (by omega)
  have hdv : Nat.gcd n.natAbs d.natAbs ∣ d.natAbs := Nat.gcd_dvd_right _ _
  have hq : 0 < d.natAbs / Nat.gcd n.natAbs d.natAbs := Nat.div_pos (Nat.le_of_dvd (by omega) hdv) hg
  have key : ∀ e : Int, 0 < e → e.natAbs = d.natAbs → 0 < e.tdiv (Nat.gcd n.natAbs d.natAbs : Nat) := by
    intro e he hea
    rw [show e = ((d.natAbs : Nat) : Int) by omega, ← Int.ofNat_tdiv]
    omega
  unfold low
  split
  · exact key (-d) (by omega) (by omega)
  · exact key d (by omega) rfl
theorem ofN_pos (m k : Int) : 0 < (ofN m k).2 := by
  unfold ofN
  split
  · refine low_pos _ _ ?_
    have : 0 < 10 ^ (-k).toNat := Nat.pow_pos (by decide)
    omega
  · simp only; omega
theorem billion_ax (a b : Int) (ha : lz a ≤ 68719476736) (hb' : lz b ≤ 68719476736) (h : b ≠ 0) : PCall Tryz.prog 75 [FA a b] (FA (low (a * 1000000000) (b * 1)).1 (low (a * 1000000000) (b * 1)).2) := by
  refine pcall_of fun s => ?_
  refine acall_of Tryz.func75 rfl rfl (by simp [Tryz.ntmps75]) ?_; rw [Tryz.ntmps75, Tryz.results75]
  have p0 := of_ax 1000000000 (by omega) (by omega)
  have l1 := lz_small 1000000000 (by omega) (by omega)
  have l2 := lz_small 1 (by omega) (by omega)
  have p1 := timesF_ax a b 1000000000 1 ha hb' (by omega) (by omega) (by omega)
  unfold FA at *
  (first | refine go (cj rTN (cj @dl_idf (cj @dl_ln @dl_one))) ?_ | exact go0 (cj rTN (cj @dl_idf (cj @dl_ln @dl_one))))
  refine aw_drw (.take 0 (.one 1 (.one 2 (.one 3 (.done))))) [s.nx] (by kernel_rfl) (by kernel_rfl) fun K hK => ?_; refine dr (cj rTN (cj @dl_idf (cj @dl_ln @dl_one))) ?_; refine cont_pure p0 ?_; refine dr (cj rTN (cj @dl_idf (cj @dl_ln @dl_one))) ?_; refine cont_pure p1 ?_; refine dr (cj rTN (cj @dl_idf (cj @dl_ln @dl_one))) ?_; refine hK _ _ ?_; clear hK K
  (first | refine go (cj rTN (cj @dl_idf (cj @dl_ln @dl_one))) ?_ | exact go0 (cj rTN (cj @dl_idf (cj @dl_ln @dl_one))))
  (repeat' refine And.intro ?_ ?_) <;> (first | done | exact rfl | (intro i hi; exact rn0 trivial; done) | (exact rn0 trivial; done) | skip)
/-- What Grid gives. -/
def gridN (m k : Int) : AV := if validN m k then gridF (low ((ofN m k).1 * 1000000000) ((ofN m k).2 * 1)).1 (low ((ofN m k).1 * 1000000000) ((ofN m k).2 * 1)).2 else .tp [.v (.int .i64 0), .v (.int .i64 30)]
theorem low_lz (n d : Int) : lz (low n d).1 ≤ lz n ∧ lz (low n d).2 ≤ lz d := by
  unfold low
  split
  · refine ⟨Nat.le_trans (lz_tdiv _ _) ?_, Nat.le_trans (lz_tdiv _ _) ?_⟩
    · rw [lz_neg]; omega
    · rw [lz_neg]; omega
  · simp only
    exact ⟨lz_tdiv _ _, lz_tdiv _ _⟩
theorem gridN_ax (m k : Int) : PCall Tryz.prog 24 [NM m k] (gridN m k) := by
  refine pcall_of fun s => ?_
  refine acall_of Tryz.func24 rfl rfl (by simp [Tryz.ntmps24]) ?_; rw [Tryz.ntmps24, Tryz.results24]
  have p0 := valid_ax m k
  unfold gridN
  by_cases hv : validN m k = true
  · obtain ⟨m1, m2, k1, k2⟩ := validN_m m k hv
    have p1 := ofN_ax m k (by omega) (by omega) (by omega) (by omega)
    obtain ⟨l1, l2⟩ := ofN_lz m k (by omega) (by omega) (by omega) (by omega)
    have hp := ofN_pos m k
    have p2 := billion_ax (ofN m k).1 (ofN m k).2 (by omega) (by omega) (by omega)
    rw [if_pos hv]
    rw [hv] at p0
    generalize (ofN m k).1 = n at *
    generalize (ofN m k).2 = d at *
    have hp2 := low_pos (n * 1000000000) (d * 1) (by omega)
    have l3 := low_lz (n * 1000000000) (d * 1)
    have l4 := lz_mul n 1000000000
    have l5 := lz_small 1000000000 (by omega) (by omega)
    have l6 := lz_mul d 1
    have l7 := lz_small 1 (by omega) (by omega)
    have p3 := gridF_ax (low (n * 1000000000) (d * 1)).1 (low (n * 1000000000) (d * 1)).2 hp2 (by omega) (by omega)
    generalize (low (n * 1000000000) (d * 1)).1 = n' at *
    generalize (low (n * 1000000000) (d * 1)).2 = d' at *
    unfold gridF at p3 ⊢
    unfold NM FA at *
    by_cases hc : -1000000000000000000 ≤ near n' d' ∧ near n' d' ≤ 1000000000000000000
    · rw [if_pos hc] at p3 ⊢
      (first | refine go (cj rTN (cj @dl_idf (cj @dl_ln @dl_one))) ?_ | exact go0 (cj rTN (cj @dl_idf (cj @dl_ln @dl_one))))
      refine aw_reg fun K hK => ?_; refine rn (cj rTN (cj @dl_idf (cj @dl_ln @dl_one))) ?_; refine cont_pure p0 ?_; refine rn (cj rTN (cj @dl_idf (cj @dl_ln @dl_one))) ?_; refine hK _ _ ?_; clear hK K
      (try rw [then_normal]); (try refine aw_seq ?_); refine aw_cond rfl ?_ ?_ <;> intro hb <;> (try (cases hb; done)) <;> (try simp only [bq] at hb) <;> (try (exfalso; omega))
      (first | refine go (cj rTN (cj @dl_idf (cj @dl_ln @dl_one))) ?_ | exact go0 (cj rTN (cj @dl_idf (cj @dl_ln @dl_one))))
      refine aw_reg fun K hK => ?_; refine rn (cj rTN (cj @dl_idf (cj @dl_ln @dl_one))) ?_; refine cont_pure p1 ?_; (first | refine rn (cj rTN (cj @dl_idf (cj @dl_ln @dl_one))) ?_ | exact rn0 (cj rTN (cj @dl_idf (cj @dl_ln @dl_one)))); refine cont_pure p2 ?_; (first | refine rn (cj rTN (cj @dl_idf (cj @dl_ln @dl_one))) ?_ | exact rn0 (cj rTN (cj @dl_idf (cj @dl_ln @dl_one)))); refine cont_pure p3 ?_; refine rn (cj rTN (cj @dl_idf (cj @dl_ln @dl_one))) ?_; refine hK _ _ ?_; clear hK K
      (first | refine go (cj rTN (cj @dl_idf (cj @dl_ln @dl_one))) ?_ | exact go0 (cj rTN (cj @dl_idf (cj @dl_ln @dl_one))))
      (repeat' refine And.intro ?_ ?_) <;> (first | done | exact rfl | (intro i hi; exact rn0 trivial; done) | (exact rn0 trivial; done) | skip)
    · rw [if_neg hc] at p3 ⊢
      (first | refine go (cj rTN (cj @dl_idf (cj @dl_ln @dl_one))) ?_ | exact go0 (cj rTN (cj @dl_idf (cj @dl_ln @dl_one))))
      refine aw_reg fun K hK => ?_; refine rn (cj rTN (cj @dl_idf (cj @dl_ln @dl_one))) ?_; refine cont_pure p0 ?_; refine rn (cj rTN (cj @dl_idf (cj @dl_ln @dl_one))) ?_; refine hK _ _ ?_; clear hK K
      (try rw [then_normal]); (try refine aw_seq ?_); refine aw_cond rfl ?_ ?_ <;> intro hb <;> (try (cases hb; done)) <;> (try simp only [bq] at hb) <;> (try (exfalso; omega))
      (first | refine go (cj rTN (cj @dl_idf (cj @dl_ln @dl_one))) ?_ | exact go0 (cj rTN (cj @dl_idf (cj @dl_ln @dl_one))))
      refine aw_reg fun K hK => ?_; refine rn (cj rTN (cj @dl_idf (cj @dl_ln @dl_one))) ?_; refine cont_pure p1 ?_; (first | refine rn (cj rTN (cj @dl_idf (cj @dl_ln @dl_one))) ?_ | exact rn0 (cj rTN (cj @dl_idf (cj @dl_ln @dl_one)))); refine cont_pure p2 ?_; (first | refine rn (cj rTN (cj @dl_idf (cj @dl_ln @dl_one))) ?_ | exact rn0 (cj rTN (cj @dl_idf (cj @dl_ln @dl_one)))); refine cont_pure p3 ?_; refine rn (cj rTN (cj @dl_idf (cj @dl_ln @dl_one))) ?_; refine hK _ _ ?_; clear hK K
      (first | refine go (cj rTN (cj @dl_idf (cj @dl_ln @dl_one))) ?_ | exact go0 (cj rTN (cj @dl_idf (cj @dl_ln @dl_one))))
      (repeat' refine And.intro ?_ ?_) <;> (first | done | exact rfl | (intro i hi; exact rn0 trivial; done) | (exact rn0 trivial; done) | skip)
  · have hv2 : validN m k = false := by simpa using hv
    rw [if_neg hv]
    rw [hv2] at p0
    unfold NM at *
    (first | refine go (cj rTN (cj @dl_idf (cj @dl_ln @dl_one))) ?_ | exact go0 (cj rTN (cj @dl_idf (cj @dl_ln @dl_one))))
    refine aw_reg fun K hK => ?_; refine rn (cj rTN (cj @dl_idf (cj @dl_ln @dl_one))) ?_; refine cont_pure p0 ?_; refine rn (cj rTN (cj @dl_idf (cj @dl_ln @dl_one))) ?_; refine hK _ _ ?_; clear hK K
    (try rw [then_normal]); (try refine aw_seq ?_); refine aw_cond rfl ?_ ?_ <;> intro hb <;> (try (cases hb; done)) <;> (try simp only [bq] at hb) <;> (try (exfalso; omega))
    (first | refine go (cj rTN (cj @dl_idf (cj @dl_ln @dl_one))) ?_ | exact go0 (cj rTN (cj @dl_idf (cj @dl_ln @dl_one))))
    (repeat' refine And.intro ?_ ?_) <;> (first | done | exact rfl | (intro i hi; exact rn0 trivial; done) | (exact rn0 trivial; done) | skip)
end Go.Proofs.YtfjelkjlfcafgaaGreatDoor.RefM
end
section
/- Package num: Valid, frac, Value, Grid, Cmp: what they give is what the document's give. -/
namespace Go.Proofs.YtfjelkjlfcafgaaGreatDoor.NumA
open Go Go.RowKit Go.Proofs.YtfjelkjlfcafgaaGreatDoor.Ax Go.Proofs.YtfjelkjlfcafgaaGreatDoor.Ti Go.Proofs.YtfjelkjlfcafgaaGreatDoor.BigM Go.Proofs.YtfjelkjlfcafgaaGreatDoor.BigN Go.Proofs.YtfjelkjlfcafgaaGreatDoor.BigA Go.Proofs.YtfjelkjlfcafgaaGreatDoor.BigB Go.Proofs.YtfjelkjlfcafgaaGreatDoor.BigL Go.Proofs.YtfjelkjlfcafgaaGreatDoor.BigF Go.Proofs.YtfjelkjlfcafgaaGreatDoor.BigI Go.Proofs.YtfjelkjlfcafgaaGreatDoor.BigJ Go.Proofs.YtfjelkjlfcafgaaGreatDoor.BigP Go.Proofs.YtfjelkjlfcafgaaGreatDoor.BigQ Go.Proofs.YtfjelkjlfcafgaaGreatDoor.BigR Go.Proofs.YtfjelkjlfcafgaaGreatDoor.BigS Go.Proofs.YtfjelkjlfcafgaaGreatDoor.BigT Go.Proofs.YtfjelkjlfcafgaaGreatDoor.BigU
set_option linter.unusedSimpArgs false
set_option linter.unusedVariables false
set_option maxRecDepth 4000
set_option maxHeartbeats 2000000
theorem rTI : type_of% (cj @ti41 (cj @ti35 (cj @ti165 (cj @ti198 (cj @ti3 (cj @ti2 (cj @ti4 (cj @ti176 (cj @ti178 (cj @ti43 (cj @ti45 (cj @ti186 (cj @ti25 @ti24))))))))))))) := cj @ti41 (cj @ti35 (cj @ti165 (cj @ti198 (cj @ti3 (cj @ti2 (cj @ti4 (cj @ti176 (cj @ti178 (cj @ti43 (cj @ti45 (cj @ti186 (cj @ti25 @ti24))))))))))))

def NM (m k : Int) : AV := .ag [.v (.int .i64 m), .v (.int .i64 k)]
def validN (m k : Int) : Bool := RefM.validN m k
theorem validN_def (m k : Int) : validN m k = if m.tmod 10 = 0 then decide (m = 0) && decide (k = 0) else decide (m ≤ 999999999) && decide (-999999999 ≤ m) && decide (k ≤ 9) && decide (-18 ≤ k) := rfl
theorem valid_ax (m k : Int) : PCall Tryz.prog 18 [NM m k] (.v (.bool (validN m k))) := by
  refine pcall_of fun s => ?_
  have hv := validN_def m k
  unfold NM
  refine acall_of Tryz.func18 rfl rfl (by simp [Tryz.ntmps18]) ?_; rw [Tryz.ntmps18, Tryz.results18]
  by_cases q0 : m = 0
  · subst q0
    rw [if_pos (by decide)] at hv
    by_cases q1 : k = 0
    · rw [show validN 0 k = true by rw [hv]; simp [q1]]
      (first | refine go (cj rTI (cj @wl_idf @wl_one)) ?_ | exact go0 (cj rTI (cj @wl_idf @wl_one)))
      (try rw [then_normal]); (try refine aw_seq ?_); refine aw_cond rfl ?_ ?_ <;> intro hb <;> (try (cases hb; done)) <;> (try simp only [bq] at hb) <;> (try (exfalso; omega))
      (first | refine go (cj rTI (cj @wl_idf @wl_one)) ?_ | exact go0 (cj rTI (cj @wl_idf @wl_one)))
      exact fun i hi => if_neg (by omega)
    · rw [show validN 0 k = false by rw [hv]; simp [q1]]
      (first | refine go (cj rTI (cj @wl_idf @wl_one)) ?_ | exact go0 (cj rTI (cj @wl_idf @wl_one)))
      (try rw [then_normal]); (try refine aw_seq ?_); refine aw_cond rfl ?_ ?_ <;> intro hb <;> (try (cases hb; done)) <;> (try simp only [bq] at hb) <;> (try (exfalso; omega))
      (first | refine go (cj rTI (cj @wl_idf @wl_one)) ?_ | exact go0 (cj rTI (cj @wl_idf @wl_one)))
      exact fun i hi => if_neg (by omega)
  · by_cases c1 : -999999999 ≤ m
    · by_cases c2 : m ≤ 999999999
      · by_cases c3 : m.tmod 10 = 0
        · have h2 : (m.tmod 10 != 0) = false := by rw [c3]; rfl
          rw [show validN m k = false by rw [hv, if_pos c3]; simp [q0]]
          clear hv c3
          (first | refine go (cj rTI (cj @wl_idf @wl_one)) ?_ | exact go0 (cj rTI (cj @wl_idf @wl_one)))
          (try rw [then_normal]); (try refine aw_seq ?_); refine aw_cond rfl ?_ ?_ <;> intro hb <;> (try (cases hb; done)) <;> (try simp only [bq] at hb) <;> (try (exfalso; omega))
          (first | refine go (cj rTI (cj @wl_idf (cj @wl_one @h2))) ?_ | exact go0 (cj rTI (cj @wl_idf (cj @wl_one @h2))))
          exact fun i hi => if_neg (by omega)
        · have h2 : (m.tmod 10 != 0) = true := bne_iff_ne.2 c3
          rw [if_neg c3] at hv
          clear c3
          by_cases c4 : -18 ≤ k
          · by_cases c5 : k ≤ 9
            · rw [show validN m k = true by rw [hv]; simp [c1, c2, c4, c5]]
              clear hv
              (first | refine go (cj rTI (cj @wl_idf @wl_one)) ?_ | exact go0 (cj rTI (cj @wl_idf @wl_one)))
              (try rw [then_normal]); (try refine aw_seq ?_); refine aw_cond rfl ?_ ?_ <;> intro hb <;> (try (cases hb; done)) <;> (try simp only [bq] at hb) <;> (try (exfalso; omega))
              (first | refine go (cj rTI (cj @wl_idf (cj @wl_one @h2))) ?_ | exact go0 (cj rTI (cj @wl_idf (cj @wl_one @h2))))
              exact fun i hi => if_neg (by omega)
            · rw [show validN m k = false by rw [hv]; simp [c5]]
              clear hv
              (first | refine go (cj rTI (cj @wl_idf @wl_one)) ?_ | exact go0 (cj rTI (cj @wl_idf @wl_one)))
              (try rw [then_normal]); (try refine aw_seq ?_); refine aw_cond rfl ?_ ?_ <;> intro hb <;> (try (cases hb; done)) <;> (try simp only [bq] at hb) <;> (try (exfalso; omega))
              (first | refine go (cj rTI (cj @wl_idf (cj @wl_one @h2))) ?_ | exact go0 (cj rTI (cj @wl_idf (cj @wl_one @h2))))
              exact fun i hi => if_neg (by omega)
          · rw [show validN m k = false by rw [hv]; simp [c4]]
            clear hv
            (first | refine go (cj rTI (cj @wl_idf @wl_one)) ?_ | exact go0 (cj rTI (cj @wl_idf @wl_one)))
            (try rw [then_normal]); (try refine aw_seq ?_); refine aw_cond rfl ?_ ?_ <;> intro hb <;> (try (cases hb; done)) <;> (try simp only [bq] at hb) <;> (try (exfalso; omega))
            (first | refine go (cj rTI (cj @wl_idf (cj @wl_one @h2))) ?_ | exact go0 (cj rTI (cj @wl_idf (cj @wl_one @h2))))
            exact fun i hi => if_neg (by omega)
      · rw [show validN m k = false by rw [hv]; simp [c2, q0]]
        clear hv
        (first | refine go (cj rTI (cj @wl_idf @wl_one)) ?_ | exact go0 (cj rTI (cj @wl_idf @wl_one)))
        (try rw [then_normal]); (try refine aw_seq ?_); refine aw_cond rfl ?_ ?_ <;> intro hb <;> (try (cases hb; done)) <;> (try simp only [bq] at hb) <;> (try (exfalso; omega))
        (first | refine go (cj rTI (cj @wl_idf @wl_one)) ?_ | exact go0 (cj rTI (cj @wl_idf @wl_one)))
        exact fun i hi => if_neg (by omega)
    · rw [show validN m k = false by rw [hv]; simp [c1, q0]]
      clear hv
      (first | refine go (cj rTI (cj @wl_idf @wl_one)) ?_ | exact go0 (cj rTI (cj @wl_idf @wl_one)))
      (try rw [then_normal]); (try refine aw_seq ?_); refine aw_cond rfl ?_ ?_ <;> intro hb <;> (try (cases hb; done)) <;> (try simp only [bq] at hb) <;> (try (exfalso; omega))
      (first | refine go (cj rTI (cj @wl_idf @wl_one)) ?_ | exact go0 (cj rTI (cj @wl_idf @wl_one)))
      exact fun i hi => if_neg (by omega)
/-- A number as a fraction. -/
theorem ofN_def (m k : Int) : RefM.ofN m k = if k < 0 then low m ((10 ^ (-k).toNat : Nat) : Int) else (m * ((10 ^ k.toNat : Nat) : Int), 1) := rfl
theorem low_one (x : Int) : low x 1 = (x, 1) := by
  unfold low
  simp
theorem pow_lw (k : Nat) (hk : k ≤ 100) : lw ((10 ^ k : Nat) : Int).natAbs ≤ 101 := by
  rw [Int.natAbs_natCast]
  exact Nat.le_trans (ten_lw k) (by omega)
theorem frac_ax (s : St) (m k : Int) (m1 : -9223372036854775808 ≤ m) (m2 : m ≤ 9223372036854775807) (k1 : -100 ≤ k) (k2 : k ≤ 100) :
    ACall Tryz.prog 68 [NM m k] s fun r s' => ∃ id, r = .ptr id 0 ∧ NewR s s' id (RefM.ofN m k).1 (RefM.ofN m k).2 := by
  have hdef := ofN_def m k
  unfold NM
  have p0 : (s.push [.v (.int .i64 m), .v (.int .i64 k)]).get s.nx = some [.v (.int .i64 m), .v (.int .i64 k)] := St.push_same _ _
  have pn : (s.push [.v (.int .i64 m), .v (.int .i64 k)]).nx = s.nx + 1 := rfl
  have po : ∀ i, i < s.nx → (s.push [.v (.int .i64 m), .v (.int .i64 k)]).get i = s.get i := fun i hi => St.push_ne _ _ _ (by omega)
  have lm : lw m.natAbs ≤ 2 := (lw_two _).2 (by omega)
  obtain ⟨K0, hK0⟩ : ∃ K0 : Nat, K0 = k.natAbs := ⟨_, rfl⟩
  have hmax : (if -k > k then -k else k) = (K0 : Int) := by split <;> omega
  have lp := pow_lw K0 (by omega)
  refine acall_of Tryz.func68 rfl rfl (by simp [Tryz.ntmps68]) ?_; rw [Tryz.ntmps68, Tryz.results68]
  (first | refine go (cj rTI (cj @wl_idf @wl_one)) ?_ | exact go0 (cj rTI (cj @wl_idf @wl_one)))
  generalize s.push [.v (.int .i64 m), .v (.int .i64 k)] = t at *
  have c1 := ten_ax t K0 (by omega)
  refine aw_reg fun K hK => ?_; refine rn (cj rTI (cj @wl_idf (cj @wl_one (cj @p0 (cj @hmax @Int.zero_sub))))) ?_; refine cont_go c1 ?_; rintro _ s1 ⟨i1, rfl, w1⟩; refine rn (cj rTI (cj @wl_idf (cj @wl_one (cj @p0 (cj @hmax @Int.zero_sub))))) ?_; refine hK _ _ ?_; clear hK K
  clear hmax
  rw [then_normal]
  have n1 := w1.nx
  have l1 := w1.lo
  have h1 := w1.lt
  have p1 : s1.get s.nx = some [.v (.int .i64 m), .v (.int .i64 k)] := by rw [w1.fr _ (by omega)]; exact p0
  have c2 := newInt_ax s1 m m1 m2
  by_cases q : k < 0
  · rw [if_pos q, show (-k).toNat = K0 by omega] at hdef
    rw [hdef]
    (first | refine go (cj rTI (cj @wl_idf (cj @wl_one @p1))) ?_ | exact go0 (cj rTI (cj @wl_idf (cj @wl_one @p1))))
    (try rw [then_normal]); (try refine aw_seq ?_); refine aw_cond rfl ?_ ?_ <;> intro hb <;> (try (cases hb; done)) <;> (try simp only [bq] at hb) <;> (try (exfalso; omega))
    refine aw_seq ?_
    have hne : ((10 ^ K0 : Nat) : Int) ≠ 0 := by
      have := Nat.pow_pos (n := K0) (show 0 < 10 by decide)
      omega
    refine aw_reg fun K hK => ?_; refine rn (cj rTI (cj @wl_idf (cj @wl_one @p1))) ?_; refine cont_go c2 ?_; rintro _ s2 ⟨i2, rfl, w2⟩; have n2 := w2.nx; (first | refine rn (cj rTI (cj @wl_idf @wl_one)) ?_ | exact rn0 (cj rTI (cj @wl_idf @wl_one))); refine cont_go (newRat_frac s2 i2 0 i1 0 m _ w2.rdP (w2.otherR w1.rdP) hne (by omega) (by omega)) ?_; rintro _ s3 ⟨i3, rfl, w3⟩; refine rn (cj rTI (cj @wl_idf (cj @wl_one @p1))) ?_; refine hK _ _ ?_; clear hK K
    (first | refine go trivial ?_ | exact go0 trivial)
    have l3 := w3.lo
    exact ⟨i3, rfl, by omega, w3.lt, w3.g, fun i hi => by rw [w3.fr i (by omega), w2.fr i (by omega), w1.fr i (by omega), po i hi]⟩
  · rw [if_neg q, show k.toNat = K0 by omega] at hdef
    rw [hdef]
    (first | refine go (cj rTI (cj @wl_idf (cj @wl_one @p1))) ?_ | exact go0 (cj rTI (cj @wl_idf (cj @wl_one @p1))))
    (try rw [then_normal]); (try refine aw_seq ?_); refine aw_cond rfl ?_ ?_ <;> intro hb <;> (try (cases hb; done)) <;> (try simp only [bq] at hb) <;> (try (exfalso; omega))
    (first | refine go trivial ?_ | exact go0 trivial)
    refine aw_reg fun K hK => ?_
    (first | refine rn (cj rTI (cj @wl_idf (cj @wl_one @p1))) ?_ | exact rn0 (cj rTI (cj @wl_idf (cj @wl_one @p1))))
    refine cont_go c2 ?_
    rintro _ s2 ⟨i2, rfl, w2⟩
    have n2 := w2.nx
    have l2 := w2.lo
    have lmul : lw (((10 ^ K0 : Nat) : Int) * m).natAbs ≤ 1000000000000 := by
      rw [Int.natAbs_mul]
      exact Nat.le_trans (lw_mul _ _) (by omega)
    have c3 := mul_ax s2 i1 i1 0 i2 0 _ m (w2.otherD w1.dst) (w2.otherR w1.rdP) w2.rdP (by omega)
    (first | refine rn (cj rTI (cj @wl_idf @wl_one)) ?_ | exact rn0 (cj rTI (cj @wl_idf @wl_one)))
    refine cont_go c3 ?_
    rintro _ s3 ⟨rfl, w3⟩
    have n3 := w3.nx
    (first | refine rn (cj rTI (cj @wl_idf @wl_one)) ?_ | exact rn0 (cj rTI (cj @wl_idf @wl_one)))
    refine cont_go (newInt_ax s3 1 (by decide) (by decide)) ?_
    rintro _ s4 ⟨i4, rfl, w4⟩
    have n4 := w4.nx
    have c5 := newRat_frac s4 i1 0 i4 0 _ 1 (w4.otherR w3.rdP) w4.rdP (by decide) lmul (Nat.le_trans (pow_lw 0 (by decide)) (by decide))
    rw [low_one, Int.mul_comm _ m] at c5
    (first | refine rn (cj rTI (cj @wl_idf @wl_one)) ?_ | exact rn0 (cj rTI (cj @wl_idf @wl_one)))
    refine cont_go c5 ?_
    rintro _ s5 ⟨i5, rfl, w5⟩
    (first | refine rn (cj rTI (cj @wl_idf @wl_one)) ?_ | exact rn0 (cj rTI (cj @wl_idf @wl_one)))
    refine hK _ _ ?_
    clear hK K
    (first | refine go trivial ?_ | exact go0 trivial)
    have l5 := w5.lo
    exact ⟨i5, rfl, by omega, w5.lt, w5.g, fun i hi => by rw [w5.fr i (by omega), w4.fr i (by omega), w3.fr i (by omega) (by omega), w2.fr i (by omega), w1.fr i (by omega), po i hi]⟩
end Go.Proofs.YtfjelkjlfcafgaaGreatDoor.NumA
end
section
/- Package num: Value, Grid, Cmp: what they give is what the document's give. -/
namespace Go.Proofs.YtfjelkjlfcafgaaGreatDoor.NumB
open Go Go.RowKit Go.Proofs.YtfjelkjlfcafgaaGreatDoor.Ax Go.Proofs.YtfjelkjlfcafgaaGreatDoor.Ti Go.Proofs.YtfjelkjlfcafgaaGreatDoor.BigM Go.Proofs.YtfjelkjlfcafgaaGreatDoor.BigN Go.Proofs.YtfjelkjlfcafgaaGreatDoor.BigA Go.Proofs.YtfjelkjlfcafgaaGreatDoor.BigB Go.Proofs.YtfjelkjlfcafgaaGreatDoor.BigL Go.Proofs.YtfjelkjlfcafgaaGreatDoor.BigF Go.Proofs.YtfjelkjlfcafgaaGreatDoor.BigI Go.Proofs.YtfjelkjlfcafgaaGreatDoor.BigJ Go.Proofs.YtfjelkjlfcafgaaGreatDoor.BigP Go.Proofs.YtfjelkjlfcafgaaGreatDoor.BigQ Go.Proofs.YtfjelkjlfcafgaaGreatDoor.BigR Go.Proofs.YtfjelkjlfcafgaaGreatDoor.BigS Go.Proofs.YtfjelkjlfcafgaaGreatDoor.BigT Go.Proofs.YtfjelkjlfcafgaaGreatDoor.BigU Go.Proofs.YtfjelkjlfcafgaaGreatDoor.NumA
set_option linter.unusedSimpArgs false
set_option linter.unusedVariables false
set_option maxRecDepth 4000
set_option maxHeartbeats 2000000
theorem rTI : type_of% (cj @ti41 (cj @ti35 (cj @ti165 (cj @ti198 (cj @ti3 (cj @ti2 (cj @ti4 (cj @ti176 (cj @ti178 (cj @ti43 (cj @ti45 (cj @ti186 (cj @ti25 @ti24))))))))))))) := cj @ti41 (cj @ti35 (cj @ti165 (cj @ti198 (cj @ti3 (cj @ti2 (cj @ti4 (cj @ti176 (cj @ti178 (cj @ti43 (cj @ti45 (cj @ti186 (cj @ti25 @ti24))))))))))))

theorem lw_abs_mul (a b : Int) (i j : Nat) (h1 : lw a.natAbs ≤ i) (h2 : lw b.natAbs ≤ j) : lw (a * b).natAbs ≤ i + j := by
  rw [Int.natAbs_mul]
  exact Nat.le_trans (lw_mul _ _) (by omega)
theorem ofN_lw (m k : Int) (m1 : -9223372036854775808 ≤ m) (m2 : m ≤ 9223372036854775807) (k1 : -100 ≤ k) (k2 : k ≤ 100) : lw (RefM.ofN m k).1.natAbs ≤ 103 ∧ lw (RefM.ofN m k).2.natAbs ≤ 103 := by
  have lm : lw m.natAbs ≤ 2 := (lw_two _).2 (by omega)
  rw [ofN_def]
  by_cases q : k < 0
  · rw [if_pos q]
    have h := low_lw m ((10 ^ (-k).toNat : Nat) : Int)
    have h2 := pow_lw (-k).toNat (by omega)
    omega
  · rw [if_neg q]
    have h2 := pow_lw k.toNat (by omega)
    refine ⟨by have := lw_abs_mul m _ 2 101 lm h2; omega, Nat.le_trans (pow_lw 0 (by decide)) (by decide)⟩
theorem pow_lw2 (k : Nat) (hk : k ≤ 18) : lw ((10 ^ k : Nat) : Int).natAbs ≤ 19 := by
  rw [Int.natAbs_natCast]
  exact Nat.le_trans (ten_lw k) (by omega)
theorem ofN_lw2 (m k : Int) (m1 : -999999999 ≤ m) (m2 : m ≤ 999999999) (k1 : -18 ≤ k) (k2 : k ≤ 9) : lw (RefM.ofN m k).1.natAbs ≤ 21 ∧ lw (RefM.ofN m k).2.natAbs ≤ 21 := by
  have lm : lw m.natAbs ≤ 2 := (lw_two _).2 (by omega)
  rw [ofN_def]
  by_cases q : k < 0
  · rw [if_pos q]
    have h := low_lw m ((10 ^ (-k).toNat : Nat) : Int)
    have h2 := pow_lw2 (-k).toNat (by omega)
    omega
  · rw [if_neg q]
    have h2 := pow_lw2 k.toNat (by omega)
    refine ⟨by have := lw_abs_mul m _ 2 19 lm h2; omega, Nat.le_trans (pow_lw2 0 (by decide)) (by decide)⟩
theorem wa_eq (n d : Int) : RefK.WA n d = .ag (RC n d) := rfl
theorem valueN_eq (m k : Int) : RefM.valueN m k = if validN m k = true then .tp [.ag (RC (RefM.ofN m k).1 (RefM.ofN m k).2), .v (.int .i64 0)] else .tp [.ag [.v (.bool false), .v (.slice none 0 0), .v (.bool false), .v (.slice none 0 0)], .v (.int .i64 30)] := rfl
theorem validN_m (m k : Int) (h : validN m k = true) : -999999999 ≤ m ∧ m ≤ 999999999 ∧ -18 ≤ k ∧ k ≤ 9 := RefM.validN_m m k h
theorem value_ax (m k : Int) : PCall Tryz.prog 21 [NM m k] (RefM.valueN m k) := by
  refine pcall_of fun s => ?_
  have hv := valid_ax m k
  have he := valueN_eq m k
  unfold NM at hv ⊢
  by_cases q : validN m k = true
  · rw [if_pos q] at he
    rw [q] at hv
    rw [he]
    obtain ⟨m1, m2, k1, k2⟩ := validN_m m k q
    have hl := ofN_lw m k (by omega) (by omega) (by omega) (by omega)
    have hp := RefM.ofN_pos m k
    have hf := fun s => frac_ax s m k (by omega) (by omega) (by omega) (by omega)
    unfold NM at hf
    clear he
    generalize (RefM.ofN m k).1 = n at *
    generalize (RefM.ofN m k).2 = d at *
    rw [rc_eq]
    refine acall_of Tryz.func21 rfl rfl (by simp [Tryz.ntmps21]) ?_; rw [Tryz.ntmps21, Tryz.results21]
    (first | refine go (cj rTI (cj @wl_idf @wl_one)) ?_ | exact go0 (cj rTI (cj @wl_idf @wl_one)))
    refine aw_reg fun K hK => ?_; refine rn (cj rTI (cj @wl_idf @wl_one)) ?_; refine cont_pure hv ?_; refine rn (cj rTI (cj @wl_idf @wl_one)) ?_; refine hK _ _ ?_; clear hK K
    rw [then_normal]
    (try rw [then_normal]); (try refine aw_seq ?_); refine aw_cond rfl ?_ ?_ <;> intro hb <;> (try (cases hb; done)) <;> (try simp only [bq] at hb) <;> (try (exfalso; omega))
    (first | refine go trivial ?_ | exact go0 trivial)
    refine aw_reg fun K hK => ?_
    (first | refine rn (cj rTI (cj @wl_idf @wl_one)) ?_ | exact rn0 (cj rTI (cj @wl_idf @wl_one)))
    refine cont_go (hf _) ?_
    rintro _ s1 ⟨i1, rfl, w1⟩
    (first | refine rn (cj rTI (cj @wl_idf @wl_one)) ?_ | exact rn0 (cj rTI (cj @wl_idf @wl_one)))
    refine cont_go (fracW_ax s1 i1 n d w1.rat hp (by omega) (by omega)) ?_
    rintro _ s2 ⟨rfl, rfl⟩
    have l1 := w1.lo
    have l1' : s.nx + 1 + 1 ≤ i1 := l1
    have g2 : s2.get (s.nx + 1) = some [.v (.bool false), .v (.slice none 0 0), .v (.bool false), .v (.slice none 0 0)] := by
      rw [w1.fr _ (by show s.nx + 1 < s.nx + 1 + 1; omega)]
      exact St.push_same _ _
    rw [rc_eq]
    (first | refine rn (cj rTI (cj @wl_idf (cj @wl_one @g2))) ?_ | exact rn0 (cj rTI (cj @wl_idf (cj @wl_one @g2))))
    refine hK _ _ ?_
    clear hK K
    (first | refine go (cj rTI (cj @wl_idf @wl_one)) ?_ | exact go0 (cj rTI (cj @wl_idf @wl_one)))
    intro i hi
    rw [if_neg (by omega), w1.fr i (by show i < s.nx + 1 + 1; omega), two_old s _ _ i hi]
  · have q' : validN m k = false := by simpa using q
    rw [if_neg q] at he
    rw [q'] at hv
    rw [he]
    refine acall_of Tryz.func21 rfl rfl (by simp [Tryz.ntmps21]) ?_; rw [Tryz.ntmps21, Tryz.results21]
    (first | refine go (cj rTI (cj @wl_idf @wl_one)) ?_ | exact go0 (cj rTI (cj @wl_idf @wl_one)))
    refine aw_reg fun K hK => ?_; refine rn (cj rTI (cj @wl_idf @wl_one)) ?_; refine cont_pure hv ?_; refine rn (cj rTI (cj @wl_idf @wl_one)) ?_; refine hK _ _ ?_; clear hK K
    rw [then_normal]
    (try rw [then_normal]); (try refine aw_seq ?_); refine aw_cond rfl ?_ ?_ <;> intro hb <;> (try (cases hb; done)) <;> (try simp only [bq] at hb) <;> (try (exfalso; omega))
    (first | refine go (cj rTI (cj @wl_idf @wl_one)) ?_ | exact go0 (cj rTI (cj @wl_idf @wl_one)))
    exact fun i hi => by rw [if_neg (by omega), if_neg (by omega)]
theorem cmpNN_eq (m k m' k' : Int) : RefM.cmpNN m k m' k' = if validN m k = true ∧ validN m' k' = true then .tp [.v (.int .i64 (sgn ((RefM.ofN m k).1 * (RefM.ofN m' k').2 - (RefM.ofN m' k').1 * (RefM.ofN m k).2))), .v (.int .i64 0)] else .tp [.v (.int .i64 0), .v (.int .i64 30)] := rfl
theorem gridN_eq (m k : Int) : RefM.gridN m k = if validN m k = true then gridV (near (low ((RefM.ofN m k).1 * 1000000000) ((RefM.ofN m k).2 * 1)).1 (low ((RefM.ofN m k).1 * 1000000000) ((RefM.ofN m k).2 * 1)).2) else .tp [.v (.int .i64 0), .v (.int .i64 30)] := rfl
theorem low_pos (n d : Int) (hd : d ≠ 0) : 0 < (low n d).2 := RefM.low_pos n d hd
theorem low_one' (n d : Int) (hd : d ≠ 0) : Nat.gcd (low n d).1.natAbs (low n d).2.natAbs = 1 := by
  have hg : 0 < Nat.gcd n.natAbs d.natAbs := Nat.gcd_pos_of_pos_right _ (by omega)
  have key : Nat.gcd (n.natAbs / Nat.gcd n.natAbs d.natAbs) (d.natAbs / Nat.gcd n.natAbs d.natAbs) = 1 := by
    rw [Nat.gcd_div (Nat.gcd_dvd_left _ _) (Nat.gcd_dvd_right _ _), Nat.div_self hg]
  unfold low
  split
  · simp only [Int.natAbs_tdiv, Int.natAbs_neg, Int.natAbs_natCast]
    exact key
  · simp only [Int.natAbs_tdiv, Int.natAbs_natCast]
    exact key
theorem gridN_cases (z : Int) : ∃ a b : Int, gridV z = .tp [.v (.int .i64 a), .v (.int .i64 b)] := gridV_cases z
theorem grid_ax (m k : Int) : PCall Tryz.prog 23 [NM m k] (RefM.gridN m k) := by
  refine pcall_of fun s => ?_
  have hv := valid_ax m k
  have he := gridN_eq m k
  unfold NM at hv ⊢
  by_cases q : validN m k = true
  · rw [if_pos q] at he
    rw [q] at hv
    rw [he]
    obtain ⟨m1, m2, k1, k2⟩ := validN_m m k q
    have hl := ofN_lw2 m k m1 m2 k1 k2
    have hp := RefM.ofN_pos m k
    have hf := fun s => frac_ax s m k (by omega) (by omega) (by omega) (by omega)
    unfold NM at hf
    clear he
    generalize (RefM.ofN m k).1 = n at *
    generalize (RefM.ofN m k).2 = d at *
    have hd1 : d * 1 ≠ 0 := by omega
    have h2 := lw_abs_mul n 1000000000 21 1 hl.1 ((lw_lt _ 1).1 (by decide))
    have h3 : lw (d * 1).natAbs ≤ 21 := by rw [Int.mul_one]; exact hl.2
    have hgood : BigT.Good (low (n * 1000000000) (d * 1)).1 (low (n * 1000000000) (d * 1)).2 := by
      have h1 := low_lw (n * 1000000000) (d * 1)
      exact ⟨low_pos _ _ hd1, low_one' _ _ hd1, by omega, by omega⟩
    have hr := round_ax _ _ hgood
    have lg := hgood.ln
    have lg2 := hgood.ld
    have lp := hgood.pos
    obtain ⟨a, b, hab⟩ := gridV_cases (near (low (n * 1000000000) (d * 1)).1 (low (n * 1000000000) (d * 1)).2)
    rw [hab] at hr ⊢
    have lb : low 1000000000 1 = (1000000000, 1) := low_one _
    generalize hL1 : (low (n * 1000000000) (d * 1)).1 = x at *
    generalize hL2 : (low (n * 1000000000) (d * 1)).2 = y at *
    rw [rc_eq] at hr
    refine acall_of Tryz.func23 rfl rfl (by simp [Tryz.ntmps23]) ?_; rw [Tryz.ntmps23, Tryz.results23]
    (first | refine go (cj rTI (cj @wl_idf @wl_one)) ?_ | exact go0 (cj rTI (cj @wl_idf @wl_one)))
    refine aw_reg fun K hK => ?_; refine rn (cj rTI (cj @wl_idf @wl_one)) ?_; refine cont_pure hv ?_; refine rn (cj rTI (cj @wl_idf @wl_one)) ?_; refine hK _ _ ?_; clear hK K
    rw [then_normal]
    (try rw [then_normal]); (try refine aw_seq ?_); refine aw_cond rfl ?_ ?_ <;> intro hb <;> (try (cases hb; done)) <;> (try simp only [bq] at hb) <;> (try (exfalso; omega))
    (first | refine go trivial ?_ | exact go0 trivial)
    refine aw_reg fun K hK => ?_; refine rn (cj rTI (cj @wl_idf @wl_one)) ?_; refine cont_go (hf _) ?_; rintro _ s1 ⟨i1, rfl, w1⟩; refine rn (cj rTI (cj @wl_idf @wl_one)) ?_; refine hK _ _ ?_; clear hK K
    rw [then_normal]
    have l1 := w1.lo
    have l1' : s.nx + 1 ≤ i1 := l1
    have h1 := w1.lt
    (first | refine go trivial ?_ | exact go0 trivial)
    have c2 := newRat_ax s1 1000000000 1 (by decide) (by decide) (by decide) (by decide) (by decide)
    rw [lb] at c2
    refine aw_reg fun K hK => ?_
    (first | refine rn (cj rTI (cj @wl_idf @wl_one)) ?_ | exact rn0 (cj rTI (cj @wl_idf @wl_one)))
    refine cont_go c2 ?_
    rintro _ s2 ⟨i2, rfl, w2⟩
    have n2 := w2.nx
    have r1 : RatP s2 i1 n d := w1.rat.mono n2 (w2.fr _ h1)
    have hlm : lw n.natAbs + lw (1000000000 : Int).natAbs ≤ 1000000000000 := by
      have : lw (1000000000 : Int).natAbs ≤ 1 := (lw_lt _ 1).1 (by decide)
      omega
    have hlm2 : lw d.natAbs + lw (1 : Int).natAbs ≤ 1000000000000 := by
      have : lw (1 : Int).natAbs ≤ 1 := (lw_lt _ 1).1 (by decide)
      omega
    have c3 := mulR_ax s2 i1 i1 i2 n d 1000000000 1 _ _ _ _ (by omega) r1.g r1 w2.rat hp (by decide) hlm hlm2
    rw [hL1, hL2] at c3
    (first | refine rn (cj rTI (cj @wl_idf @wl_one)) ?_ | exact rn0 (cj rTI (cj @wl_idf @wl_one)))
    refine cont_go c3 ?_
    rintro _ s3 ⟨rfl, w3⟩
    (first | refine rn (cj rTI (cj @wl_idf @wl_one)) ?_ | exact rn0 (cj rTI (cj @wl_idf @wl_one)))
    refine hK _ _ ?_
    clear hK K
    rw [then_normal]
    (first | refine go trivial ?_ | exact go0 trivial)
    refine aw_reg fun K hK => ?_
    (first | refine rn (cj rTI (cj @wl_idf @wl_one)) ?_ | exact rn0 (cj rTI (cj @wl_idf @wl_one)))
    refine cont_go (fracW_ax s3 i1 x y ⟨w3.lt, w3.g⟩ lp (by omega) (by omega)) ?_
    rintro _ s4 ⟨rfl, rfl⟩
    rw [rc_eq]
    (first | refine rn (cj rTI (cj @wl_idf @wl_one)) ?_ | exact rn0 (cj rTI (cj @wl_idf @wl_one)))
    refine cont_pure hr ?_
    (first | refine rn (cj rTI (cj @wl_idf @wl_one)) ?_ | exact rn0 (cj rTI (cj @wl_idf @wl_one)))
    refine hK _ _ ?_
    clear hK K
    (first | refine go (cj rTI (cj @wl_idf @wl_one)) ?_ | exact go0 (cj rTI (cj @wl_idf @wl_one)))
    intro i hi
    rw [w3.fr i (by omega) (by omega), w2.fr i (by omega), w1.fr i (Nat.lt_succ_of_lt hi), St.push_ne _ _ _ (by omega)]
  · have q' : validN m k = false := by simpa using q
    rw [if_neg q] at he
    rw [q'] at hv
    rw [he]
    refine acall_of Tryz.func23 rfl rfl (by simp [Tryz.ntmps23]) ?_; rw [Tryz.ntmps23, Tryz.results23]
    (first | refine go (cj rTI (cj @wl_idf @wl_one)) ?_ | exact go0 (cj rTI (cj @wl_idf @wl_one)))
    refine aw_reg fun K hK => ?_; refine rn (cj rTI (cj @wl_idf @wl_one)) ?_; refine cont_pure hv ?_; refine rn (cj rTI (cj @wl_idf @wl_one)) ?_; refine hK _ _ ?_; clear hK K
    rw [then_normal]
    (try rw [then_normal]); (try refine aw_seq ?_); refine aw_cond rfl ?_ ?_ <;> intro hb <;> (try (cases hb; done)) <;> (try simp only [bq] at hb) <;> (try (exfalso; omega))
    (first | refine go (cj rTI (cj @wl_idf @wl_one)) ?_ | exact go0 (cj rTI (cj @wl_idf @wl_one)))
    exact fun i hi => by rw [if_neg (by omega)]
theorem cmp_ax (m k m' k' : Int) : PCall Tryz.prog 25 [NM m k, NM m' k'] (RefM.cmpNN m k m' k') := by
  refine pcall_of fun s => ?_
  have hv := valid_ax m k
  have hv2 := valid_ax m' k'
  have he := cmpNN_eq m k m' k'
  have t0 := two_g0 s [.v (.int .i64 m), .v (.int .i64 k)] [.v (.int .i64 m'), .v (.int .i64 k')]
  have t1 := two_g1 s [.v (.int .i64 m), .v (.int .i64 k)] [.v (.int .i64 m'), .v (.int .i64 k')]
  have to := two_old s [.v (.int .i64 m), .v (.int .i64 k)] [.v (.int .i64 m'), .v (.int .i64 k')]
  have tn := two_nx s [.v (.int .i64 m), .v (.int .i64 k)] [.v (.int .i64 m'), .v (.int .i64 k')]
  have hf := fun s (h : validN m k = true) => frac_ax s m k (by have := validN_m m k h; omega) (by have := validN_m m k h; omega) (by have := validN_m m k h; omega) (by have := validN_m m k h; omega)
  have hf2 := fun s (h : validN m' k' = true) => frac_ax s m' k' (by have := validN_m m' k' h; omega) (by have := validN_m m' k' h; omega) (by have := validN_m m' k' h; omega) (by have := validN_m m' k' h; omega)
  have hl := fun (h : validN m k = true) => ofN_lw m k (by have := validN_m m k h; omega) (by have := validN_m m k h; omega) (by have := validN_m m k h; omega) (by have := validN_m m k h; omega)
  have hl2 := fun (h : validN m' k' = true) => ofN_lw m' k' (by have := validN_m m' k' h; omega) (by have := validN_m m' k' h; omega) (by have := validN_m m' k' h; omega) (by have := validN_m m' k' h; omega)
  have hp := RefM.ofN_pos m k
  have hp2 := RefM.ofN_pos m' k'
  unfold NM at *
  by_cases q : validN m k = true
  · by_cases q2 : validN m' k' = true
    · rw [if_pos ⟨q, q2⟩] at he
      rw [q] at hv
      rw [q2] at hv2
      rw [he]
      have hf := fun s => hf s q
      have hf2 := fun s => hf2 s q2
      have hl := hl q
      have hl2 := hl2 q2
      clear he q q2
      generalize (RefM.ofN m k).1 = a at *
      generalize (RefM.ofN m k).2 = b at *
      generalize (RefM.ofN m' k').1 = c at *
      generalize (RefM.ofN m' k').2 = d at *
      refine acall_of Tryz.func25 rfl rfl (by simp [Tryz.ntmps25]) ?_; rw [Tryz.ntmps25, Tryz.results25]
      (first | refine go (cj rTI (cj @wl_idf @wl_one)) ?_ | exact go0 (cj rTI (cj @wl_idf @wl_one)))
      generalize (s.push [.v (.int .i64 m), .v (.int .i64 k)]).push [.v (.int .i64 m'), .v (.int .i64 k')] = t at *
      refine aw_reg fun K hK => ?_; refine rn (cj rTI (cj @wl_idf (cj @wl_one (cj @t0 @t1)))) ?_; refine cont_pure hv ?_; (first | refine rn (cj rTI (cj @wl_idf (cj @wl_one (cj @t0 @t1)))) ?_ | exact rn0 (cj rTI (cj @wl_idf (cj @wl_one (cj @t0 @t1))))); refine cont_pure hv2 ?_; refine rn (cj rTI (cj @wl_idf (cj @wl_one (cj @t0 @t1)))) ?_; refine hK _ _ ?_; clear hK K
      rw [then_normal]
      (try rw [then_normal]); (try refine aw_seq ?_); refine aw_cond rfl ?_ ?_ <;> intro hb <;> (try (cases hb; done)) <;> (try simp only [bq] at hb) <;> (try (exfalso; omega))
      (first | refine go trivial ?_ | exact go0 trivial)
      refine aw_drw (.take 0 (.take 2 (.one 1 (.one 3 (.one 4 (.take 5 (.take 6 (.done)))))))) [s.nx, s.nx + 1] (by kernel_rfl) (by kernel_rfl) fun K hK => ?_; refine dr (cj rTI (cj @wl_idf (cj @wl_one (cj @t0 @t1)))) ?_; refine cont_go (hf t) ?_; rintro _ s1 ⟨i1, rfl, m1⟩; have n1 := m1.nx; have k1 := m1.lt; have f0 := m1.fr s.nx (by omega); have f1 := m1.fr (s.nx + 1) (by omega); refine dr (cj rTI (cj @wl_idf (cj @wl_one (cj @t0 @t1)))) ?_; refine ⟨⟨by rw [f0, t0], by rw [f1, t1]⟩, ?_⟩; refine cont_go (hf2 s1) ?_; rintro _ s2 ⟨i2, rfl, m2⟩; have n2 := m2.nx; have f2 := m2.fr s.nx (by omega); have f3 := m2.fr (s.nx + 1) (by omega); have r3 := cmpR_ax s2 i1 i2 a b c d (m1.rat.mono n2 (m2.fr _ k1)) m2.rat hp hp2 (by omega) (by omega); refine dr (cj rTI (cj @wl_idf (cj @wl_one (cj @t0 @t1)))) ?_; refine ⟨⟨f2, f3⟩, ?_⟩; refine cont_go r3 ?_; rintro _ s3 ⟨rfl, rfl⟩; refine dr (cj rTI (cj @wl_idf (cj @wl_one (cj @t0 @t1)))) ?_; refine hK _ _ ?_; clear hK K
      (first | refine go (cj rTI (cj @wl_idf @wl_one)) ?_ | exact go0 (cj rTI (cj @wl_idf @wl_one)))
      intro i hi
      rw [m2.fr i (by omega), m1.fr i (by omega), to i hi]
    · have q2' : validN m' k' = false := by simpa using q2
      rw [if_neg (fun h => q2 h.2)] at he
      rw [q] at hv
      rw [q2'] at hv2
      rw [he]
      refine acall_of Tryz.func25 rfl rfl (by simp [Tryz.ntmps25]) ?_; rw [Tryz.ntmps25, Tryz.results25]
      (first | refine go (cj rTI (cj @wl_idf @wl_one)) ?_ | exact go0 (cj rTI (cj @wl_idf @wl_one)))
      refine aw_reg fun K hK => ?_; refine rn (cj rTI (cj @wl_idf @wl_one)) ?_; refine cont_pure hv ?_; (first | refine rn (cj rTI (cj @wl_idf @wl_one)) ?_ | exact rn0 (cj rTI (cj @wl_idf @wl_one))); refine cont_pure hv2 ?_; refine rn (cj rTI (cj @wl_idf @wl_one)) ?_; refine hK _ _ ?_; clear hK K
      rw [then_normal]
      (try rw [then_normal]); (try refine aw_seq ?_); refine aw_cond rfl ?_ ?_ <;> intro hb <;> (try (cases hb; done)) <;> (try simp only [bq] at hb) <;> (try (exfalso; omega))
      (first | refine go trivial ?_ | exact go0 trivial)
      exact to
  · have q' : validN m k = false := by simpa using q
    rw [if_neg (fun h => q h.1)] at he
    rw [q'] at hv
    rw [he]
    refine acall_of Tryz.func25 rfl rfl (by simp [Tryz.ntmps25]) ?_; rw [Tryz.ntmps25, Tryz.results25]
    (first | refine go (cj rTI (cj @wl_idf @wl_one)) ?_ | exact go0 (cj rTI (cj @wl_idf @wl_one)))
    refine aw_reg fun K hK => ?_; refine rn (cj rTI (cj @wl_idf @wl_one)) ?_; refine cont_pure hv ?_; refine rn (cj rTI (cj @wl_idf @wl_one)) ?_; refine hK _ _ ?_; clear hK K
    rw [then_normal]
    (try rw [then_normal]); (try refine aw_seq ?_); refine aw_cond rfl ?_ ?_ <;> intro hb <;> (try (cases hb; done)) <;> (try simp only [bq] at hb) <;> (try (exfalso; omega))
    (first | refine go trivial ?_ | exact go0 trivial)
    exact to
end Go.Proofs.YtfjelkjlfcafgaaGreatDoor.NumB
end
section
/- Plain lists: the texts of decimal numbers: what a text says, and the one form. -/
namespace Go.Proofs.YtfjelkjlfcafgaaGreatDoor.NumS
open Go.Proofs.YtfjelkjlfcafgaaGreatDoor.BigM
set_option linter.unusedVariables false

def isD (c : Nat) : Bool := decide (48 ≤ c) && decide (c ≤ 57)
theorem isD_iff (c : Nat) : isD c = true ↔ 48 ≤ c ∧ c ≤ 57 := by unfold isD; simp
/-- The digits at the front, and what stands behind them. -/
def fr : List Nat → List Nat
  | [] => []
  | c :: l => if isD c then c :: fr l else []
def bk : List Nat → List Nat
  | [] => []
  | c :: l => if isD c then bk l else c :: l
theorem fr_bk : ∀ l, fr l ++ bk l = l
  | [] => rfl
  | c :: l => by
    rw [fr, bk]
    split
    · rw [List.cons_append, fr_bk l]
    · rfl
theorem fr_all : ∀ l, ∀ c ∈ fr l, isD c = true
  | [], c, h => by cases h
  | a :: l, c, h => by
    rw [fr] at h
    split at h
    · rcases List.mem_cons.1 h with rfl | h
      · assumption
      · exact fr_all l c h
    · cases h
theorem fr_app : ∀ (a b : List Nat), (∀ c ∈ a, isD c = true) → (∀ c, b.head? = some c → isD c = false) → fr (a ++ b) = a ∧ bk (a ++ b) = b
  | [], b, _, hb => by
    cases b with
    | nil => exact ⟨rfl, rfl⟩
    | cons c l =>
      have := hb c rfl
      rw [List.nil_append, fr, bk, if_neg (by rw [this]; simp), if_neg (by rw [this]; simp)]
      exact ⟨rfl, rfl⟩
  | c :: a, b, ha, hb => by
    have h1 := ha c (by simp)
    obtain ⟨e1, e2⟩ := fr_app a b (fun d hd => ha d (List.mem_cons_of_mem _ hd)) hb
    rw [List.cons_append, fr, bk, if_pos h1, if_pos h1, e1, e2]
    exact ⟨rfl, rfl⟩
/-- The number that digits say. -/
def digV (l : List Nat) : Nat := l.foldl (fun a c => 10 * a + (c - 48)) 0
theorem digV_snoc (l : List Nat) (c : Nat) : digV (l ++ [c]) = 10 * digV l + (c - 48) := by unfold digV; rw [List.foldl_append]; rfl
theorem digV_zeros (l : List Nat) (n : Nat) : digV (l ++ List.replicate n 48) = digV l * 10 ^ n := by
  induction n with
  | zero => simp
  | succ n ih => rw [List.replicate_succ', ← List.append_assoc, digV_snoc, ih, Nat.pow_succ, Nat.mul_comm 10, Nat.mul_assoc]; rfl
theorem digV_dec (n : Nat) : digV (((digs 10 n).reverse).map fun d => 48 + d) = n := by
  have : ∀ l : List Nat, digV ((l.reverse).map fun d => 48 + d) = val 10 l := by
    intro l
    induction l with
    | nil => rfl
    | cons d l ih => rw [List.reverse_cons, List.map_append, List.map_cons, List.map_nil, digV_snoc, ih, val]; omega
  rw [this, val_digs 10 (by decide)]
/-- Without noughts at the end. -/
def strip (m : Nat) (x : Int) : Nat × Int := if h : 0 < m ∧ m % 10 = 0 then strip (m / 10) (x + 1) else (m, x)
termination_by m
decreasing_by exact Nat.div_lt_self h.1 (by decide)
theorem strip_stop (m : Nat) (x : Int) (h : ¬ (0 < m ∧ m % 10 = 0)) : strip m x = (m, x) := by rw [strip, dif_neg h]
theorem strip_go (m : Nat) (x : Int) (h : 0 < m) : strip (m * 10) x = strip m (x + 1) := by
  rw [strip, dif_pos ⟨by omega, by omega⟩, Nat.mul_div_cancel _ (by decide)]
theorem strip_pow (m : Nat) (h : 0 < m) (n : Nat) : ∀ x, strip (m * 10 ^ n) x = strip m (x + n) := by
  induction n with
  | zero => intro x; simp
  | succ n ih =>
    intro x
    rw [Nat.pow_succ, ← Nat.mul_assoc, strip_go _ _ (Nat.mul_pos h (Nat.pow_pos (by decide))), ih]
    congr 1
    omega
theorem strip_ne (m : Nat) : ∀ x, 0 < m → 0 < (strip m x).1 ∧ (strip m x).1 % 10 ≠ 0 := by
  induction m using Nat.strongRecOn with
  | _ m ih =>
    intro x h
    rw [strip]
    by_cases hz : m % 10 = 0
    · rw [dif_pos ⟨h, hz⟩]
      exact ih _ (Nat.div_lt_self h (by decide)) _ (by omega)
    · rw [dif_neg (fun q => hz q.2)]
      exact ⟨h, hz⟩
/-- One digit, or two. -/
def two : List Nat → Option Int
  | [a] => if isD a then some ((a : Int) - 48) else none
  | [a, b] => if isD a && isD b then some (10 * ((a : Int) - 48) + ((b : Int) - 48)) else none
  | _ => none
def expS : List Nat → Option Int
  | 45 :: r => (two r).map fun v => -v
  | 43 :: r => two r
  | r => two r
/-- What the letters say. -/
def lettersS : List Nat → Option Int
  | [] => some 0
  | [102] => some (-15)
  | [112] => some (-12)
  | [110] => some (-9)
  | [117] => some (-6)
  | [109] => some (-3)
  | [107] => some 3
  | [109, 101, 103] => some 6
  | [103] => some 9
  | [116] => some 12
  | 101 :: r => expS r
  | _ => none
def finS (neg : Bool) (m : Nat) (x : Int) : Int × Int × Int :=
  if m = 0 then (0, 0, 0)
  else if (strip m x).1 ≤ 999999999 ∧ -18 ≤ (strip m x).2 ∧ (strip m x).2 ≤ 9 then (if neg then -((strip m x).1 : Int) else (strip m x).1, (strip m x).2, 0)
  else (0, 0, 30)
/-- Behind the sign. -/
def bodyS (neg : Bool) (r : List Nat) : Int × Int × Int :=
  if fr r = [] then (0, 0, 3)
  else match bk r with
  | 46 :: q => if fr q = [] then (0, 0, 3) else match lettersS (bk q) with
    | none => (0, 0, 3)
    | some e => finS neg (digV (fr r ++ fr q)) (e - (fr q).length)
  | q => match lettersS q with
    | none => (0, 0, 3)
    | some e => finS neg (digV (fr r)) e
def parseS (l : List Nat) : Int × Int × Int :=
  if 32 < l.length then (0, 0, 3)
  else match l with
  | 45 :: r => bodyS true r
  | r => bodyS false r
/-- A number's decimal digits. -/
def decN (n : Nat) : List Nat := ((digs 10 n).reverse).map fun d => 48 + d
def decS (z : Int) : List Nat := if z = 0 then [48] else (if z < 0 then [45] else []) ++ decN z.natAbs
theorem decN_isD (n : Nat) : ∀ c ∈ decN n, isD c = true := by
  intro c hc
  obtain ⟨d, hd, rfl⟩ := List.mem_map.1 hc
  have := digs_lt 10 (by decide) n d (List.mem_reverse.1 hd)
  rw [isD_iff]
  omega
theorem decN_nil (n : Nat) (h : 0 < n) : decN n ≠ [] := by
  unfold decN
  intro e
  have := congrArg List.length e
  rw [List.length_map, List.length_reverse, List.length_nil, List.length_eq_zero_iff, digs_nil 10 (by decide)] at this
  omega
theorem decN_len (n k : Nat) (h : n < 10 ^ k) : (decN n).length ≤ k := by
  unfold decN
  rw [List.length_map, List.length_reverse]
  exact (digs_length_le 10 (by decide) k n).2 h
/-- The letters, by their powers of ten. -/
def letterS (k : Nat) : List Nat := [[102], [112], [110], [117], [109], [], [107], [109, 101, 103], [103], [116]].getD k []
theorem letter_reads (k : Nat) (h : k < 10) : lettersS (letterS k) = some (3 * (k : Int) - 15) ∧ (∀ c, (letterS k).head? = some c → isD c = false ∧ c ≠ 46) ∧ (letterS k).length ≤ 3 := by
  have : k = 0 ∨ k = 1 ∨ k = 2 ∨ k = 3 ∨ k = 4 ∨ k = 5 ∨ k = 6 ∨ k = 7 ∨ k = 8 ∨ k = 9 := by omega
  rcases this with rfl | rfl | rfl | rfl | rfl | rfl | rfl | rfl | rfl | rfl <;> refine ⟨by simp [letterS, lettersS], ?_, by simp [letterS]⟩ <;> intro c hc <;> simp [letterS] at hc <;> subst hc <;> decide
/-- Digits, then letters: what the body says. -/
theorem body_plain (neg : Bool) (a q : List Nat) (e : Int) (ha : ∀ c ∈ a, isD c = true) (h0 : a ≠ []) (hq : ∀ c, q.head? = some c → isD c = false ∧ c ≠ 46) (he : lettersS q = some e) : bodyS neg (a ++ q) = finS neg (digV a) e := by
  obtain ⟨e1, e2⟩ := fr_app a q ha (fun c hc => (hq c hc).1)
  unfold bodyS
  rw [e1, e2, if_neg h0]
  split
  · exact absurd rfl (hq 46 rfl).2
  · rw [he]
/-- Digits, a point, digits, then letters. -/
theorem body_point (neg : Bool) (a b q : List Nat) (e : Int) (ha : ∀ c ∈ a, isD c = true) (h0 : a ≠ []) (hb : ∀ c ∈ b, isD c = true) (h1 : b ≠ []) (hq : ∀ c, q.head? = some c → isD c = false) (he : lettersS q = some e) : bodyS neg (a ++ 46 :: (b ++ q)) = finS neg (digV (a ++ b)) (e - b.length) := by
  obtain ⟨e1, e2⟩ := fr_app a (46 :: (b ++ q)) ha (fun c hc => (by simpa using hc : 46 = c) ▸ rfl)
  obtain ⟨e3, e4⟩ := fr_app b q hb hq
  unfold bodyS
  rw [e1, e2, if_neg h0]
  simp only [e3, e4, if_neg h1, he]
def textS (m x : Int) : List Nat :=
  if x < -15 then decS m ++ [101, 45] ++ decN x.natAbs
  else decS m ++ List.replicate ((x + 15) % 3).toNat 48 ++ letterS ((x + 15) / 3).toNat
def okN (m x : Int) : Prop := if m.tmod 10 = 0 then m = 0 ∧ x = 0 else m ≤ 999999999 ∧ -999999999 ≤ m ∧ x ≤ 9 ∧ -18 ≤ x
theorem fin_ok (neg : Bool) (m : Nat) (n : Nat) (x y : Int) (h0 : 0 < m) (hm : m ≤ 999999999) (hz : m % 10 ≠ 0) (hx : y = x + n) (h1 : -18 ≤ y) (h2 : y ≤ 9) : finS neg (m * 10 ^ n) x = (if neg then -(m : Int) else m, y, 0) := by
  have hp : 0 < m * 10 ^ n := Nat.mul_pos h0 (Nat.pow_pos (by decide))
  have e : strip (m * 10 ^ n) x = (m, y) := by rw [strip_pow m h0, strip_stop _ _ (fun q => hz q.2), hx]
  unfold finS
  rw [if_neg (by omega), e]
  simp only
  rw [if_pos ⟨hm, h1, h2⟩]
theorem dec_two (n : Nat) (h : n = 16 ∨ n = 17 ∨ n = 18) : lettersS (101 :: 45 :: decN n) = some (-(n : Int)) := by
  rcases h with rfl | rfl | rfl <;> simp [decN, digs_pos, digs_zero, lettersS, expS, two, isD]
theorem neg_split (m : Int) (h : m ≠ 0) (r : List Nat) : (decS m ++ r) = (if m < 0 then 45 :: (decN m.natAbs ++ r) else decN m.natAbs ++ r) := by
  unfold decS
  rw [if_neg h]
  split <;> simp
theorem parse_sign (neg : Bool) (a r : List Nat) (ha : ∀ c ∈ a, isD c = true) (h0 : a ≠ []) (hl : (a ++ r).length ≤ 31) : parseS (if neg then 45 :: (a ++ r) else a ++ r) = bodyS neg (a ++ r) := by
  unfold parseS
  cases neg with
  | true =>
    rw [if_neg (by simp only [if_true, List.length_cons]; omega)]
    rfl
  | false =>
    rw [if_neg (by simp only [Bool.false_eq_true, if_false]; omega)]
    cases a with
    | nil => exact absurd rfl h0
    | cons c a =>
      have := (isD_iff c).1 (ha c (by simp))
      simp only [Bool.false_eq_true, if_false, List.cons_append]
      split
      · rename_i h
        injection h with h
        omega
      · rfl
theorem text_len (m x : Int) (h : okN m x) : (textS m x).length ≤ 15 := by
  unfold okN at h
  have hd : (decS m).length ≤ 10 := by
    unfold decS
    split
    · simp
    · rw [List.length_append]
      have h1 : m.natAbs < 10 ^ 9 := by split at h <;> omega
      have := decN_len m.natAbs 9 h1
      split <;> simp <;> omega
  have hx : -18 ≤ x ∧ x ≤ 9 := by split at h <;> omega
  unfold textS
  split
  · have : (decN x.natAbs).length ≤ 2 := decN_len _ 2 (by omega)
    simp only [List.length_append, List.length_cons, List.length_nil]
    omega
  · have := (letter_reads ((x + 15) / 3).toNat (by omega)).2.2
    simp only [List.length_append, List.length_replicate]
    omega
theorem tmod10 (m : Int) : m.tmod 10 = 0 ↔ m.natAbs % 10 = 0 := by
  rw [← Int.dvd_iff_tmod_eq_zero, ← Nat.dvd_iff_mod_eq_zero, ← Int.natAbs_dvd_natAbs]
  rfl
/-- What the one form says is the number. -/
theorem parse_text (m x : Int) (h : okN m x) : parseS (textS m x) = (m, x, 0) := by
  have hl := text_len m x h
  unfold okN at h
  by_cases hm : m = 0
  · subst hm
    have h3 : x = 0 := by simpa using h
    subst h3
    decide
  · have h2 : m.tmod 10 ≠ 0 := fun e => by rw [if_pos e] at h; exact hm h.1
    rw [if_neg h2] at h
    have hn : m.natAbs % 10 ≠ 0 := fun e => h2 ((tmod10 m).2 e)
    have hp : 0 < m.natAbs := by omega
    have hs : (if decide (m < 0) = true then -(m.natAbs : Int) else m.natAbs) = m := by
      by_cases hneg : m < 0
      · simp [hneg]; omega
      · simp [hneg]; omega
    unfold textS at hl ⊢
    by_cases hx : x < -15
    · rw [if_pos hx] at hl ⊢
      rw [List.append_assoc, neg_split m hm] at hl ⊢
      have e1 := parse_sign (decide (m < 0)) (decN m.natAbs) ([101, 45] ++ decN x.natAbs) (decN_isD _) (decN_nil _ hp) (by
        split at hl <;> simp only [List.length_append, List.length_cons] at hl ⊢ <;> omega)
      simp only [decide_eq_true_eq] at e1
      rw [e1, body_plain _ _ ([101, 45] ++ decN x.natAbs) (-(x.natAbs : Int)) (decN_isD _) (decN_nil _ hp) (fun c hc => by rw [List.cons_append, List.head?_cons] at hc; cases hc; exact ⟨rfl, by decide⟩) (dec_two _ (by omega))]
      have e2 := fin_ok (decide (m < 0)) m.natAbs 0 (-(x.natAbs : Int)) x hp (by omega) hn (by omega) (by omega) (by omega)
      rw [Nat.pow_zero, Nat.mul_one] at e2
      rw [show digV (decN m.natAbs) = m.natAbs from digV_dec _, e2, hs]
    · rw [if_neg hx] at hl ⊢
      rw [List.append_assoc, neg_split m hm] at hl ⊢
      have e0 : ∀ r, decN m.natAbs ++ (List.replicate ((x + 15) % 3).toNat 48 ++ r) = (decN m.natAbs ++ List.replicate ((x + 15) % 3).toNat 48) ++ r := fun r => (List.append_assoc _ _ _).symm
      rw [e0] at hl ⊢
      have ad : ∀ c ∈ decN m.natAbs ++ List.replicate ((x + 15) % 3).toNat 48, isD c = true := by
        intro c hc
        rcases List.mem_append.1 hc with hc | hc
        · exact decN_isD _ c hc
        · rw [List.eq_of_mem_replicate hc]; decide
      have an : decN m.natAbs ++ List.replicate ((x + 15) % 3).toNat 48 ≠ [] := fun e => decN_nil _ hp (List.append_eq_nil_iff.1 e).1
      obtain ⟨l1, l2, l3⟩ := letter_reads ((x + 15) / 3).toNat (by omega)
      have e1 := parse_sign (decide (m < 0)) (decN m.natAbs ++ List.replicate ((x + 15) % 3).toNat 48) (letterS ((x + 15) / 3).toNat) ad an (by
        split at hl <;> simp only [List.length_append, List.length_cons] at hl ⊢ <;> omega)
      simp only [decide_eq_true_eq] at e1
      rw [e1, body_plain _ _ _ _ ad an l2 l1, digV_zeros, show digV (decN m.natAbs) = m.natAbs from digV_dec _]
      rw [fin_ok (decide (m < 0)) m.natAbs _ _ x hp (by omega) hn (by omega) (by omega) (by omega), hs]
/-- What is read is right, or nothing. -/
theorem fin_right (neg : Bool) (m : Nat) (x : Int) : ((finS neg m x).2.2 = 0 ∧ okN (finS neg m x).1 (finS neg m x).2.1) ∨ finS neg m x = (0, 0, 30) := by
  unfold finS
  by_cases h0 : m = 0
  · rw [if_pos h0]
    exact .inl ⟨rfl, by unfold okN; simp⟩
  · rw [if_neg h0]
    by_cases h : (strip m x).1 ≤ 999999999 ∧ -18 ≤ (strip m x).2 ∧ (strip m x).2 ≤ 9
    · rw [if_pos h]
      obtain ⟨h1, h2⟩ := strip_ne m x (by omega)
      refine .inl ⟨rfl, ?_⟩
      unfold okN
      cases neg with
      | true =>
        simp only [if_true]
        rw [if_neg (fun q => h2 (by rw [tmod10] at q; omega))]
        omega
      | false =>
        simp only [Bool.false_eq_true, if_false]
        rw [if_neg (fun q => h2 (by rw [tmod10] at q; omega))]
        omega
    · rw [if_neg h]
      exact .inr rfl
theorem body_right (neg : Bool) (r : List Nat) : ((bodyS neg r).2.2 = 0 ∧ okN (bodyS neg r).1 (bodyS neg r).2.1) ∨ bodyS neg r = (0, 0, 30) ∨ bodyS neg r = (0, 0, 3) := by
  unfold bodyS
  split
  · exact .inr (.inr rfl)
  · split
    · split
      · exact .inr (.inr rfl)
      · split
        · exact .inr (.inr rfl)
        · rcases fin_right neg (digV (fr r ++ fr ‹_›)) (‹Int› - (fr ‹_›).length) with h | h
          · exact .inl h
          · exact .inr (.inl h)
    · split
      · exact .inr (.inr rfl)
      · rcases fin_right neg (digV (fr r)) ‹Int› with h | h
        · exact .inl h
        · exact .inr (.inl h)
theorem parse_right (l : List Nat) : ((parseS l).2.2 = 0 ∧ okN (parseS l).1 (parseS l).2.1) ∨ parseS l = (0, 0, 30) ∨ parseS l = (0, 0, 3) := by
  unfold parseS
  split
  · exact .inr (.inr rfl)
  · split
    · exact body_right _ _
    · exact body_right _ _
/-- Letters and powers; a sign. -/
def powerS (k : Nat) : List Nat := [[101, 45, 49, 53], [101, 45, 49, 50], [101, 45, 57], [101, 45, 54], [101, 45, 51], [101, 48], [101, 51], [101, 43, 54], [101, 57], [101, 49, 50]].getD k []
theorem power_reads (k : Nat) (h : k < 10) : lettersS (powerS k) = some (3 * (k : Int) - 15) ∧ (∀ c, (powerS k).head? = some c → isD c = false ∧ c ≠ 46) ∧ (powerS k).length ≤ 4 := by
  have : k = 0 ∨ k = 1 ∨ k = 2 ∨ k = 3 ∨ k = 4 ∨ k = 5 ∨ k = 6 ∨ k = 7 ∨ k = 8 ∨ k = 9 := by omega
  rcases this with rfl | rfl | rfl | rfl | rfl | rfl | rfl | rfl | rfl | rfl <;> refine ⟨by simp [powerS, lettersS, expS, two, isD], ?_, by simp [powerS]⟩ <;> intro c hc <;> simp [powerS] at hc <;> subst hc <;> decide
def decP (n : Nat) : List Nat := if n = 0 then [48] else decN n
theorem decP_spec (n : Nat) (h : n < 4294967296) : (∀ c ∈ decP n, isD c = true) ∧ decP n ≠ [] ∧ digV (decP n) = n ∧ (decP n).length ≤ 10 := by
  unfold decP
  split
  · rename_i e
    subst e
    decide
  · exact ⟨decN_isD n, decN_nil n (by omega), digV_dec n, decN_len n 10 (by omega)⟩
theorem shift_law (n k : Nat) (hn : n < 4294967296) (hk : k < 10) : parseS (decP n ++ letterS k) = finS false n (3 * (k : Int) - 15) ∧ parseS (decP n ++ powerS k) = finS false n (3 * (k : Int) - 15) ∧
    parseS (45 :: (decP n ++ (46 :: 48 :: letterS k))) = finS true (n * 10) (3 * (k : Int) - 15 - 1) := by
  obtain ⟨d1, d2, d3, d4⟩ := decP_spec n hn
  obtain ⟨l1, l2, l3⟩ := letter_reads k hk
  obtain ⟨p1, p2, p3⟩ := power_reads k hk
  refine ⟨?_, ?_, ?_⟩
  · have := parse_sign false (decP n) (letterS k) d1 d2 (by rw [List.length_append]; omega)
    simp only [Bool.false_eq_true, if_false] at this
    rw [this, body_plain _ _ _ _ d1 d2 l2 l1, d3]
  · have := parse_sign false (decP n) (powerS k) d1 d2 (by rw [List.length_append]; omega)
    simp only [Bool.false_eq_true, if_false] at this
    rw [this, body_plain _ _ _ _ d1 d2 p2 p1, d3]
  · have := parse_sign true (decP n) (46 :: 48 :: letterS k) d1 d2 (by simp only [List.length_append, List.length_cons]; omega)
    simp only [if_true] at this
    have e := body_point true (decP n) [48] (letterS k) _ d1 d2 (by simp [isD]) (by simp) (fun c hc => (l2 c hc).1) l1
    rw [this, show decP n ++ 46 :: 48 :: letterS k = decP n ++ 46 :: ([48] ++ letterS k) from rfl, e]
    congr 1
    rw [digV_snoc, d3]
    omega
theorem fin_turn (n : Nat) (x : Int) : (finS true (n * 10) (x - 1)).1 = -(finS false n x).1 ∧ (finS true (n * 10) (x - 1)).2 = (finS false n x).2 := by
  unfold finS
  by_cases h : n = 0
  · subst h
    simp
  · have e := strip_go n (x - 1) (by omega)
    rw [show x - 1 + 1 = x by omega] at e
    rw [e, if_neg h, if_neg (by omega)]
    split <;> simp
end Go.Proofs.YtfjelkjlfcafgaaGreatDoor.NumS
end
section
/- Texts of numbers: digits at the front; one digit. -/
namespace Go.Proofs.YtfjelkjlfcafgaaGreatDoor.NumT
open Go Go.RowKit Go.Proofs.YtfjelkjlfcafgaaGreatDoor.Ax Go.Proofs.YtfjelkjlfcafgaaGreatDoor.Ti Go.Proofs.YtfjelkjlfcafgaaGreatDoor.BigM Go.Proofs.YtfjelkjlfcafgaaGreatDoor.NumS Go.Proofs.YtfjelkjlfcafgaaGreatDoor.NumA
set_option linter.unusedSimpArgs false
set_option linter.unusedVariables false
set_option maxRecDepth 4000
set_option maxHeartbeats 2000000
theorem rTI : type_of% (cj @ti3 (cj @ti2 (cj @ti4 (cj @ti9 (cj @ti5 (cj @ti36 (cj @ti24 @ti25))))))) := cj @ti3 (cj @ti2 (cj @ti4 (cj @ti9 (cj @ti5 (cj @ti36 (cj @ti24 @ti25))))))

def bs (l : List Nat) : ByteArray := RefJ.bs l
theorem bs_size (l : List Nat) : (bs l).size = l.length := RefJ.bs_size l
theorem bs_append (a b : List Nat) : bs a ++ bs b = bs (a ++ b) := RefJ.bs_append a b
/-- All are bytes. -/
def By (l : List Nat) : Prop := ∀ c ∈ l, c < 256
theorem bs_get (l : List Nat) (h : By l) (k : Nat) : ((bs l).data.toList.getD k 0).toNat = l.getD k 0 := by
  show (((l.map UInt8.ofNat).toArray).toList.getD k 0).toNat = _
  rw [List.toList_toArray, List.getD_eq_getElem?_getD, List.getElem?_map, List.getD_eq_getElem?_getD]
  cases hk : l[k]? with
  | none => rfl
  | some c =>
    have := h c (List.mem_of_getElem? hk)
    simp [Nat.mod_eq_of_lt this]
theorem bs_all (b : ByteArray) : b = bs (b.data.toList.map UInt8.toNat) := by
  cases b with
  | mk d =>
    show _ = ByteArray.mk _
    congr 1
    rw [List.map_map]
    apply Array.ext'
    rw [List.toList_toArray]
    symm
    rw [show (UInt8.ofNat ∘ UInt8.toNat) = id by funext x; simp, List.map_id]
theorem by_all (b : ByteArray) : By (b.data.toList.map UInt8.toNat) := by
  intro c hc
  obtain ⟨x, _, rfl⟩ := List.mem_map.1 hc
  exact UInt8.toNat_lt x
theorem bs_slice (l : List Nat) (i j : Nat) : (bs l).extract i j = bs ((l.drop i).take (j - i)) := by
  have h : ((bs l).extract i j).data = (bs ((l.drop i).take (j - i))).data := by
    rw [ByteArray.data_extract]
    apply Array.ext'
    rw [Array.toList_extract]
    show List.extract ((l.map UInt8.ofNat).toArray).toList i j = (((l.drop i).take (j - i)).map UInt8.ofNat).toArray.toList
    rw [List.toList_toArray, List.toList_toArray, List.extract_eq_take_drop, List.map_take, List.map_drop]
  cases hx : (bs l).extract i j with
  | mk d =>
    rw [hx] at h
    cases hy : bs ((l.drop i).take (j - i)) with
    | mk e => rw [hy] at h; rw [show d = e from h]
theorem run_step (l : List Nat) (k : Nat) (hk : k < (fr l).length) : k < l.length ∧ isD (l.getD k 0) = true := by
  induction l generalizing k with
  | nil => simp [fr] at hk
  | cons c l ih =>
    rw [fr] at hk
    split at hk
    · rename_i hc
      cases k with
      | zero => exact ⟨by simp, by simpa using hc⟩
      | succ k =>
        have := ih k (by simpa using hk)
        exact ⟨by simpa using this.1, by simpa using this.2⟩
    · simp at hk
theorem run_stop (l : List Nat) (h : (fr l).length < l.length) : isD (l.getD (fr l).length 0) = false := by
  induction l with
  | nil => simp at h
  | cons c l ih =>
    rw [fr] at h ⊢
    split
    · rename_i hc
      rw [if_pos hc] at h
      simpa using ih (by simpa using h)
    · rename_i hc
      simpa using hc
theorem fr_le (l : List Nat) : (fr l).length ≤ l.length := by
  have := congrArg List.length (fr_bk l)
  rw [List.length_append] at this
  omega
theorem isDigit_ax (c : Nat) (h : c < 256) : PCall Tryz.prog 56 [.v (.int .u8 c)] (.v (.bool (isD c))) := by
  refine pcall_of fun s => ?_
  unfold isD
  refine acall_of Tryz.func56 rfl rfl (by simp [Tryz.ntmps56]) ?_; rw [Tryz.ntmps56, Tryz.results56]
  by_cases c1 : 48 ≤ c
  · by_cases c2 : c ≤ 57
    · (first | refine go trivial ?_ | exact go0 trivial)
    · (first | refine go trivial ?_ | exact go0 trivial)
  · (first | refine go trivial ?_ | exact go0 trivial)
theorem run_ax (l : List Nat) (h : By l) (hl : l.length ≤ 1000000000) : PCall Tryz.prog 49 [.v (.string (bs l))] (.v (.int .i64 (fr l).length)) := by
  refine pcall_of fun s => ?_
  have hle := fr_le l
  have l1 := bs_size l
  refine acall_of Tryz.func49 rfl rfl (by simp [Tryz.ntmps49]) ?_; rw [Tryz.ntmps49, Tryz.results49]
  (first | refine go trivial ?_ | exact go0 trivial)
  refine aw_loop (fun n e s' => ∃ k : Nat, n = (fr l).length - k ∧ k ≤ (fr l).length ∧ e.n = 23 ∧ e.m 0 = .v (.string (bs l)) ∧ e.m 3 = .v (.int .i64 k) ∧ s' = s) (fr l).length ?_ ?_
  · refine ⟨0, ?_⟩
    (first | refine rn trivial ?_ | exact rn0 trivial)
    exact ⟨by omega, by omega, rfl⟩
  · rintro n e s' ⟨k, rfl, hk, h1, k0, k3, rfl⟩
    have hg := bs_get l h k
    have z3 : (k : Int) + 1 = ((k + 1 : Nat) : Int) := rfl
    by_cases hk2 : k < (fr l).length
    · obtain ⟨r1, r2⟩ := run_step l k hk2
      obtain ⟨d1, d2⟩ := (isD_iff _).1 r2
      clear r2
      generalize l.getD k 0 = c at *
      (first | refine go (cj rTI (cj @h1 (cj @k0 (cj @k3 (cj @l1 @hg))))) ?_ | exact go0 (cj rTI (cj @h1 (cj @k0 (cj @k3 (cj @l1 @hg))))))
      rw [then_normal]
      (try rw [then_normal]); (try refine aw_seq ?_); refine aw_cond rfl ?_ ?_ <;> intro hb <;> (try (cases hb; done)) <;> (try simp only [bq] at hb) <;> (try (exfalso; omega))
      (first | refine go (cj @h1 @k3) ?_ | exact go0 (cj @h1 @k3))
      simp only [block_normal, loop_normal]
      refine ⟨(fr l).length - (k + 1), by omega, k + 1, rfl, by omega, ?_⟩
      (first | refine rn (cj @h1 (cj @k0 @z3)) ?_ | exact rn0 (cj @h1 (cj @k0 @z3)))
    · obtain rfl : k = (fr l).length := by omega
      by_cases hk3 : (fr l).length < l.length
      · have r2 := run_stop l hk3
        have r3 : ¬ (48 ≤ l.getD (fr l).length 0 ∧ l.getD (fr l).length 0 ≤ 57) := fun h => by rw [(isD_iff _).2 h] at r2; cases r2
        clear r2
        generalize l.getD (fr l).length 0 = c at *
        by_cases c1 : 48 ≤ c
        · have c2 : ¬ c ≤ 57 := fun h => r3 ⟨c1, h⟩
          clear r3
          (first | refine go (cj rTI (cj @h1 (cj @k0 (cj @k3 (cj @l1 @hg))))) ?_ | exact go0 (cj rTI (cj @h1 (cj @k0 (cj @k3 (cj @l1 @hg))))))
          rw [then_normal]
          (try rw [then_normal]); (try refine aw_seq ?_); refine aw_cond rfl ?_ ?_ <;> intro hb <;> (try (cases hb; done)) <;> (try simp only [bq] at hb) <;> (try (exfalso; omega))
          (first | refine go (cj @h1 @k3) ?_ | exact go0 (cj @h1 @k3))
        · clear r3
          (first | refine go (cj rTI (cj @h1 (cj @k0 (cj @k3 (cj @l1 @hg))))) ?_ | exact go0 (cj rTI (cj @h1 (cj @k0 (cj @k3 (cj @l1 @hg))))))
          rw [then_normal]
          (try rw [then_normal]); (try refine aw_seq ?_); refine aw_cond rfl ?_ ?_ <;> intro hb <;> (try (cases hb; done)) <;> (try simp only [bq] at hb) <;> (try (exfalso; omega))
          (first | refine go (cj @h1 @k3) ?_ | exact go0 (cj @h1 @k3))
      · (first | refine go (cj rTI (cj @h1 (cj @k0 (cj @k3 @l1)))) ?_ | exact go0 (cj rTI (cj @h1 (cj @k0 (cj @k3 @l1)))))
        rw [then_normal]
        (try rw [then_normal]); (try refine aw_seq ?_); refine aw_cond rfl ?_ ?_ <;> intro hb <;> (try (cases hb; done)) <;> (try simp only [bq] at hb) <;> (try (exfalso; omega))
        (first | refine go (cj @h1 @k3) ?_ | exact go0 (cj @h1 @k3))
end Go.Proofs.YtfjelkjlfcafgaaGreatDoor.NumT
end
section
/- Texts of numbers: the document's tail, Text. -/
namespace Go.Proofs.YtfjelkjlfcafgaaGreatDoor.NumU
open Go Go.RowKit Go.Proofs.YtfjelkjlfcafgaaGreatDoor.Ax Go.Proofs.YtfjelkjlfcafgaaGreatDoor.Ti Go.Proofs.YtfjelkjlfcafgaaGreatDoor.BigM Go.Proofs.YtfjelkjlfcafgaaGreatDoor.NumS Go.Proofs.YtfjelkjlfcafgaaGreatDoor.NumA Go.Proofs.YtfjelkjlfcafgaaGreatDoor.NumT
set_option linter.unusedSimpArgs false
set_option linter.unusedVariables false
set_option maxRecDepth 4000
set_option maxHeartbeats 2000000
theorem rTI : type_of% (cj @ti3 (cj @ti2 (cj @ti4 (cj @ti9 (cj @ti5 (cj @ti36 (cj @ti24 @ti25))))))) := cj @ti3 (cj @ti2 (cj @ti4 (cj @ti9 (cj @ti5 (cj @ti36 (cj @ti24 @ti25))))))

theorem bs_inj {l m : List Nat} (hl : By l) (hm : By m) (h : (bs l).data.toList = (bs m).data.toList) : l = m := by
  apply List.ext_getElem
  · have := congrArg List.length h
    rw [show (bs l).data.toList.length = (bs l).size from rfl, show (bs m).data.toList.length = (bs m).size from rfl, bs_size, bs_size] at this
    exact this
  · intro k h1 h2
    have a := bs_get l hl k
    have b := bs_get m hm k
    rw [h, b] at a
    rw [List.getD_eq_getElem?_getD, List.getElem?_eq_getElem h2, List.getD_eq_getElem?_getD, List.getElem?_eq_getElem h1] at a
    exact a.symm
theorem bs_beq (l m : List Nat) (hl : By l) (hm : By m) : ((bs l).toList == (bs m).toList) = decide (l = m) := by
  rw [ByteArray.toList_eq, ByteArray.toList_eq]
  by_cases e : l = m
  · rw [e, decide_eq_true rfl]
    exact beq_self_eq_true _
  · rw [decide_eq_false e]
    exact beq_eq_false_iff_ne.2 fun h => e (bs_inj hl hm h)
/-- The names, as the machine has them. -/
def NL : List AV := (List.range 10).map fun k => .v (.string (bs (letterS k)))
theorem hd_NL (k : Nat) (h : k < 10) : (NL.drop k).head? = some (.v (.string (bs (letterS k)))) := by
  have : k = 0 ∨ k = 1 ∨ k = 2 ∨ k = 3 ∨ k = 4 ∨ k = 5 ∨ k = 6 ∨ k = 7 ∨ k = 8 ∨ k = 9 := by omega
  rcases this with rfl | rfl | rfl | rfl | rfl | rfl | rfl | rfl | rfl | rfl <;> rfl
theorem letter_by (k : Nat) : By (letterS k) := by
  by_cases h : k < 10
  · have : k = 0 ∨ k = 1 ∨ k = 2 ∨ k = 3 ∨ k = 4 ∨ k = 5 ∨ k = 6 ∨ k = 7 ∨ k = 8 ∨ k = 9 := by omega
    rcases this with rfl | rfl | rfl | rfl | rfl | rfl | rfl | rfl | rfl | rfl <;> (intro c hc; simp [letterS] at hc; try omega)
  · intro c hc
    unfold letterS at hc
    rw [List.getD_eq_getElem?_getD, List.getElem?_eq_none (by simp; omega)] at hc
    cases hc
def tailV : Option Int → AV
  | some e => .tp [.v (.int .i64 e), .v (.bool true)]
  | none => .tp [.v (.int .i64 0), .v (.bool false)]
/-- What no letter says is an exponent, or nothing. -/
def expL : List Nat → Option Int
  | 101 :: r => expS r
  | _ => none
theorem letters_exp (l : List Nat) (h : ∀ k, k < 10 → l ≠ letterS k) : lettersS l = expL l := by
  have h0 := h 0 (by decide)
  have h1 := h 1 (by decide)
  have h2 := h 2 (by decide)
  have h3 := h 3 (by decide)
  have h4 := h 4 (by decide)
  have h5 := h 5 (by decide)
  have h6 := h 6 (by decide)
  have h7 := h 7 (by decide)
  have h8 := h 8 (by decide)
  have h9 := h 9 (by decide)
  simp only [letterS, List.getD_cons_zero, List.getD_cons_succ] at h0 h1 h2 h3 h4 h5 h6 h7 h8 h9
  unfold lettersS expL
  split <;> simp_all
theorem two_bad (d : List Nat) (h : ¬ (d.length = 1 ∨ d.length = 2)) : two d = none := by
  unfold two
  split
  · simp at h
  · simp at h
  · rfl
theorem two_good (d : List Nat) (h1 : 1 ≤ d.length) (h2 : d.length ≤ 2) : two d = if ∀ c ∈ d, isD c = true then some (digV d : Int) else none := by
  match d with
  | [] => simp at h1
  | [a] =>
    show (if isD a then some ((a : Int) - 48) else none) = _
    by_cases q : isD a = true
    · have := (isD_iff a).1 q
      rw [if_pos q, if_pos (by simpa using q)]
      congr 1
      simp [digV]
      omega
    · rw [if_neg q, if_neg (by simpa using q)]
  | [a, b] =>
    show (if isD a && isD b then some (10 * ((a : Int) - 48) + ((b : Int) - 48)) else none) = _
    by_cases q : isD a = true ∧ isD b = true
    · have h3 := (isD_iff a).1 q.1
      have h4 := (isD_iff b).1 q.2
      rw [if_pos (by simp [q.1, q.2]), if_pos (by simpa using q)]
      congr 1
      simp [digV]
      omega
    · rw [if_neg (by simpa using q), if_neg (by simpa using q)]
  | _ :: _ :: _ :: _ => simp at h2
theorem digV_one (d : List Nat) (h : ∀ c ∈ d.take 1, isD c = true) : digV (d.take 1) ≤ 9 := by
  cases d with
  | nil => simp [digV]
  | cons a d =>
    have := (isD_iff a).1 (h a (by simp))
    simp [digV]
    omega
theorem digV_two (d : List Nat) (hl : d.length ≤ 2) (h : ∀ c ∈ d, isD c = true) : digV d ≤ 99 := by
  match d with
  | [] => simp [digV]
  | [a] =>
    have := (isD_iff a).1 (h a (by simp))
    simp [digV]
    omega
  | [a, b] =>
    have h3 := (isD_iff a).1 (h a (by simp))
    have h4 := (isD_iff b).1 (h b (by simp))
    simp [digV]
    omega
  | _ :: _ :: _ :: _ => simp at hl
theorem take_snoc (d : List Nat) (j : Nat) (h : j < d.length) : d.take (j + 1) = d.take j ++ [d.getD j 0] := by
  rw [List.take_succ_eq_append_getElem h, List.getD_eq_getElem?_getD, List.getElem?_eq_getElem h]
  rfl
theorem exp_ways (r : List Nat) : (∃ d, 101 :: r = 101 :: 45 :: d ∧ expS r = (two d).map fun v => -v) ∨ (∃ d, 101 :: r = 101 :: 43 :: d ∧ expS r = two d) ∨ (∃ d, 101 :: r = 101 :: d ∧ expS r = two d ∧ r.getD 0 0 ≠ 45 ∧ r.getD 0 0 ≠ 43) := by
  unfold expS
  split
  · exact .inl ⟨_, rfl, rfl⟩
  · exact .inr (.inl ⟨_, rfl, rfl⟩)
  · rename_i h1 h2
    refine .inr (.inr ⟨r, rfl, rfl, ?_, ?_⟩)
    · cases r with
      | nil => simp
      | cons a r =>
        intro e
        exact h1 r (by simpa using e)
    · cases r with
      | nil => simp
      | cons a r =>
        intro e
        exact h2 r (by simpa using e)
theorem tail_ax (l : List Nat) (h : By l) (hl : l.length ≤ 1000000000) : PCall Tryz.prog 59 [.v (.string (bs l))] (tailV (lettersS l)) := by
  have hid : idf (tailV (lettersS l)) = true := by cases lettersS l <;> rfl
  refine pcall_of fun s => ?_
  rw [hid]
  have l1 := bs_size l
  refine acall_of Tryz.func59 rfl rfl (by simp [Tryz.ntmps59]) ?_; rw [Tryz.ntmps59, Tryz.results59]
  (first | refine go rTI ?_ | exact go0 rTI)
  refine aw_loop (fun n e s' => ∃ k : Nat, n = 10 - k ∧ k ≤ 10 ∧ e.n = 78 ∧ e.m 0 = .v (.string (bs l)) ∧ e.m 4 = .own s.nx 0 10 1 ∧ e.m 5 = .v (.int .i64 k) ∧ s'.get s.nx = some NL ∧ (∀ i, i < s.nx → s'.get i = s.get i) ∧ ∀ j, j < k → l ≠ letterS j) 10 ?_ ?_
  · refine ⟨0, ?_⟩
    (first | refine rn trivial ?_ | exact rn0 trivial)
    exact ⟨rfl, rfl, fun i hi => if_neg (by omega), fun j hj => absurd hj (by omega)⟩
  · rintro n e s' ⟨k, rfl, hk, h1, k0, k4, k5, g, fr, hne⟩
    have z3 : (k : Int) + 1 = ((k + 1 : Nat) : Int) := rfl
    by_cases hk2 : k < 10
    · have o1 := hd_NL k hk2
      have e1 := bs_beq l (letterS k) h (letter_by k)
      by_cases q : l = letterS k
      · rw [decide_eq_true q] at e1
        have hv := (letter_reads k hk2).1
        rw [← q] at hv
        rw [hv]
        (first | refine go (cj rTI (cj @h1 (cj @k0 (cj @k4 @k5)))) ?_ | exact go0 (cj rTI (cj @h1 (cj @k0 (cj @k4 @k5)))))
        (try rw [then_normal]); (try refine aw_seq ?_); refine aw_cond rfl ?_ ?_ <;> intro hb <;> (try (cases hb; done)) <;> (try simp only [bq] at hb) <;> (try (exfalso; omega))
        (first | refine go (cj rTI (cj @h1 (cj @k0 (cj @k4 (cj @k5 (cj @g (cj @o1 (cj @e1 @Nat.zero_add)))))))) ?_ | exact go0 (cj rTI (cj @h1 (cj @k0 (cj @k4 (cj @k5 (cj @g (cj @o1 (cj @e1 @Nat.zero_add)))))))))
        rw [then_normal]
        (try rw [then_normal]); (try refine aw_seq ?_); refine aw_cond rfl ?_ ?_ <;> intro hb <;> (try (cases hb; done)) <;> (try simp only [bq] at hb) <;> (try (exfalso; omega))
        (first | refine go (cj rTI (cj @h1 (cj @k0 (cj @k4 (cj @k5 (cj @g (cj @o1 (cj @e1 @Nat.zero_add)))))))) ?_ | exact go0 (cj rTI (cj @h1 (cj @k0 (cj @k4 (cj @k5 (cj @g (cj @o1 (cj @e1 @Nat.zero_add)))))))))
        exact ⟨rfl, fr⟩
      · rw [decide_eq_false q] at e1
        (first | refine go (cj rTI (cj @h1 (cj @k0 (cj @k4 @k5)))) ?_ | exact go0 (cj rTI (cj @h1 (cj @k0 (cj @k4 @k5)))))
        (try rw [then_normal]); (try refine aw_seq ?_); refine aw_cond rfl ?_ ?_ <;> intro hb <;> (try (cases hb; done)) <;> (try simp only [bq] at hb) <;> (try (exfalso; omega))
        (first | refine go (cj rTI (cj @h1 (cj @k0 (cj @k4 (cj @k5 (cj @g (cj @o1 (cj @e1 @Nat.zero_add)))))))) ?_ | exact go0 (cj rTI (cj @h1 (cj @k0 (cj @k4 (cj @k5 (cj @g (cj @o1 (cj @e1 @Nat.zero_add)))))))))
        rw [then_normal]
        (try rw [then_normal]); (try refine aw_seq ?_); refine aw_cond rfl ?_ ?_ <;> intro hb <;> (try (cases hb; done)) <;> (try simp only [bq] at hb) <;> (try (exfalso; omega))
        (first | refine go (cj rTI (cj @h1 (cj @k0 (cj @k4 (cj @k5 (cj @g (cj @o1 (cj @e1 @Nat.zero_add)))))))) ?_ | exact go0 (cj rTI (cj @h1 (cj @k0 (cj @k4 (cj @k5 (cj @g (cj @o1 (cj @e1 @Nat.zero_add)))))))))
        simp only [block_normal, loop_normal]
        refine ⟨10 - (k + 1), by omega, k + 1, rfl, by omega, ?_⟩
        (first | refine rn (cj @h1 (cj @k0 (cj @k4 (cj @k5 (cj @g @z3))))) ?_ | exact rn0 (cj @h1 (cj @k0 (cj @k4 (cj @k5 (cj @g @z3))))))
        refine ⟨fr, fun j hj => ?_⟩
        by_cases e : j = k
        · rw [e]; exact q
        · exact hne j (by omega)
    · obtain rfl : k = 10 := by omega
      have hL := letters_exp l hne
      rw [hL]
      have hl0 : 0 < l.length := by
        have := hne 5 (by decide)
        cases l with
        | nil => exact absurd rfl this
        | cons c r => simp
      clear hne hL
      have k5' : e.m 5 = .v (.int .i64 10) := k5
      clear k5
      have g0 := bs_get l h 0
      have tz : Int.toNat 0 = 0 := rfl
      have to1 : Int.toNat 1 = 1 := rfl
      obtain ⟨c, r, rfl⟩ : ∃ c r, l = c :: r := by
        cases l with
        | nil => simp at hl0
        | cons c r => exact ⟨c, r, rfl⟩
      rw [List.getD_cons_zero] at g0
      by_cases qe : c = 101
      · subst qe
        rw [show expL (101 :: r) = expS r from rfl]
        (first | refine go (cj rTI (cj @h1 (cj @k0 (cj @k4 @k5')))) ?_ | exact go0 (cj rTI (cj @h1 (cj @k0 (cj @k4 @k5')))))
        (try rw [then_normal]); (try refine aw_seq ?_); refine aw_cond rfl ?_ ?_ <;> intro hb <;> (try (cases hb; done)) <;> (try simp only [bq] at hb) <;> (try (exfalso; omega))
        (first | refine go (cj rTI (cj @h1 (cj @k0 (cj @l1 (cj @g0 @tz))))) ?_ | exact go0 (cj rTI (cj @h1 (cj @k0 (cj @l1 (cj @g0 @tz))))))
        rw [then_normal]
        (try rw [then_normal]); (try refine aw_seq ?_); refine aw_cond rfl ?_ ?_ <;> intro hb <;> (try (cases hb; done)) <;> (try simp only [bq] at hb) <;> (try (exfalso; omega))
        (first | refine go (cj rTI (cj @h1 @k0)) ?_ | exact go0 (cj rTI (cj @h1 @k0)))
        rcases exp_ways r with ⟨d, hrd, hexp⟩ | ⟨d, hrd, hexp⟩ | ⟨d, hrd, hexp, hn1, hn2⟩
        · have hlen : 1 < r.length + 1 := by have := congrArg List.length hrd; simp only [List.length_cons] at this; omega
          have g1 := bs_get (101 :: r) h 1
          rw [show (101 :: r).getD 1 0 = 45 by rw [hrd]; rfl] at g1
          (first | refine go (cj rTI (cj @h1 (cj @k0 (cj @l1 (cj @g1 @to1))))) ?_ | exact go0 (cj rTI (cj @h1 (cj @k0 (cj @l1 (cj @g1 @to1))))))
          (try rw [then_normal]); (try refine aw_seq ?_); refine aw_cond rfl ?_ ?_ <;> intro hb <;> (try (cases hb; done)) <;> (try simp only [bq] at hb) <;> (try (exfalso; omega))
          (first | refine go (cj rTI (cj @h1 (cj @k0 (cj @l1 (cj @g1 @to1))))) ?_ | exact go0 (cj rTI (cj @h1 (cj @k0 (cj @l1 (cj @g1 @to1))))))
          rw [then_normal]
          (try rw [then_normal]); (try refine aw_seq ?_); refine aw_cond rfl ?_ ?_ <;> intro hb <;> (try (cases hb; done)) <;> (try simp only [bq] at hb) <;> (try (exfalso; omega))
          (first | refine go (cj @h1 @k0) ?_ | exact go0 (cj @h1 @k0))

          have ldl : (101 :: r).length = d.length + 2 := by simp [hrd]
          have hget : ∀ j, (101 :: r).getD (2 + j) 0 = d.getD j 0 := fun j => by rw [hrd, Nat.add_comm]; rfl
          have hby : By d := fun c hc => h c (by simp [hrd, hc])
          rw [ldl] at l1 hl
          rw [hexp]
          by_cases q1 : d.length < 1
          · rw [two_bad d (fun h => by omega)]
            (first | refine go (cj rTI (cj @h1 (cj @k0 @l1))) ?_ | exact go0 (cj rTI (cj @h1 (cj @k0 @l1))))
            (try rw [then_normal]); (try refine aw_seq ?_); refine aw_cond rfl ?_ ?_ <;> intro hb <;> (try (cases hb; done)) <;> (try simp only [bq] at hb) <;> (try (exfalso; omega))
            all_goals (((first | refine go @h1 ?_ | exact go0 @h1)); exact ⟨rfl, fr⟩)
          · by_cases q2 : 2 < d.length
            · rw [two_bad d (fun h => by omega)]
              (first | refine go (cj rTI (cj @h1 (cj @k0 @l1))) ?_ | exact go0 (cj rTI (cj @h1 (cj @k0 @l1))))
              (try rw [then_normal]); (try refine aw_seq ?_); refine aw_cond rfl ?_ ?_ <;> intro hb <;> (try (cases hb; done)) <;> (try simp only [bq] at hb) <;> (try (exfalso; omega))
              (first | refine go @h1 ?_ | exact go0 @h1)
              exact ⟨rfl, fr⟩
            · have htwo := two_good d (by omega) (by omega)
              (first | refine go (cj rTI (cj @h1 (cj @k0 @l1))) ?_ | exact go0 (cj rTI (cj @h1 (cj @k0 @l1))))
              (try rw [then_normal]); (try refine aw_seq ?_); refine aw_cond rfl ?_ ?_ <;> intro hb <;> (try (cases hb; done)) <;> (try simp only [bq] at hb) <;> (try (exfalso; omega))
              (first | refine go (cj @h1 @k0) ?_ | exact go0 (cj @h1 @k0))
              refine aw_loop (fun n e s2 => ∃ j : Nat, n = d.length - j ∧ j ≤ d.length ∧ e.n = 78 ∧ e.m 0 = .v (.string (bs (101 :: r))) ∧ e.m 6 = .v (.int .i64 ((2 + j : Nat) : Int)) ∧ e.m 7 = .v (.int .i64 (-1)) ∧ e.m 8 = .v (.int .i64 (digV (d.take j) : Nat)) ∧ (∀ c ∈ d.take j, isD c = true) ∧ s2 = s') d.length ?_ ?_
              · refine ⟨0, ?_⟩
                (first | refine rn (cj @h1 @k0) ?_ | exact rn0 (cj @h1 @k0))
                exact ⟨by omega, by omega, rfl, rfl, fun c hc => by simp at hc⟩
              · clear h1 k0 k4
                rintro n e2 s2 ⟨j, rfl, hj, h1, k0, k6, k7, k8, hd, rfl⟩
                have z3 : ((2 + j : Nat) : Int) + 1 = ((2 + (j + 1) : Nat) : Int) := rfl
                by_cases hj2 : j < d.length
                · have hg := bs_get (101 :: r) h (2 + j)
                  rw [hget j] at hg
                  have hc : d.getD j 0 < 256 := by
                    rw [List.getD_eq_getElem?_getD, List.getElem?_eq_getElem hj2]
                    exact hby _ (List.getElem_mem hj2)
                  have hsn := take_snoc d j hj2
                  have hdd := isDigit_ax (d.getD j 0) hc
                  by_cases qd : isD (d.getD j 0) = true
                  · obtain ⟨e1, e2'⟩ := (isD_iff _).1 qd
                    have hv : digV (d.take (j + 1)) = 10 * digV (d.take j) + (d.getD j 0 - 48) := by rw [hsn, digV_snoc]
                    have hvb : digV (d.take j) ≤ 9 := by
                      have : j = 0 ∨ j = 1 := by omega
                      rcases this with rfl | rfl
                      · simp [digV]
                      · exact digV_one d hd
                    have hall : ∀ c ∈ d.take (j + 1), isD c = true := by
                      rw [hsn]
                      intro c hc
                      rcases List.mem_append.1 hc with hc | hc
                      · exact hd c hc
                      · rw [List.mem_singleton.1 hc]; exact qd
                    rw [qd] at hdd
                    clear qd
                    generalize d.getD j 0 = c at *
                    have e3 : ((c : Int) - 48) = ((c - 48 : Nat) : Int) := by omega
                    have e4 : 10 * (digV (d.take j) : Int) + ((c - 48 : Nat) : Int) = (digV (d.take (j + 1)) : Nat) := by rw [hv]; omega
                    generalize digV (d.take j) = v at *
                    generalize hv' : digV (d.take (j + 1)) = v' at *
                    (first | refine go (cj rTI (cj @h1 (cj @k0 (cj @k6 @l1)))) ?_ | exact go0 (cj rTI (cj @h1 (cj @k0 (cj @k6 @l1)))))
                    (try rw [then_normal]); (try refine aw_seq ?_); refine aw_cond rfl ?_ ?_ <;> intro hb <;> (try (cases hb; done)) <;> (try simp only [bq] at hb) <;> (try (exfalso; omega))
                    (first | refine go (cj @h1 @k0) ?_ | exact go0 (cj @h1 @k0))
                    refine aw_reg fun K hK => ?_; refine rn (cj rTI (cj @k0 (cj @k6 (cj @l1 @hg)))) ?_; refine cont_pure hdd ?_; refine rn (cj rTI (cj @k0 (cj @k6 (cj @l1 @hg)))) ?_; refine hK _ _ ?_; clear hK K
                    rw [then_normal]
                    (try rw [then_normal]); (try refine aw_seq ?_); refine aw_cond rfl ?_ ?_ <;> intro hb <;> (try (cases hb; done)) <;> (try simp only [bq] at hb) <;> (try (exfalso; omega))
                    (first | refine go (cj rTI (cj @h1 (cj @k0 (cj @k6 (cj @k8 (cj @l1 (cj @hg (cj @e3 @e4)))))))) ?_ | exact go0 (cj rTI (cj @h1 (cj @k0 (cj @k6 (cj @k8 (cj @l1 (cj @hg (cj @e3 @e4)))))))))
                    simp only [block_normal, loop_normal]
                    refine ⟨d.length - (j + 1), by omega, j + 1, rfl, by omega, ?_⟩
                    (first | refine rn (cj @h1 (cj @k0 (cj @k6 (cj @k7 @z3)))) ?_ | exact rn0 (cj @h1 (cj @k0 (cj @k6 (cj @k7 @z3)))))
                    exact ⟨by rw [hv'], hall⟩
                  · have qd' : isD (d.getD j 0) = false := by simpa using qd
                    rw [qd'] at hdd
                    have hno : two d = none := by
                      rw [htwo, if_neg]
                      intro hall
                      apply qd
                      rw [List.getD_eq_getElem?_getD, List.getElem?_eq_getElem hj2]
                      exact hall _ (List.getElem_mem hj2)
                    rw [hno]
                    clear htwo hno qd qd' hsn hd
                    generalize d.getD j 0 = c at *
                    (first | refine go (cj rTI (cj @h1 (cj @k0 (cj @k6 @l1)))) ?_ | exact go0 (cj rTI (cj @h1 (cj @k0 (cj @k6 @l1)))))
                    (try rw [then_normal]); (try refine aw_seq ?_); refine aw_cond rfl ?_ ?_ <;> intro hb <;> (try (cases hb; done)) <;> (try simp only [bq] at hb) <;> (try (exfalso; omega))
                    (first | refine go (cj @h1 @k0) ?_ | exact go0 (cj @h1 @k0))
                    refine aw_reg fun K hK => ?_; refine rn (cj rTI (cj @k0 (cj @k6 (cj @l1 @hg)))) ?_; refine cont_pure hdd ?_; refine rn (cj rTI (cj @k0 (cj @k6 (cj @l1 @hg)))) ?_; refine hK _ _ ?_; clear hK K
                    rw [then_normal]
                    (try rw [then_normal]); (try refine aw_seq ?_); refine aw_cond rfl ?_ ?_ <;> intro hb <;> (try (cases hb; done)) <;> (try simp only [bq] at hb) <;> (try (exfalso; omega))
                    (first | refine go (cj rTI (cj @h1 @k0)) ?_ | exact go0 (cj rTI (cj @h1 @k0)))
                    exact ⟨rfl, fr⟩
                · obtain rfl : j = d.length := by omega
                  rw [List.take_length] at k8 hd
                  rw [htwo, if_pos hd]
                  have hvb : digV d ≤ 99 := digV_two d (by omega) hd
                  clear htwo hd
                  generalize digV d = v at *
                  (first | refine go (cj rTI (cj @h1 (cj @k0 (cj @k6 @l1)))) ?_ | exact go0 (cj rTI (cj @h1 (cj @k0 (cj @k6 @l1)))))
                  (try rw [then_normal]); (try refine aw_seq ?_); refine aw_cond rfl ?_ ?_ <;> intro hb <;> (try (cases hb; done)) <;> (try simp only [bq] at hb) <;> (try (exfalso; omega))
                  (first | refine go (cj @h1 (cj @k7 @k8)) ?_ | exact go0 (cj @h1 (cj @k7 @k8)))
                  exact ⟨by show _ = AV.tp [.v (.int .i64 (-(v : Int))), _]; simp, fr⟩
        · have hlen : 1 < r.length + 1 := by have := congrArg List.length hrd; simp only [List.length_cons] at this; omega
          have g1 := bs_get (101 :: r) h 1
          rw [show (101 :: r).getD 1 0 = 43 by rw [hrd]; rfl] at g1
          (first | refine go (cj rTI (cj @h1 (cj @k0 (cj @l1 (cj @g1 @to1))))) ?_ | exact go0 (cj rTI (cj @h1 (cj @k0 (cj @l1 (cj @g1 @to1))))))
          (try rw [then_normal]); (try refine aw_seq ?_); refine aw_cond rfl ?_ ?_ <;> intro hb <;> (try (cases hb; done)) <;> (try simp only [bq] at hb) <;> (try (exfalso; omega))
          (first | refine go (cj rTI (cj @h1 (cj @k0 (cj @l1 (cj @g1 @to1))))) ?_ | exact go0 (cj rTI (cj @h1 (cj @k0 (cj @l1 (cj @g1 @to1))))))
          rw [then_normal]
          (try rw [then_normal]); (try refine aw_seq ?_); refine aw_cond rfl ?_ ?_ <;> intro hb <;> (try (cases hb; done)) <;> (try simp only [bq] at hb) <;> (try (exfalso; omega))
          (first | refine go (cj @h1 @k0) ?_ | exact go0 (cj @h1 @k0))

          have ldl : (101 :: r).length = d.length + 2 := by simp [hrd]
          have hget : ∀ j, (101 :: r).getD (2 + j) 0 = d.getD j 0 := fun j => by rw [hrd, Nat.add_comm]; rfl
          have hby : By d := fun c hc => h c (by simp [hrd, hc])
          rw [ldl] at l1 hl
          rw [hexp]
          by_cases q1 : d.length < 1
          · rw [two_bad d (fun h => by omega)]
            (first | refine go (cj rTI (cj @h1 (cj @k0 @l1))) ?_ | exact go0 (cj rTI (cj @h1 (cj @k0 @l1))))
            (try rw [then_normal]); (try refine aw_seq ?_); refine aw_cond rfl ?_ ?_ <;> intro hb <;> (try (cases hb; done)) <;> (try simp only [bq] at hb) <;> (try (exfalso; omega))
            all_goals (((first | refine go @h1 ?_ | exact go0 @h1)); exact ⟨rfl, fr⟩)
          · by_cases q2 : 2 < d.length
            · rw [two_bad d (fun h => by omega)]
              (first | refine go (cj rTI (cj @h1 (cj @k0 @l1))) ?_ | exact go0 (cj rTI (cj @h1 (cj @k0 @l1))))
              (try rw [then_normal]); (try refine aw_seq ?_); refine aw_cond rfl ?_ ?_ <;> intro hb <;> (try (cases hb; done)) <;> (try simp only [bq] at hb) <;> (try (exfalso; omega))
              (first | refine go @h1 ?_ | exact go0 @h1)
              exact ⟨rfl, fr⟩
            · have htwo := two_good d (by omega) (by omega)
              (first | refine go (cj rTI (cj @h1 (cj @k0 @l1))) ?_ | exact go0 (cj rTI (cj @h1 (cj @k0 @l1))))
              (try rw [then_normal]); (try refine aw_seq ?_); refine aw_cond rfl ?_ ?_ <;> intro hb <;> (try (cases hb; done)) <;> (try simp only [bq] at hb) <;> (try (exfalso; omega))
              (first | refine go (cj @h1 @k0) ?_ | exact go0 (cj @h1 @k0))
              refine aw_loop (fun n e s2 => ∃ j : Nat, n = d.length - j ∧ j ≤ d.length ∧ e.n = 78 ∧ e.m 0 = .v (.string (bs (101 :: r))) ∧ e.m 6 = .v (.int .i64 ((2 + j : Nat) : Int)) ∧ e.m 7 = .v (.int .i64 1) ∧ e.m 8 = .v (.int .i64 (digV (d.take j) : Nat)) ∧ (∀ c ∈ d.take j, isD c = true) ∧ s2 = s') d.length ?_ ?_
              · refine ⟨0, ?_⟩
                (first | refine rn (cj @h1 @k0) ?_ | exact rn0 (cj @h1 @k0))
                exact ⟨by omega, by omega, rfl, rfl, fun c hc => by simp at hc⟩
              · clear h1 k0 k4
                rintro n e2 s2 ⟨j, rfl, hj, h1, k0, k6, k7, k8, hd, rfl⟩
                have z3 : ((2 + j : Nat) : Int) + 1 = ((2 + (j + 1) : Nat) : Int) := rfl
                by_cases hj2 : j < d.length
                · have hg := bs_get (101 :: r) h (2 + j)
                  rw [hget j] at hg
                  have hc : d.getD j 0 < 256 := by
                    rw [List.getD_eq_getElem?_getD, List.getElem?_eq_getElem hj2]
                    exact hby _ (List.getElem_mem hj2)
                  have hsn := take_snoc d j hj2
                  have hdd := isDigit_ax (d.getD j 0) hc
                  by_cases qd : isD (d.getD j 0) = true
                  · obtain ⟨e1, e2'⟩ := (isD_iff _).1 qd
                    have hv : digV (d.take (j + 1)) = 10 * digV (d.take j) + (d.getD j 0 - 48) := by rw [hsn, digV_snoc]
                    have hvb : digV (d.take j) ≤ 9 := by
                      have : j = 0 ∨ j = 1 := by omega
                      rcases this with rfl | rfl
                      · simp [digV]
                      · exact digV_one d hd
                    have hall : ∀ c ∈ d.take (j + 1), isD c = true := by
                      rw [hsn]
                      intro c hc
                      rcases List.mem_append.1 hc with hc | hc
                      · exact hd c hc
                      · rw [List.mem_singleton.1 hc]; exact qd
                    rw [qd] at hdd
                    clear qd
                    generalize d.getD j 0 = c at *
                    have e3 : ((c : Int) - 48) = ((c - 48 : Nat) : Int) := by omega
                    have e4 : 10 * (digV (d.take j) : Int) + ((c - 48 : Nat) : Int) = (digV (d.take (j + 1)) : Nat) := by rw [hv]; omega
                    generalize digV (d.take j) = v at *
                    generalize hv' : digV (d.take (j + 1)) = v' at *
                    (first | refine go (cj rTI (cj @h1 (cj @k0 (cj @k6 @l1)))) ?_ | exact go0 (cj rTI (cj @h1 (cj @k0 (cj @k6 @l1)))))
                    (try rw [then_normal]); (try refine aw_seq ?_); refine aw_cond rfl ?_ ?_ <;> intro hb <;> (try (cases hb; done)) <;> (try simp only [bq] at hb) <;> (try (exfalso; omega))
                    (first | refine go (cj @h1 @k0) ?_ | exact go0 (cj @h1 @k0))
                    refine aw_reg fun K hK => ?_; refine rn (cj rTI (cj @k0 (cj @k6 (cj @l1 @hg)))) ?_; refine cont_pure hdd ?_; refine rn (cj rTI (cj @k0 (cj @k6 (cj @l1 @hg)))) ?_; refine hK _ _ ?_; clear hK K
                    rw [then_normal]
                    (try rw [then_normal]); (try refine aw_seq ?_); refine aw_cond rfl ?_ ?_ <;> intro hb <;> (try (cases hb; done)) <;> (try simp only [bq] at hb) <;> (try (exfalso; omega))
                    (first | refine go (cj rTI (cj @h1 (cj @k0 (cj @k6 (cj @k8 (cj @l1 (cj @hg (cj @e3 @e4)))))))) ?_ | exact go0 (cj rTI (cj @h1 (cj @k0 (cj @k6 (cj @k8 (cj @l1 (cj @hg (cj @e3 @e4)))))))))
                    simp only [block_normal, loop_normal]
                    refine ⟨d.length - (j + 1), by omega, j + 1, rfl, by omega, ?_⟩
                    (first | refine rn (cj @h1 (cj @k0 (cj @k6 (cj @k7 @z3)))) ?_ | exact rn0 (cj @h1 (cj @k0 (cj @k6 (cj @k7 @z3)))))
                    exact ⟨by rw [hv'], hall⟩
                  · have qd' : isD (d.getD j 0) = false := by simpa using qd
                    rw [qd'] at hdd
                    have hno : two d = none := by
                      rw [htwo, if_neg]
                      intro hall
                      apply qd
                      rw [List.getD_eq_getElem?_getD, List.getElem?_eq_getElem hj2]
                      exact hall _ (List.getElem_mem hj2)
                    rw [hno]
                    clear htwo hno qd qd' hsn hd
                    generalize d.getD j 0 = c at *
                    (first | refine go (cj rTI (cj @h1 (cj @k0 (cj @k6 @l1)))) ?_ | exact go0 (cj rTI (cj @h1 (cj @k0 (cj @k6 @l1)))))
                    (try rw [then_normal]); (try refine aw_seq ?_); refine aw_cond rfl ?_ ?_ <;> intro hb <;> (try (cases hb; done)) <;> (try simp only [bq] at hb) <;> (try (exfalso; omega))
                    (first | refine go (cj @h1 @k0) ?_ | exact go0 (cj @h1 @k0))
                    refine aw_reg fun K hK => ?_; refine rn (cj rTI (cj @k0 (cj @k6 (cj @l1 @hg)))) ?_; refine cont_pure hdd ?_; refine rn (cj rTI (cj @k0 (cj @k6 (cj @l1 @hg)))) ?_; refine hK _ _ ?_; clear hK K
                    rw [then_normal]
                    (try rw [then_normal]); (try refine aw_seq ?_); refine aw_cond rfl ?_ ?_ <;> intro hb <;> (try (cases hb; done)) <;> (try simp only [bq] at hb) <;> (try (exfalso; omega))
                    (first | refine go (cj rTI (cj @h1 @k0)) ?_ | exact go0 (cj rTI (cj @h1 @k0)))
                    exact ⟨rfl, fr⟩
                · obtain rfl : j = d.length := by omega
                  rw [List.take_length] at k8 hd
                  rw [htwo, if_pos hd]
                  have hvb : digV d ≤ 99 := digV_two d (by omega) hd
                  clear htwo hd
                  generalize digV d = v at *
                  (first | refine go (cj rTI (cj @h1 (cj @k0 (cj @k6 @l1)))) ?_ | exact go0 (cj rTI (cj @h1 (cj @k0 (cj @k6 @l1)))))
                  (try rw [then_normal]); (try refine aw_seq ?_); refine aw_cond rfl ?_ ?_ <;> intro hb <;> (try (cases hb; done)) <;> (try simp only [bq] at hb) <;> (try (exfalso; omega))
                  (first | refine go (cj @h1 (cj @k7 @k8)) ?_ | exact go0 (cj @h1 (cj @k7 @k8)))
                  exact ⟨by show _ = AV.tp [.v (.int .i64 (v : Int)), _]; simp, fr⟩
        · by_cases hlen : 1 < r.length + 1
          · have hlen' : 1 < (101 :: r).length := hlen
            have g1 := bs_get (101 :: r) h 1
            have hc1 : (101 :: r).getD 1 0 < 256 := by
              rw [List.getD_eq_getElem?_getD, List.getElem?_eq_getElem hlen']
              exact h _ (List.getElem_mem hlen')
            have hr1 : (101 :: r).getD 1 0 = r.getD 0 0 := rfl
            rw [hr1] at g1 hc1
            generalize r.getD 0 0 = c1 at *
            (first | refine go (cj rTI (cj @h1 (cj @k0 (cj @l1 (cj @g1 @to1))))) ?_ | exact go0 (cj rTI (cj @h1 (cj @k0 (cj @l1 (cj @g1 @to1))))))
            (try rw [then_normal]); (try refine aw_seq ?_); refine aw_cond rfl ?_ ?_ <;> intro hb <;> (try (cases hb; done)) <;> (try simp only [bq] at hb) <;> (try (exfalso; omega))
            (first | refine go (cj @h1 @k0) ?_ | exact go0 (cj @h1 @k0))
            have ldl : (101 :: r).length = d.length + 1 := by simp [hrd]
            have hget : ∀ j, (101 :: r).getD (1 + j) 0 = d.getD j 0 := fun j => by rw [hrd, Nat.add_comm]; rfl
            have hby : By d := fun c hc => h c (by simp [hrd, hc])
            rw [ldl] at l1 hl
            rw [hexp]
            by_cases q1 : d.length < 1
            · rw [two_bad d (fun h => by omega)]
              (first | refine go (cj rTI (cj @h1 (cj @k0 @l1))) ?_ | exact go0 (cj rTI (cj @h1 (cj @k0 @l1))))
              (try rw [then_normal]); (try refine aw_seq ?_); refine aw_cond rfl ?_ ?_ <;> intro hb <;> (try (cases hb; done)) <;> (try simp only [bq] at hb) <;> (try (exfalso; omega))
              all_goals (((first | refine go @h1 ?_ | exact go0 @h1)); exact ⟨rfl, fr⟩)
            · by_cases q2 : 2 < d.length
              · rw [two_bad d (fun h => by omega)]
                (first | refine go (cj rTI (cj @h1 (cj @k0 @l1))) ?_ | exact go0 (cj rTI (cj @h1 (cj @k0 @l1))))
                (try rw [then_normal]); (try refine aw_seq ?_); refine aw_cond rfl ?_ ?_ <;> intro hb <;> (try (cases hb; done)) <;> (try simp only [bq] at hb) <;> (try (exfalso; omega))
                (first | refine go @h1 ?_ | exact go0 @h1)
                exact ⟨rfl, fr⟩
              · have htwo := two_good d (by omega) (by omega)
                (first | refine go (cj rTI (cj @h1 (cj @k0 @l1))) ?_ | exact go0 (cj rTI (cj @h1 (cj @k0 @l1))))
                (try rw [then_normal]); (try refine aw_seq ?_); refine aw_cond rfl ?_ ?_ <;> intro hb <;> (try (cases hb; done)) <;> (try simp only [bq] at hb) <;> (try (exfalso; omega))
                (first | refine go (cj @h1 @k0) ?_ | exact go0 (cj @h1 @k0))
                refine aw_loop (fun n e s2 => ∃ j : Nat, n = d.length - j ∧ j ≤ d.length ∧ e.n = 78 ∧ e.m 0 = .v (.string (bs (101 :: r))) ∧ e.m 6 = .v (.int .i64 ((1 + j : Nat) : Int)) ∧ e.m 7 = .v (.int .i64 1) ∧ e.m 8 = .v (.int .i64 (digV (d.take j) : Nat)) ∧ (∀ c ∈ d.take j, isD c = true) ∧ s2 = s') d.length ?_ ?_
                · refine ⟨0, ?_⟩
                  (first | refine rn (cj @h1 @k0) ?_ | exact rn0 (cj @h1 @k0))
                  exact ⟨by omega, by omega, rfl, rfl, fun c hc => by simp at hc⟩
                · clear h1 k0 k4
                  rintro n e2 s2 ⟨j, rfl, hj, h1, k0, k6, k7, k8, hd, rfl⟩
                  have z3 : ((1 + j : Nat) : Int) + 1 = ((1 + (j + 1) : Nat) : Int) := rfl
                  by_cases hj2 : j < d.length
                  · have hg := bs_get (101 :: r) h (1 + j)
                    rw [hget j] at hg
                    have hc : d.getD j 0 < 256 := by
                      rw [List.getD_eq_getElem?_getD, List.getElem?_eq_getElem hj2]
                      exact hby _ (List.getElem_mem hj2)
                    have hsn := take_snoc d j hj2
                    have hdd := isDigit_ax (d.getD j 0) hc
                    by_cases qd : isD (d.getD j 0) = true
                    · obtain ⟨e1, e2'⟩ := (isD_iff _).1 qd
                      have hv : digV (d.take (j + 1)) = 10 * digV (d.take j) + (d.getD j 0 - 48) := by rw [hsn, digV_snoc]
                      have hvb : digV (d.take j) ≤ 9 := by
                        have : j = 0 ∨ j = 1 := by omega
                        rcases this with rfl | rfl
                        · simp [digV]
                        · exact digV_one d hd
                      have hall : ∀ c ∈ d.take (j + 1), isD c = true := by
                        rw [hsn]
                        intro c hc
                        rcases List.mem_append.1 hc with hc | hc
                        · exact hd c hc
                        · rw [List.mem_singleton.1 hc]; exact qd
                      rw [qd] at hdd
                      clear qd
                      generalize d.getD j 0 = c at *
                      have e3 : ((c : Int) - 48) = ((c - 48 : Nat) : Int) := by omega
                      have e4 : 10 * (digV (d.take j) : Int) + ((c - 48 : Nat) : Int) = (digV (d.take (j + 1)) : Nat) := by rw [hv]; omega
                      generalize digV (d.take j) = v at *
                      generalize hv' : digV (d.take (j + 1)) = v' at *
                      (first | refine go (cj rTI (cj @h1 (cj @k0 (cj @k6 @l1)))) ?_ | exact go0 (cj rTI (cj @h1 (cj @k0 (cj @k6 @l1)))))
                      (try rw [then_normal]); (try refine aw_seq ?_); refine aw_cond rfl ?_ ?_ <;> intro hb <;> (try (cases hb; done)) <;> (try simp only [bq] at hb) <;> (try (exfalso; omega))
                      (first | refine go (cj @h1 @k0) ?_ | exact go0 (cj @h1 @k0))
                      refine aw_reg fun K hK => ?_; refine rn (cj rTI (cj @k0 (cj @k6 (cj @l1 @hg)))) ?_; refine cont_pure hdd ?_; refine rn (cj rTI (cj @k0 (cj @k6 (cj @l1 @hg)))) ?_; refine hK _ _ ?_; clear hK K
                      rw [then_normal]
                      (try rw [then_normal]); (try refine aw_seq ?_); refine aw_cond rfl ?_ ?_ <;> intro hb <;> (try (cases hb; done)) <;> (try simp only [bq] at hb) <;> (try (exfalso; omega))
                      (first | refine go (cj rTI (cj @h1 (cj @k0 (cj @k6 (cj @k8 (cj @l1 (cj @hg (cj @e3 @e4)))))))) ?_ | exact go0 (cj rTI (cj @h1 (cj @k0 (cj @k6 (cj @k8 (cj @l1 (cj @hg (cj @e3 @e4)))))))))
                      simp only [block_normal, loop_normal]
                      refine ⟨d.length - (j + 1), by omega, j + 1, rfl, by omega, ?_⟩
                      (first | refine rn (cj @h1 (cj @k0 (cj @k6 (cj @k7 @z3)))) ?_ | exact rn0 (cj @h1 (cj @k0 (cj @k6 (cj @k7 @z3)))))
                      exact ⟨by rw [hv'], hall⟩
                    · have qd' : isD (d.getD j 0) = false := by simpa using qd
                      rw [qd'] at hdd
                      have hno : two d = none := by
                        rw [htwo, if_neg]
                        intro hall
                        apply qd
                        rw [List.getD_eq_getElem?_getD, List.getElem?_eq_getElem hj2]
                        exact hall _ (List.getElem_mem hj2)
                      rw [hno]
                      clear htwo hno qd qd' hsn hd
                      generalize d.getD j 0 = c at *
                      (first | refine go (cj rTI (cj @h1 (cj @k0 (cj @k6 @l1)))) ?_ | exact go0 (cj rTI (cj @h1 (cj @k0 (cj @k6 @l1)))))
                      (try rw [then_normal]); (try refine aw_seq ?_); refine aw_cond rfl ?_ ?_ <;> intro hb <;> (try (cases hb; done)) <;> (try simp only [bq] at hb) <;> (try (exfalso; omega))
                      (first | refine go (cj @h1 @k0) ?_ | exact go0 (cj @h1 @k0))
                      refine aw_reg fun K hK => ?_; refine rn (cj rTI (cj @k0 (cj @k6 (cj @l1 @hg)))) ?_; refine cont_pure hdd ?_; refine rn (cj rTI (cj @k0 (cj @k6 (cj @l1 @hg)))) ?_; refine hK _ _ ?_; clear hK K
                      rw [then_normal]
                      (try rw [then_normal]); (try refine aw_seq ?_); refine aw_cond rfl ?_ ?_ <;> intro hb <;> (try (cases hb; done)) <;> (try simp only [bq] at hb) <;> (try (exfalso; omega))
                      (first | refine go (cj rTI (cj @h1 @k0)) ?_ | exact go0 (cj rTI (cj @h1 @k0)))
                      exact ⟨rfl, fr⟩
                  · obtain rfl : j = d.length := by omega
                    rw [List.take_length] at k8 hd
                    rw [htwo, if_pos hd]
                    have hvb : digV d ≤ 99 := digV_two d (by omega) hd
                    clear htwo hd
                    generalize digV d = v at *
                    (first | refine go (cj rTI (cj @h1 (cj @k0 (cj @k6 @l1)))) ?_ | exact go0 (cj rTI (cj @h1 (cj @k0 (cj @k6 @l1)))))
                    (try rw [then_normal]); (try refine aw_seq ?_); refine aw_cond rfl ?_ ?_ <;> intro hb <;> (try (cases hb; done)) <;> (try simp only [bq] at hb) <;> (try (exfalso; omega))
                    (first | refine go (cj @h1 (cj @k7 @k8)) ?_ | exact go0 (cj @h1 (cj @k7 @k8)))
                    exact ⟨by show _ = AV.tp [.v (.int .i64 (v : Int)), _]; simp, fr⟩
          · (first | refine go (cj rTI (cj @h1 (cj @k0 @l1))) ?_ | exact go0 (cj rTI (cj @h1 (cj @k0 @l1))))
            (try rw [then_normal]); (try refine aw_seq ?_); refine aw_cond rfl ?_ ?_ <;> intro hb <;> (try (cases hb; done)) <;> (try simp only [bq] at hb) <;> (try (exfalso; omega))
            (first | refine go (cj @h1 @k0) ?_ | exact go0 (cj @h1 @k0))
            have ldl : (101 :: r).length = d.length + 1 := by simp [hrd]
            have hget : ∀ j, (101 :: r).getD (1 + j) 0 = d.getD j 0 := fun j => by rw [hrd, Nat.add_comm]; rfl
            have hby : By d := fun c hc => h c (by simp [hrd, hc])
            rw [ldl] at l1 hl
            rw [hexp]
            by_cases q1 : d.length < 1
            · rw [two_bad d (fun h => by omega)]
              (first | refine go (cj rTI (cj @h1 (cj @k0 @l1))) ?_ | exact go0 (cj rTI (cj @h1 (cj @k0 @l1))))
              (try rw [then_normal]); (try refine aw_seq ?_); refine aw_cond rfl ?_ ?_ <;> intro hb <;> (try (cases hb; done)) <;> (try simp only [bq] at hb) <;> (try (exfalso; omega))
              all_goals (((first | refine go @h1 ?_ | exact go0 @h1)); exact ⟨rfl, fr⟩)
            · by_cases q2 : 2 < d.length
              · rw [two_bad d (fun h => by omega)]
                (first | refine go (cj rTI (cj @h1 (cj @k0 @l1))) ?_ | exact go0 (cj rTI (cj @h1 (cj @k0 @l1))))
                (try rw [then_normal]); (try refine aw_seq ?_); refine aw_cond rfl ?_ ?_ <;> intro hb <;> (try (cases hb; done)) <;> (try simp only [bq] at hb) <;> (try (exfalso; omega))
                (first | refine go @h1 ?_ | exact go0 @h1)
                exact ⟨rfl, fr⟩
              · have htwo := two_good d (by omega) (by omega)
                (first | refine go (cj rTI (cj @h1 (cj @k0 @l1))) ?_ | exact go0 (cj rTI (cj @h1 (cj @k0 @l1))))
                (try rw [then_normal]); (try refine aw_seq ?_); refine aw_cond rfl ?_ ?_ <;> intro hb <;> (try (cases hb; done)) <;> (try simp only [bq] at hb) <;> (try (exfalso; omega))
                (first | refine go (cj @h1 @k0) ?_ | exact go0 (cj @h1 @k0))
                refine aw_loop (fun n e s2 => ∃ j : Nat, n = d.length - j ∧ j ≤ d.length ∧ e.n = 78 ∧ e.m 0 = .v (.string (bs (101 :: r))) ∧ e.m 6 = .v (.int .i64 ((1 + j : Nat) : Int)) ∧ e.m 7 = .v (.int .i64 1) ∧ e.m 8 = .v (.int .i64 (digV (d.take j) : Nat)) ∧ (∀ c ∈ d.take j, isD c = true) ∧ s2 = s') d.length ?_ ?_
                · refine ⟨0, ?_⟩
                  (first | refine rn (cj @h1 @k0) ?_ | exact rn0 (cj @h1 @k0))
                  exact ⟨by omega, by omega, rfl, rfl, fun c hc => by simp at hc⟩
                · clear h1 k0 k4
                  rintro n e2 s2 ⟨j, rfl, hj, h1, k0, k6, k7, k8, hd, rfl⟩
                  have z3 : ((1 + j : Nat) : Int) + 1 = ((1 + (j + 1) : Nat) : Int) := rfl
                  by_cases hj2 : j < d.length
                  · have hg := bs_get (101 :: r) h (1 + j)
                    rw [hget j] at hg
                    have hc : d.getD j 0 < 256 := by
                      rw [List.getD_eq_getElem?_getD, List.getElem?_eq_getElem hj2]
                      exact hby _ (List.getElem_mem hj2)
                    have hsn := take_snoc d j hj2
                    have hdd := isDigit_ax (d.getD j 0) hc
                    by_cases qd : isD (d.getD j 0) = true
                    · obtain ⟨e1, e2'⟩ := (isD_iff _).1 qd
                      have hv : digV (d.take (j + 1)) = 10 * digV (d.take j) + (d.getD j 0 - 48) := by rw [hsn, digV_snoc]
                      have hvb : digV (d.take j) ≤ 9 := by
                        have : j = 0 ∨ j = 1 := by omega
                        rcases this with rfl | rfl
                        · simp [digV]
                        · exact digV_one d hd
                      have hall : ∀ c ∈ d.take (j + 1), isD c = true := by
                        rw [hsn]
                        intro c hc
                        rcases List.mem_append.1 hc with hc | hc
                        · exact hd c hc
                        · rw [List.mem_singleton.1 hc]; exact qd
                      rw [qd] at hdd
                      clear qd
                      generalize d.getD j 0 = c at *
                      have e3 : ((c : Int) - 48) = ((c - 48 : Nat) : Int) := by omega
                      have e4 : 10 * (digV (d.take j) : Int) + ((c - 48 : Nat) : Int) = (digV (d.take (j + 1)) : Nat) := by rw [hv]; omega
                      generalize digV (d.take j) = v at *
                      generalize hv' : digV (d.take (j + 1)) = v' at *
                      (first | refine go (cj rTI (cj @h1 (cj @k0 (cj @k6 @l1)))) ?_ | exact go0 (cj rTI (cj @h1 (cj @k0 (cj @k6 @l1)))))
                      (try rw [then_normal]); (try refine aw_seq ?_); refine aw_cond rfl ?_ ?_ <;> intro hb <;> (try (cases hb; done)) <;> (try simp only [bq] at hb) <;> (try (exfalso; omega))
                      (first | refine go (cj @h1 @k0) ?_ | exact go0 (cj @h1 @k0))
                      refine aw_reg fun K hK => ?_; refine rn (cj rTI (cj @k0 (cj @k6 (cj @l1 @hg)))) ?_; refine cont_pure hdd ?_; refine rn (cj rTI (cj @k0 (cj @k6 (cj @l1 @hg)))) ?_; refine hK _ _ ?_; clear hK K
                      rw [then_normal]
                      (try rw [then_normal]); (try refine aw_seq ?_); refine aw_cond rfl ?_ ?_ <;> intro hb <;> (try (cases hb; done)) <;> (try simp only [bq] at hb) <;> (try (exfalso; omega))
                      (first | refine go (cj rTI (cj @h1 (cj @k0 (cj @k6 (cj @k8 (cj @l1 (cj @hg (cj @e3 @e4)))))))) ?_ | exact go0 (cj rTI (cj @h1 (cj @k0 (cj @k6 (cj @k8 (cj @l1 (cj @hg (cj @e3 @e4)))))))))
                      simp only [block_normal, loop_normal]
                      refine ⟨d.length - (j + 1), by omega, j + 1, rfl, by omega, ?_⟩
                      (first | refine rn (cj @h1 (cj @k0 (cj @k6 (cj @k7 @z3)))) ?_ | exact rn0 (cj @h1 (cj @k0 (cj @k6 (cj @k7 @z3)))))
                      exact ⟨by rw [hv'], hall⟩
                    · have qd' : isD (d.getD j 0) = false := by simpa using qd
                      rw [qd'] at hdd
                      have hno : two d = none := by
                        rw [htwo, if_neg]
                        intro hall
                        apply qd
                        rw [List.getD_eq_getElem?_getD, List.getElem?_eq_getElem hj2]
                        exact hall _ (List.getElem_mem hj2)
                      rw [hno]
                      clear htwo hno qd qd' hsn hd
                      generalize d.getD j 0 = c at *
                      (first | refine go (cj rTI (cj @h1 (cj @k0 (cj @k6 @l1)))) ?_ | exact go0 (cj rTI (cj @h1 (cj @k0 (cj @k6 @l1)))))
                      (try rw [then_normal]); (try refine aw_seq ?_); refine aw_cond rfl ?_ ?_ <;> intro hb <;> (try (cases hb; done)) <;> (try simp only [bq] at hb) <;> (try (exfalso; omega))
                      (first | refine go (cj @h1 @k0) ?_ | exact go0 (cj @h1 @k0))
                      refine aw_reg fun K hK => ?_; refine rn (cj rTI (cj @k0 (cj @k6 (cj @l1 @hg)))) ?_; refine cont_pure hdd ?_; refine rn (cj rTI (cj @k0 (cj @k6 (cj @l1 @hg)))) ?_; refine hK _ _ ?_; clear hK K
                      rw [then_normal]
                      (try rw [then_normal]); (try refine aw_seq ?_); refine aw_cond rfl ?_ ?_ <;> intro hb <;> (try (cases hb; done)) <;> (try simp only [bq] at hb) <;> (try (exfalso; omega))
                      (first | refine go (cj rTI (cj @h1 @k0)) ?_ | exact go0 (cj rTI (cj @h1 @k0)))
                      exact ⟨rfl, fr⟩
                  · obtain rfl : j = d.length := by omega
                    rw [List.take_length] at k8 hd
                    rw [htwo, if_pos hd]
                    have hvb : digV d ≤ 99 := digV_two d (by omega) hd
                    clear htwo hd
                    generalize digV d = v at *
                    (first | refine go (cj rTI (cj @h1 (cj @k0 (cj @k6 @l1)))) ?_ | exact go0 (cj rTI (cj @h1 (cj @k0 (cj @k6 @l1)))))
                    (try rw [then_normal]); (try refine aw_seq ?_); refine aw_cond rfl ?_ ?_ <;> intro hb <;> (try (cases hb; done)) <;> (try simp only [bq] at hb) <;> (try (exfalso; omega))
                    (first | refine go (cj @h1 (cj @k7 @k8)) ?_ | exact go0 (cj @h1 (cj @k7 @k8)))
                    exact ⟨by show _ = AV.tp [.v (.int .i64 (v : Int)), _]; simp, fr⟩
      · rw [show expL (c :: r) = none by unfold expL; split <;> simp_all]
        have hc : c < 256 := h c (by simp)
        (first | refine go (cj rTI (cj @h1 (cj @k0 (cj @k4 @k5')))) ?_ | exact go0 (cj rTI (cj @h1 (cj @k0 (cj @k4 @k5')))))
        (try rw [then_normal]); (try refine aw_seq ?_); refine aw_cond rfl ?_ ?_ <;> intro hb <;> (try (cases hb; done)) <;> (try simp only [bq] at hb) <;> (try (exfalso; omega))
        (first | refine go (cj rTI (cj @h1 (cj @k0 (cj @l1 (cj @g0 @tz))))) ?_ | exact go0 (cj rTI (cj @h1 (cj @k0 (cj @l1 (cj @g0 @tz))))))
        rw [then_normal]
        (try rw [then_normal]); (try refine aw_seq ?_); refine aw_cond rfl ?_ ?_ <;> intro hb <;> (try (cases hb; done)) <;> (try simp only [bq] at hb) <;> (try (exfalso; omega))
        (first | refine go (cj rTI (cj @h1 @k0)) ?_ | exact go0 (cj rTI (cj @h1 @k0)))
        exact ⟨rfl, fr⟩
end Go.Proofs.YtfjelkjlfcafgaaGreatDoor.NumU
end
section
/- The contracts of the library that the walks of this claim lean on, laid for this translation by the kit. -/
namespace Go.Proofs
open Go.Shelf
def Tryz.lays161_ren : Go.Shelf.Ren := ⟨fun | 161 => 52 | 231 => 103 | 227 => 104 | 233 => 105 | 235 => 106 | 228 => 146 | 197 => 147 | 151 => 148 | 260 => 179 | 152 => 180 | 137 => 89 | 119 => 194 | 224 => 195 | 225 => 196 | 217 => 141 | 266 => 178 | n => n, fun | 9 => 9 | 4 => 4 | 3 => 3 | 5 => 5 | 117 => 156 | 116 => 155 | 0 => 0 | 124 => 159 | 105 => 192 | 21 => 21 | 119 => 235 | 46 => 198 | 139 => 238 | 138 => 237 | n => n, fun | 3 => 4 | 4 => 5 | n => n⟩
theorem Tryz.lays161 : Go.Proofs.Lays.n161 Tryz.prog Tryz.lays161_ren := {
  mixed := by kernel_rfl
  f119 := Tryz.func194.trans (congrArg some (by kernel_rfl))
  f137 := Tryz.func89.trans (congrArg some (by kernel_rfl))
  f151 := Tryz.func148.trans (congrArg some (by kernel_rfl))
  f152 := Tryz.func180.trans (congrArg some (by kernel_rfl))
  f161 := Tryz.func52.trans (congrArg some (by kernel_rfl))
  f197 := Tryz.func147.trans (congrArg some (by kernel_rfl))
  f217 := Tryz.func141.trans (congrArg some (by kernel_rfl))
  f224 := Tryz.func195.trans (congrArg some (by kernel_rfl))
  f225 := Tryz.func196.trans (congrArg some (by kernel_rfl))
  f227 := Tryz.func104.trans (congrArg some (by kernel_rfl))
  f228 := Tryz.func146.trans (congrArg some (by kernel_rfl))
  f231 := Tryz.func103.trans (congrArg some (by kernel_rfl))
  f233 := Tryz.func105.trans (congrArg some (by kernel_rfl))
  f235 := Tryz.func106.trans (congrArg some (by kernel_rfl))
  f260 := Tryz.func179.trans (congrArg some (by kernel_rfl))
  f266 := Tryz.func178.trans (congrArg some (by kernel_rfl))
  t0 := Tryz.underlying0
  a0 := Tryz.isAgg0
  z0 := Tryz.sizeOf0
  v0 := Tryz.zeroValue0
  t3 := Tryz.underlying3
  a3 := Tryz.isAgg3
  z3 := Tryz.sizeOf3
  v3 := Tryz.zeroValue3
  t4 := Tryz.underlying4
  a4 := Tryz.isAgg4
  z4 := Tryz.sizeOf4
  v4 := Tryz.zeroValue4
  t5 := Tryz.underlying5
  a5 := Tryz.isAgg5
  z5 := Tryz.sizeOf5
  v5 := Tryz.zeroValue5
  t9 := Tryz.underlying9
  a9 := Tryz.isAgg9
  z9 := Tryz.sizeOf9
  v9 := Tryz.zeroValue9
  t21 := Tryz.underlying21
  a21 := Tryz.isAgg21
  z21 := Tryz.sizeOf21
  v21 := Tryz.zeroValue21
  t46 := Tryz.underlying198
  a46 := Tryz.isAgg198
  z46 := Tryz.sizeOf198
  v46 := Tryz.zeroValue198
  t105 := Tryz.underlying192
  a105 := Tryz.isAgg192
  z105 := Tryz.sizeOf192
  v105 := Tryz.zeroValue192
  t116 := Tryz.underlying155
  a116 := Tryz.isAgg155
  z116 := Tryz.sizeOf155
  t117 := Tryz.underlying156
  a117 := Tryz.isAgg156
  z117 := Tryz.sizeOf156
  v117 := Tryz.zeroValue156
  t119 := Tryz.underlying235
  a119 := Tryz.isAgg235
  z119 := Tryz.sizeOf235
  t124 := Tryz.underlying159
  a124 := Tryz.isAgg159
  z124 := Tryz.sizeOf159
  v124 := Tryz.zeroValue159
  t138 := Tryz.underlying237
  a138 := Tryz.isAgg237
  z138 := Tryz.sizeOf237
  v138 := Tryz.zeroValue237
  t139 := Tryz.underlying238
  a139 := Tryz.isAgg238
  z139 := Tryz.sizeOf238
  v139 := Tryz.zeroValue238
  g3 := by kernel_rfl
  g4 := by kernel_rfl }
open Go.RowKit in
theorem Tryz.strings_TrimLeft_one (s : ByteArray) (c : UInt8) (hc : c.toNat < 128) (w : World) :
    Calls Tryz.prog 52 #[.string s, .string ⟨#[c]⟩] w fun e w' => e = .returned (.string ⟨(Lib.trimLeftB s.data.toList c).toArray⟩) ∧ w' = w := Any.strings_TrimLeft_one Tryz.lays161 s c hc w
def Tryz.lays162_ren : Go.Shelf.Ren := ⟨fun | 162 => 53 | 232 => 107 | 227 => 104 | 234 => 108 | 236 => 109 | 228 => 146 | 271 => 149 | 151 => 148 | 120 => 181 | 197 => 147 | 152 => 180 | 260 => 179 | 137 => 89 | 119 => 194 | 224 => 195 | 225 => 196 | 217 => 141 | 266 => 178 | n => n, fun | 9 => 9 | 4 => 4 | 3 => 3 | 5 => 5 | 117 => 156 | 116 => 155 | 0 => 0 | 124 => 159 | 21 => 21 | 105 => 192 | 46 => 198 | 119 => 235 | 139 => 238 | 138 => 237 | n => n, fun | 3 => 4 | 4 => 5 | n => n⟩
theorem Tryz.lays162 : Go.Proofs.Lays.n162 Tryz.prog Tryz.lays162_ren := {
  mixed := by kernel_rfl
  f119 := Tryz.func194.trans (congrArg some (by kernel_rfl))
  f120 := Tryz.func181.trans (congrArg some (by kernel_rfl))
  f137 := Tryz.func89.trans (congrArg some (by kernel_rfl))
  f151 := Tryz.func148.trans (congrArg some (by kernel_rfl))
  f152 := Tryz.func180.trans (congrArg some (by kernel_rfl))
  f162 := Tryz.func53.trans (congrArg some (by kernel_rfl))
  f197 := Tryz.func147.trans (congrArg some (by kernel_rfl))
  f217 := Tryz.func141.trans (congrArg some (by kernel_rfl))
  f224 := Tryz.func195.trans (congrArg some (by kernel_rfl))
  f225 := Tryz.func196.trans (congrArg some (by kernel_rfl))
  f227 := Tryz.func104.trans (congrArg some (by kernel_rfl))
  f228 := Tryz.func146.trans (congrArg some (by kernel_rfl))
  f232 := Tryz.func107.trans (congrArg some (by kernel_rfl))
  f234 := Tryz.func108.trans (congrArg some (by kernel_rfl))
  f236 := Tryz.func109.trans (congrArg some (by kernel_rfl))
  f260 := Tryz.func179.trans (congrArg some (by kernel_rfl))
  f266 := Tryz.func178.trans (congrArg some (by kernel_rfl))
  f271 := Tryz.func149.trans (congrArg some (by kernel_rfl))
  t0 := Tryz.underlying0
  a0 := Tryz.isAgg0
  z0 := Tryz.sizeOf0
  v0 := Tryz.zeroValue0
  t3 := Tryz.underlying3
  a3 := Tryz.isAgg3
  z3 := Tryz.sizeOf3
  v3 := Tryz.zeroValue3
  t4 := Tryz.underlying4
  a4 := Tryz.isAgg4
  z4 := Tryz.sizeOf4
  v4 := Tryz.zeroValue4
  t5 := Tryz.underlying5
  a5 := Tryz.isAgg5
  z5 := Tryz.sizeOf5
  v5 := Tryz.zeroValue5
  t9 := Tryz.underlying9
  a9 := Tryz.isAgg9
  z9 := Tryz.sizeOf9
  v9 := Tryz.zeroValue9
  t21 := Tryz.underlying21
  a21 := Tryz.isAgg21
  z21 := Tryz.sizeOf21
  v21 := Tryz.zeroValue21
  t46 := Tryz.underlying198
  a46 := Tryz.isAgg198
  z46 := Tryz.sizeOf198
  v46 := Tryz.zeroValue198
  t105 := Tryz.underlying192
  a105 := Tryz.isAgg192
  z105 := Tryz.sizeOf192
  v105 := Tryz.zeroValue192
  t116 := Tryz.underlying155
  a116 := Tryz.isAgg155
  z116 := Tryz.sizeOf155
  t117 := Tryz.underlying156
  a117 := Tryz.isAgg156
  z117 := Tryz.sizeOf156
  v117 := Tryz.zeroValue156
  t119 := Tryz.underlying235
  a119 := Tryz.isAgg235
  z119 := Tryz.sizeOf235
  t124 := Tryz.underlying159
  a124 := Tryz.isAgg159
  z124 := Tryz.sizeOf159
  v124 := Tryz.zeroValue159
  t138 := Tryz.underlying237
  a138 := Tryz.isAgg237
  z138 := Tryz.sizeOf237
  v138 := Tryz.zeroValue237
  t139 := Tryz.underlying238
  a139 := Tryz.isAgg238
  z139 := Tryz.sizeOf238
  v139 := Tryz.zeroValue238
  g3 := by kernel_rfl
  g4 := by kernel_rfl }
open Go.RowKit in
theorem Tryz.strings_TrimRight_one (s : ByteArray) (c : UInt8) (hc : c.toNat < 128) (w : World) (hs : s.size ≤ 9223372036854775807) :
    Calls Tryz.prog 53 #[.string s, .string ⟨#[c]⟩] w fun e w' => e = .returned (.string ⟨(Lib.trimRightB s.data.toList c).toArray⟩) ∧ w' = w := Any.strings_TrimRight_one Tryz.lays162 s c hc w hs
def Tryz.lays103_ren : Go.Shelf.Ren := ⟨fun | 103 => 48 | 210 => 100 | 206 => 101 | n => n, fun | 9 => 9 | 4 => 4 | 24 => 93 | 3 => 3 | n => n, fun | n => n⟩
theorem Tryz.lays103 : Go.Proofs.Lays.n103 Tryz.prog Tryz.lays103_ren := {
  mixed := by kernel_rfl
  f103 := Tryz.func48.trans (congrArg some (by kernel_rfl))
  f206 := Tryz.func101.trans (congrArg some (by kernel_rfl))
  f210 := Tryz.func100.trans (congrArg some (by kernel_rfl))
  t3 := Tryz.underlying3
  a3 := Tryz.isAgg3
  z3 := Tryz.sizeOf3
  v3 := Tryz.zeroValue3
  t4 := Tryz.underlying4
  a4 := Tryz.isAgg4
  z4 := Tryz.sizeOf4
  v4 := Tryz.zeroValue4
  t9 := Tryz.underlying9
  a9 := Tryz.isAgg9
  z9 := Tryz.sizeOf9
  v9 := Tryz.zeroValue9
  t24 := Tryz.underlying93
  a24 := Tryz.isAgg93
  z24 := Tryz.sizeOf93
  v24 := Tryz.zeroValue93 }
open Go.RowKit in
theorem Tryz.strings_CutPrefix (s p : ByteArray) (w : World) :
    Calls Tryz.prog 48 #[.string s, .string p] w fun e w' => e = .returned (.tuple #[.string ⟨(Lib.trimPrefix s.data.toList p.data.toList).toArray⟩, .bool (Lib.hasPrefix s.data.toList p.data.toList)]) ∧ w' = w := Any.strings_CutPrefix Tryz.lays103 s p w
def Tryz.lays172_ren : Go.Shelf.Ren := ⟨fun | 172 => 102 | 244 => 145 | 245 => 111 | 247 => 110 | 279 => 151 | 280 => 152 | 281 => 153 | 282 => 154 | 287 => 150 | 316 => 184 | 171 => 64 | 205 => 185 | 321 => 182 | 322 => 183 | 243 => 119 | 246 => 118 | 283 => 156 | 284 => 157 | 285 => 158 | 286 => 159 | 129 => 187 | 317 => 186 | 318 => 188 | 319 => 189 | 320 => 190 | 337 => 197 | 338 => 198 | n => n, fun | 9 => 9 | 3 => 3 | 75 => 101 | 76 => 151 | 4 => 4 | 5 => 5 | 167 => 195 | 37 => 116 | 0 => 0 | 85 => 102 | 2 => 2 | 168 => 199 | 53 => 165 | 175 => 196 | 46 => 198 | 210 => 223 | 127 => 241 | 145 => 244 | 143 => 242 | 21 => 21 | 171 => 202 | 173 => 205 | 212 => 227 | 51 => 35 | 20 => 20 | 213 => 228 | 232 => 249 | 233 => 250 | 80 => 147 | n => n, fun | 15 => 0 | 16 => 1 | 17 => 2 | 18 => 6 | 19 => 7 | n => n⟩
theorem Tryz.lays172 : Go.Proofs.Lays.n172 Tryz.prog Tryz.lays172_ren := {
  mixed := by kernel_rfl
  f129 := Tryz.func187.trans (congrArg some (by kernel_rfl))
  f171 := Tryz.func64.trans (congrArg some (by kernel_rfl))
  f172 := Tryz.func102.trans (congrArg some (by kernel_rfl))
  f205 := Tryz.func185.trans (congrArg some (by kernel_rfl))
  f243 := Tryz.func119.trans (congrArg some (by kernel_rfl))
  f244 := Tryz.func145.trans (congrArg some (by kernel_rfl))
  f245 := Tryz.func111.trans (congrArg some (by kernel_rfl))
  f246 := Tryz.func118.trans (congrArg some (by kernel_rfl))
  f247 := Tryz.func110.trans (congrArg some (by kernel_rfl))
  f279 := Tryz.func151.trans (congrArg some (by kernel_rfl))
  f280 := Tryz.func152.trans (congrArg some (by kernel_rfl))
  f281 := Tryz.func153.trans (congrArg some (by kernel_rfl))
  f282 := Tryz.func154.trans (congrArg some (by kernel_rfl))
  f283 := Tryz.func156.trans (congrArg some (by kernel_rfl))
  f284 := Tryz.func157.trans (congrArg some (by kernel_rfl))
  f285 := Tryz.func158.trans (congrArg some (by kernel_rfl))
  f286 := Tryz.func159.trans (congrArg some (by kernel_rfl))
  f287 := Tryz.func150.trans (congrArg some (by kernel_rfl))
  f316 := Tryz.func184.trans (congrArg some (by kernel_rfl))
  f317 := Tryz.func186.trans (congrArg some (by kernel_rfl))
  f318 := Tryz.func188.trans (congrArg some (by kernel_rfl))
  f319 := Tryz.func189.trans (congrArg some (by kernel_rfl))
  f320 := Tryz.func190.trans (congrArg some (by kernel_rfl))
  f321 := Tryz.func182.trans (congrArg some (by kernel_rfl))
  f322 := Tryz.func183.trans (congrArg some (by kernel_rfl))
  f337 := Tryz.func197.trans (congrArg some (by kernel_rfl))
  f338 := Tryz.func198.trans (congrArg some (by kernel_rfl))
  t0 := Tryz.underlying0
  a0 := Tryz.isAgg0
  z0 := Tryz.sizeOf0
  v0 := Tryz.zeroValue0
  t2 := Tryz.underlying2
  a2 := Tryz.isAgg2
  z2 := Tryz.sizeOf2
  v2 := Tryz.zeroValue2
  t3 := Tryz.underlying3
  a3 := Tryz.isAgg3
  z3 := Tryz.sizeOf3
  v3 := Tryz.zeroValue3
  t4 := Tryz.underlying4
  a4 := Tryz.isAgg4
  z4 := Tryz.sizeOf4
  v4 := Tryz.zeroValue4
  t5 := Tryz.underlying5
  a5 := Tryz.isAgg5
  z5 := Tryz.sizeOf5
  v5 := Tryz.zeroValue5
  t9 := Tryz.underlying9
  a9 := Tryz.isAgg9
  z9 := Tryz.sizeOf9
  v9 := Tryz.zeroValue9
  t20 := Tryz.underlying20
  a20 := Tryz.isAgg20
  z20 := Tryz.sizeOf20
  v20 := Tryz.zeroValue20
  t21 := Tryz.underlying21
  a21 := Tryz.isAgg21
  z21 := Tryz.sizeOf21
  v21 := Tryz.zeroValue21
  t37 := Tryz.underlying116
  a37 := Tryz.isAgg116
  z37 := Tryz.sizeOf116
  v37 := Tryz.zeroValue116
  t46 := Tryz.underlying198
  a46 := Tryz.isAgg198
  z46 := Tryz.sizeOf198
  v46 := Tryz.zeroValue198
  t51 := Tryz.underlying35
  a51 := Tryz.isAgg35
  z51 := Tryz.sizeOf35
  v51 := Tryz.zeroValue35
  t53 := Tryz.underlying165
  a53 := Tryz.isAgg165
  z53 := Tryz.sizeOf165
  v53 := Tryz.zeroValue165
  t75 := Tryz.underlying101
  a75 := Tryz.isAgg101
  z75 := Tryz.sizeOf101
  v75 := Tryz.zeroValue101
  t76 := Tryz.underlying151
  a76 := Tryz.isAgg151
  z76 := Tryz.sizeOf151
  v76 := Tryz.zeroValue151
  t85 := Tryz.underlying102
  a85 := Tryz.isAgg102
  z85 := Tryz.sizeOf102
  v85 := Tryz.zeroValue102
  t127 := Tryz.underlying241
  a127 := Tryz.isAgg241
  z127 := Tryz.sizeOf241
  v127 := Tryz.zeroValue241
  t143 := Tryz.underlying242
  a143 := Tryz.isAgg242
  z143 := Tryz.sizeOf242
  v143 := Tryz.zeroValue242
  t145 := Tryz.underlying244
  a145 := Tryz.isAgg244
  z145 := Tryz.sizeOf244
  v145 := Tryz.zeroValue244
  t167 := Tryz.underlying195
  a167 := Tryz.isAgg195
  z167 := Tryz.sizeOf195
  v167 := Tryz.zeroValue195
  t168 := Tryz.underlying199
  a168 := Tryz.isAgg199
  z168 := Tryz.sizeOf199
  v168 := Tryz.zeroValue199
  t171 := Tryz.underlying202
  a171 := Tryz.isAgg202
  z171 := Tryz.sizeOf202
  v171 := Tryz.zeroValue202
  t173 := Tryz.underlying205
  a173 := Tryz.isAgg205
  z173 := Tryz.sizeOf205
  v173 := Tryz.zeroValue205
  t175 := Tryz.underlying196
  a175 := Tryz.isAgg196
  z175 := Tryz.sizeOf196
  v175 := Tryz.zeroValue196
  t210 := Tryz.underlying223
  a210 := Tryz.isAgg223
  z210 := Tryz.sizeOf223
  v210 := Tryz.zeroValue223
  t212 := Tryz.underlying227
  a212 := Tryz.isAgg227
  z212 := Tryz.sizeOf227
  v212 := Tryz.zeroValue227
  t213 := Tryz.underlying228
  a213 := Tryz.isAgg228
  z213 := Tryz.sizeOf228
  t232 := Tryz.underlying249
  a232 := Tryz.isAgg249
  z232 := Tryz.sizeOf249
  v232 := Tryz.zeroValue249
  t233 := Tryz.underlying250
  a233 := Tryz.isAgg250
  z233 := Tryz.sizeOf250
  v233 := Tryz.zeroValue250
  g15 := by kernel_rfl
  g16 := by kernel_rfl
  g17 := by kernel_rfl
  g18 := by kernel_rfl
  g19 := by kernel_rfl }
open Go.RowKit in
theorem Tryz.strconv_Atoi (s : ByteArray) (n : Int) (hl : s.size ≤ 18) (h : Lib.atoi s.data.toList = some n) (w : World) :
    Calls Tryz.prog 102 #[.string s] w fun e w' => e = .returned (.tuple #[.int .i64 n, .nilIface]) ∧ ∃ t, w' = Lib.bytesWorld w 5 t := Any.strconv_Atoi Tryz.lays172 s n hl h w
def Tryz.lays171_ren : Go.Shelf.Ren := ⟨fun | 171 => 64 | 243 => 119 | 246 => 118 | 283 => 156 | 284 => 157 | 285 => 158 | 286 => 159 | 129 => 187 | 317 => 186 | 318 => 188 | 319 => 189 | 320 => 190 | 337 => 197 | 338 => 198 | n => n, fun | 3 => 3 | 9 => 9 | 2 => 2 | 4 => 4 | 171 => 202 | 0 => 0 | 53 => 165 | 37 => 116 | 5 => 5 | 173 => 205 | 212 => 227 | 51 => 35 | 20 => 20 | 213 => 228 | 46 => 198 | 232 => 249 | 233 => 250 | n => n, fun | 17 => 2 | 18 => 6 | 19 => 7 | n => n⟩
theorem Tryz.lays171 : Go.Proofs.Lays.n171 Tryz.prog Tryz.lays171_ren := {
  mixed := by kernel_rfl
  f129 := Tryz.func187.trans (congrArg some (by kernel_rfl))
  f171 := Tryz.func64.trans (congrArg some (by kernel_rfl))
  f243 := Tryz.func119.trans (congrArg some (by kernel_rfl))
  f246 := Tryz.func118.trans (congrArg some (by kernel_rfl))
  f283 := Tryz.func156.trans (congrArg some (by kernel_rfl))
  f284 := Tryz.func157.trans (congrArg some (by kernel_rfl))
  f285 := Tryz.func158.trans (congrArg some (by kernel_rfl))
  f286 := Tryz.func159.trans (congrArg some (by kernel_rfl))
  f317 := Tryz.func186.trans (congrArg some (by kernel_rfl))
  f318 := Tryz.func188.trans (congrArg some (by kernel_rfl))
  f319 := Tryz.func189.trans (congrArg some (by kernel_rfl))
  f320 := Tryz.func190.trans (congrArg some (by kernel_rfl))
  f337 := Tryz.func197.trans (congrArg some (by kernel_rfl))
  f338 := Tryz.func198.trans (congrArg some (by kernel_rfl))
  t0 := Tryz.underlying0
  a0 := Tryz.isAgg0
  z0 := Tryz.sizeOf0
  v0 := Tryz.zeroValue0
  t2 := Tryz.underlying2
  a2 := Tryz.isAgg2
  z2 := Tryz.sizeOf2
  v2 := Tryz.zeroValue2
  t3 := Tryz.underlying3
  a3 := Tryz.isAgg3
  z3 := Tryz.sizeOf3
  v3 := Tryz.zeroValue3
  t4 := Tryz.underlying4
  a4 := Tryz.isAgg4
  z4 := Tryz.sizeOf4
  v4 := Tryz.zeroValue4
  t5 := Tryz.underlying5
  a5 := Tryz.isAgg5
  z5 := Tryz.sizeOf5
  v5 := Tryz.zeroValue5
  t9 := Tryz.underlying9
  a9 := Tryz.isAgg9
  z9 := Tryz.sizeOf9
  v9 := Tryz.zeroValue9
  t20 := Tryz.underlying20
  a20 := Tryz.isAgg20
  z20 := Tryz.sizeOf20
  v20 := Tryz.zeroValue20
  t37 := Tryz.underlying116
  a37 := Tryz.isAgg116
  z37 := Tryz.sizeOf116
  v37 := Tryz.zeroValue116
  t46 := Tryz.underlying198
  a46 := Tryz.isAgg198
  z46 := Tryz.sizeOf198
  v46 := Tryz.zeroValue198
  t51 := Tryz.underlying35
  a51 := Tryz.isAgg35
  z51 := Tryz.sizeOf35
  v51 := Tryz.zeroValue35
  t53 := Tryz.underlying165
  a53 := Tryz.isAgg165
  z53 := Tryz.sizeOf165
  v53 := Tryz.zeroValue165
  t171 := Tryz.underlying202
  a171 := Tryz.isAgg202
  z171 := Tryz.sizeOf202
  v171 := Tryz.zeroValue202
  t173 := Tryz.underlying205
  a173 := Tryz.isAgg205
  z173 := Tryz.sizeOf205
  v173 := Tryz.zeroValue205
  t212 := Tryz.underlying227
  a212 := Tryz.isAgg227
  z212 := Tryz.sizeOf227
  v212 := Tryz.zeroValue227
  t213 := Tryz.underlying228
  a213 := Tryz.isAgg228
  z213 := Tryz.sizeOf228
  t232 := Tryz.underlying249
  a232 := Tryz.isAgg249
  z232 := Tryz.sizeOf249
  v232 := Tryz.zeroValue249
  t233 := Tryz.underlying250
  a233 := Tryz.isAgg250
  z233 := Tryz.sizeOf250
  v233 := Tryz.zeroValue250
  g17 := by kernel_rfl
  g18 := by kernel_rfl
  g19 := by kernel_rfl }
open Go.RowKit Go.Sort Go.Lib in
theorem Tryz.strconv_Itoa_small (i : Nat) (hi : i < 100) (w : World) :
    Calls Tryz.prog 64 #[.int .i64 i] w fun e w' => e = .returned (.string ⟨(Lib.decDigits i).toArray⟩) ∧ w' = w := Any.strconv_Itoa_small Tryz.lays171 i hi w
def Tryz.laysM173_ren : Go.Shelf.Ren := ⟨fun | 173 => 63 | 246 => 118 | 283 => 156 | 284 => 157 | 285 => 158 | 286 => 159 | 129 => 187 | 317 => 186 | 318 => 188 | 319 => 189 | 320 => 190 | 337 => 197 | 338 => 198 | n => n, fun | 2 => 2 | 3 => 3 | 9 => 9 | 4 => 4 | 171 => 202 | 0 => 0 | 53 => 165 | 37 => 116 | 5 => 5 | 173 => 205 | 212 => 227 | 51 => 35 | 20 => 20 | 213 => 228 | 46 => 198 | 232 => 249 | 233 => 250 | n => n, fun | 17 => 2 | 18 => 6 | 19 => 7 | n => n⟩
theorem Tryz.laysM173 : Go.Proofs.LaysM.n173 Tryz.prog Tryz.laysM173_ren := {
  mixed := by kernel_rfl
  f129 := Tryz.func187.trans (congrArg some (by kernel_rfl))
  f173 := Tryz.func63.trans (congrArg some (by kernel_rfl))
  f246 := Tryz.func118.trans (congrArg some (by kernel_rfl))
  f283 := Tryz.func156.trans (congrArg some (by kernel_rfl))
  f284 := Tryz.func157.trans (congrArg some (by kernel_rfl))
  f285 := Tryz.func158.trans (congrArg some (by kernel_rfl))
  f286 := Tryz.func159.trans (congrArg some (by kernel_rfl))
  f317 := Tryz.func186.trans (congrArg some (by kernel_rfl))
  f318 := Tryz.func188.trans (congrArg some (by kernel_rfl))
  f319 := Tryz.func189.trans (congrArg some (by kernel_rfl))
  f320 := Tryz.func190.trans (congrArg some (by kernel_rfl))
  f337 := Tryz.func197.trans (congrArg some (by kernel_rfl))
  f338 := Tryz.func198.trans (congrArg some (by kernel_rfl))
  t0 := Tryz.underlying0
  a0 := Tryz.isAgg0
  z0 := Tryz.sizeOf0
  v0 := Tryz.zeroValue0
  t2 := Tryz.underlying2
  a2 := Tryz.isAgg2
  z2 := Tryz.sizeOf2
  v2 := Tryz.zeroValue2
  t3 := Tryz.underlying3
  a3 := Tryz.isAgg3
  z3 := Tryz.sizeOf3
  v3 := Tryz.zeroValue3
  t4 := Tryz.underlying4
  a4 := Tryz.isAgg4
  z4 := Tryz.sizeOf4
  v4 := Tryz.zeroValue4
  t5 := Tryz.underlying5
  a5 := Tryz.isAgg5
  z5 := Tryz.sizeOf5
  v5 := Tryz.zeroValue5
  t9 := Tryz.underlying9
  a9 := Tryz.isAgg9
  z9 := Tryz.sizeOf9
  v9 := Tryz.zeroValue9
  t20 := Tryz.underlying20
  a20 := Tryz.isAgg20
  z20 := Tryz.sizeOf20
  v20 := Tryz.zeroValue20
  t37 := Tryz.underlying116
  a37 := Tryz.isAgg116
  z37 := Tryz.sizeOf116
  v37 := Tryz.zeroValue116
  t46 := Tryz.underlying198
  a46 := Tryz.isAgg198
  z46 := Tryz.sizeOf198
  v46 := Tryz.zeroValue198
  t51 := Tryz.underlying35
  a51 := Tryz.isAgg35
  z51 := Tryz.sizeOf35
  v51 := Tryz.zeroValue35
  t53 := Tryz.underlying165
  a53 := Tryz.isAgg165
  z53 := Tryz.sizeOf165
  v53 := Tryz.zeroValue165
  t171 := Tryz.underlying202
  a171 := Tryz.isAgg202
  z171 := Tryz.sizeOf202
  v171 := Tryz.zeroValue202
  t173 := Tryz.underlying205
  a173 := Tryz.isAgg205
  z173 := Tryz.sizeOf205
  v173 := Tryz.zeroValue205
  t212 := Tryz.underlying227
  a212 := Tryz.isAgg227
  z212 := Tryz.sizeOf227
  v212 := Tryz.zeroValue227
  t213 := Tryz.underlying228
  a213 := Tryz.isAgg228
  z213 := Tryz.sizeOf228
  t232 := Tryz.underlying249
  a232 := Tryz.isAgg249
  z232 := Tryz.sizeOf249
  v232 := Tryz.zeroValue249
  t233 := Tryz.underlying250
  a233 := Tryz.isAgg250
  z233 := Tryz.sizeOf250
  v233 := Tryz.zeroValue250
  g17 := by kernel_rfl
  g18 := by kernel_rfl
  g19 := by kernel_rfl
  i0 := by kernel_rfl
  i2 := by kernel_rfl
  i3 := by kernel_rfl
  i4 := by kernel_rfl
  i5 := by kernel_rfl
  i9 := by kernel_rfl
  i20 := by kernel_rfl
  i37 := by kernel_rfl
  i46 := by kernel_rfl
  i51 := by kernel_rfl
  i53 := by kernel_rfl
  i171 := by kernel_rfl
  i173 := by kernel_rfl
  i212 := by kernel_rfl
  i232 := by kernel_rfl
  i233 := by kernel_rfl
  m17 := by kernel_rfl
  m18 := by kernel_rfl
  m19 := by kernel_rfl }
open Go.RowKit Go.Sort Go.Lib in
theorem Tryz.strconv_FormatInt_10 (n : Int) (h0 : -9223372036854775808 ≤ n) (h1 : n ≤ 9223372036854775807) (w : World) (htab : Lib.TabIs Tryz.prog w "internal/strconv.uint64pow10" .u64 Lib.pow10Tab) :
    Calls Tryz.prog 63 #[.int .i64 n, .int .i64 10] w fun e w' => e = .returned (.string ⟨(Lib.itoa n).toArray⟩) ∧ ∃ k os, w' = grow (w.drewN k) os := Any.strconv_FormatInt_10 Tryz.laysM173 n h0 h1 w htab
def Tryz.lays173_ren : Go.Shelf.Ren := ⟨fun | 173 => 63 | 246 => 118 | 283 => 156 | 284 => 157 | 285 => 158 | 286 => 159 | 129 => 187 | 317 => 186 | 318 => 188 | 319 => 189 | 320 => 190 | 337 => 197 | 338 => 198 | n => n, fun | 2 => 2 | 3 => 3 | 9 => 9 | 4 => 4 | 171 => 202 | 0 => 0 | 53 => 165 | 37 => 116 | 5 => 5 | 173 => 205 | 212 => 227 | 51 => 35 | 20 => 20 | 213 => 228 | 46 => 198 | 232 => 249 | 233 => 250 | n => n, fun | 17 => 2 | 18 => 6 | 19 => 7 | n => n⟩
theorem Tryz.lays173 : Go.Proofs.Lays.n173 Tryz.prog Tryz.lays173_ren := {
  mixed := by kernel_rfl
  f129 := Tryz.func187.trans (congrArg some (by kernel_rfl))
  f173 := Tryz.func63.trans (congrArg some (by kernel_rfl))
  f246 := Tryz.func118.trans (congrArg some (by kernel_rfl))
  f283 := Tryz.func156.trans (congrArg some (by kernel_rfl))
  f284 := Tryz.func157.trans (congrArg some (by kernel_rfl))
  f285 := Tryz.func158.trans (congrArg some (by kernel_rfl))
  f286 := Tryz.func159.trans (congrArg some (by kernel_rfl))
  f317 := Tryz.func186.trans (congrArg some (by kernel_rfl))
  f318 := Tryz.func188.trans (congrArg some (by kernel_rfl))
  f319 := Tryz.func189.trans (congrArg some (by kernel_rfl))
  f320 := Tryz.func190.trans (congrArg some (by kernel_rfl))
  f337 := Tryz.func197.trans (congrArg some (by kernel_rfl))
  f338 := Tryz.func198.trans (congrArg some (by kernel_rfl))
  t0 := Tryz.underlying0
  a0 := Tryz.isAgg0
  z0 := Tryz.sizeOf0
  v0 := Tryz.zeroValue0
  t2 := Tryz.underlying2
  a2 := Tryz.isAgg2
  z2 := Tryz.sizeOf2
  v2 := Tryz.zeroValue2
  t3 := Tryz.underlying3
  a3 := Tryz.isAgg3
  z3 := Tryz.sizeOf3
  v3 := Tryz.zeroValue3
  t4 := Tryz.underlying4
  a4 := Tryz.isAgg4
  z4 := Tryz.sizeOf4
  v4 := Tryz.zeroValue4
  t5 := Tryz.underlying5
  a5 := Tryz.isAgg5
  z5 := Tryz.sizeOf5
  v5 := Tryz.zeroValue5
  t9 := Tryz.underlying9
  a9 := Tryz.isAgg9
  z9 := Tryz.sizeOf9
  v9 := Tryz.zeroValue9
  t20 := Tryz.underlying20
  a20 := Tryz.isAgg20
  z20 := Tryz.sizeOf20
  v20 := Tryz.zeroValue20
  t37 := Tryz.underlying116
  a37 := Tryz.isAgg116
  z37 := Tryz.sizeOf116
  v37 := Tryz.zeroValue116
  t46 := Tryz.underlying198
  a46 := Tryz.isAgg198
  z46 := Tryz.sizeOf198
  v46 := Tryz.zeroValue198
  t51 := Tryz.underlying35
  a51 := Tryz.isAgg35
  z51 := Tryz.sizeOf35
  v51 := Tryz.zeroValue35
  t53 := Tryz.underlying165
  a53 := Tryz.isAgg165
  z53 := Tryz.sizeOf165
  v53 := Tryz.zeroValue165
  t171 := Tryz.underlying202
  a171 := Tryz.isAgg202
  z171 := Tryz.sizeOf202
  v171 := Tryz.zeroValue202
  t173 := Tryz.underlying205
  a173 := Tryz.isAgg205
  z173 := Tryz.sizeOf205
  v173 := Tryz.zeroValue205
  t212 := Tryz.underlying227
  a212 := Tryz.isAgg227
  z212 := Tryz.sizeOf227
  v212 := Tryz.zeroValue227
  t213 := Tryz.underlying228
  a213 := Tryz.isAgg228
  z213 := Tryz.sizeOf228
  t232 := Tryz.underlying249
  a232 := Tryz.isAgg249
  z232 := Tryz.sizeOf249
  v232 := Tryz.zeroValue249
  t233 := Tryz.underlying250
  a233 := Tryz.isAgg250
  z233 := Tryz.sizeOf250
  v233 := Tryz.zeroValue250
  g17 := by kernel_rfl
  g18 := by kernel_rfl
  g19 := by kernel_rfl }
open Go.RowKit Go.Sort Go.Lib in
theorem Tryz.strconv_FormatInt_10_small (i : Nat) (hi : i < 100) (w : World) :
    Calls Tryz.prog 63 #[.int .i64 i, .int .i64 10] w fun e w' => e = .returned (.string ⟨(Lib.decDigits i).toArray⟩) ∧ w' = w := Any.strconv_FormatInt_10_small Tryz.lays173 i hi w
def Tryz.laysC174_ren : Go.Shelf.Ren := ⟨fun | 174 => 54 | 247 => 110 | 245 => 111 | 287 => 150 | 279 => 151 | 280 => 152 | 281 => 153 | 282 => 154 | 321 => 182 | 322 => 183 | 316 => 184 | 171 => 64 | 205 => 185 | 243 => 119 | 246 => 118 | 283 => 156 | 284 => 157 | 285 => 158 | 286 => 159 | 129 => 187 | 317 => 186 | 318 => 188 | 319 => 189 | 320 => 190 | 337 => 197 | 338 => 198 | n => n, fun | 9 => 9 | 3 => 3 | 2 => 2 | 75 => 101 | 85 => 102 | 4 => 4 | 167 => 195 | 5 => 5 | 53 => 165 | 175 => 196 | 46 => 198 | 168 => 199 | 37 => 116 | 0 => 0 | 210 => 223 | 21 => 21 | 127 => 241 | 145 => 244 | 143 => 242 | 171 => 202 | 173 => 205 | 212 => 227 | 51 => 35 | 20 => 20 | 213 => 228 | 232 => 249 | 233 => 250 | 80 => 147 | n => n, fun | 15 => 0 | 16 => 1 | 17 => 2 | 18 => 6 | 19 => 7 | n => n⟩
theorem Tryz.laysC174 : Go.Proofs.LaysC.n174 Tryz.prog Tryz.laysC174_ren := {
  mixed := by kernel_rfl
  f129 := Tryz.func187.trans (congrArg some (by kernel_rfl))
  f171 := Tryz.func64.trans (congrArg some (by kernel_rfl))
  f174 := Tryz.func54.trans (congrArg some (by kernel_rfl))
  f205 := Tryz.func185.trans (congrArg some (by kernel_rfl))
  f243 := Tryz.func119.trans (congrArg some (by kernel_rfl))
  f245 := Tryz.func111.trans (congrArg some (by kernel_rfl))
  f246 := Tryz.func118.trans (congrArg some (by kernel_rfl))
  f247 := Tryz.func110.trans (congrArg some (by kernel_rfl))
  f279 := Tryz.func151.trans (congrArg some (by kernel_rfl))
  f280 := Tryz.func152.trans (congrArg some (by kernel_rfl))
  f281 := Tryz.func153.trans (congrArg some (by kernel_rfl))
  f282 := Tryz.func154.trans (congrArg some (by kernel_rfl))
  f283 := Tryz.func156.trans (congrArg some (by kernel_rfl))
  f284 := Tryz.func157.trans (congrArg some (by kernel_rfl))
  f285 := Tryz.func158.trans (congrArg some (by kernel_rfl))
  f286 := Tryz.func159.trans (congrArg some (by kernel_rfl))
  f287 := Tryz.func150.trans (congrArg some (by kernel_rfl))
  f316 := Tryz.func184.trans (congrArg some (by kernel_rfl))
  f317 := Tryz.func186.trans (congrArg some (by kernel_rfl))
  f318 := Tryz.func188.trans (congrArg some (by kernel_rfl))
  f319 := Tryz.func189.trans (congrArg some (by kernel_rfl))
  f320 := Tryz.func190.trans (congrArg some (by kernel_rfl))
  f321 := Tryz.func182.trans (congrArg some (by kernel_rfl))
  f322 := Tryz.func183.trans (congrArg some (by kernel_rfl))
  f337 := Tryz.func197.trans (congrArg some (by kernel_rfl))
  f338 := Tryz.func198.trans (congrArg some (by kernel_rfl))
  t0 := Tryz.underlying0
  a0 := Tryz.isAgg0
  z0 := Tryz.sizeOf0
  v0 := Tryz.zeroValue0
  t2 := Tryz.underlying2
  a2 := Tryz.isAgg2
  z2 := Tryz.sizeOf2
  v2 := Tryz.zeroValue2
  t3 := Tryz.underlying3
  a3 := Tryz.isAgg3
  z3 := Tryz.sizeOf3
  v3 := Tryz.zeroValue3
  t4 := Tryz.underlying4
  a4 := Tryz.isAgg4
  z4 := Tryz.sizeOf4
  v4 := Tryz.zeroValue4
  t5 := Tryz.underlying5
  a5 := Tryz.isAgg5
  z5 := Tryz.sizeOf5
  v5 := Tryz.zeroValue5
  t9 := Tryz.underlying9
  a9 := Tryz.isAgg9
  z9 := Tryz.sizeOf9
  v9 := Tryz.zeroValue9
  t20 := Tryz.underlying20
  a20 := Tryz.isAgg20
  z20 := Tryz.sizeOf20
  v20 := Tryz.zeroValue20
  t21 := Tryz.underlying21
  a21 := Tryz.isAgg21
  z21 := Tryz.sizeOf21
  v21 := Tryz.zeroValue21
  t37 := Tryz.underlying116
  a37 := Tryz.isAgg116
  z37 := Tryz.sizeOf116
  v37 := Tryz.zeroValue116
  t46 := Tryz.underlying198
  a46 := Tryz.isAgg198
  z46 := Tryz.sizeOf198
  v46 := Tryz.zeroValue198
  t51 := Tryz.underlying35
  a51 := Tryz.isAgg35
  z51 := Tryz.sizeOf35
  v51 := Tryz.zeroValue35
  t53 := Tryz.underlying165
  a53 := Tryz.isAgg165
  z53 := Tryz.sizeOf165
  v53 := Tryz.zeroValue165
  t75 := Tryz.underlying101
  a75 := Tryz.isAgg101
  z75 := Tryz.sizeOf101
  v75 := Tryz.zeroValue101
  t85 := Tryz.underlying102
  a85 := Tryz.isAgg102
  z85 := Tryz.sizeOf102
  v85 := Tryz.zeroValue102
  t127 := Tryz.underlying241
  a127 := Tryz.isAgg241
  z127 := Tryz.sizeOf241
  v127 := Tryz.zeroValue241
  t143 := Tryz.underlying242
  a143 := Tryz.isAgg242
  z143 := Tryz.sizeOf242
  v143 := Tryz.zeroValue242
  t145 := Tryz.underlying244
  a145 := Tryz.isAgg244
  z145 := Tryz.sizeOf244
  v145 := Tryz.zeroValue244
  t167 := Tryz.underlying195
  a167 := Tryz.isAgg195
  z167 := Tryz.sizeOf195
  v167 := Tryz.zeroValue195
  t168 := Tryz.underlying199
  a168 := Tryz.isAgg199
  z168 := Tryz.sizeOf199
  v168 := Tryz.zeroValue199
  t171 := Tryz.underlying202
  a171 := Tryz.isAgg202
  z171 := Tryz.sizeOf202
  v171 := Tryz.zeroValue202
  t173 := Tryz.underlying205
  a173 := Tryz.isAgg205
  z173 := Tryz.sizeOf205
  v173 := Tryz.zeroValue205
  t175 := Tryz.underlying196
  a175 := Tryz.isAgg196
  z175 := Tryz.sizeOf196
  v175 := Tryz.zeroValue196
  t210 := Tryz.underlying223
  a210 := Tryz.isAgg223
  z210 := Tryz.sizeOf223
  v210 := Tryz.zeroValue223
  t212 := Tryz.underlying227
  a212 := Tryz.isAgg227
  z212 := Tryz.sizeOf227
  v212 := Tryz.zeroValue227
  t213 := Tryz.underlying228
  a213 := Tryz.isAgg228
  z213 := Tryz.sizeOf228
  t232 := Tryz.underlying249
  a232 := Tryz.isAgg249
  z232 := Tryz.sizeOf249
  v232 := Tryz.zeroValue249
  t233 := Tryz.underlying250
  a233 := Tryz.isAgg250
  z233 := Tryz.sizeOf250
  v233 := Tryz.zeroValue250
  g15 := by kernel_rfl
  g16 := by kernel_rfl
  g17 := by kernel_rfl
  g18 := by kernel_rfl
  g19 := by kernel_rfl
  t80 := Tryz.underlying147
  a80 := Tryz.isAgg147
  z80 := Tryz.sizeOf147
  v80 := Tryz.zeroValue147
  i0 := by kernel_rfl
  i2 := by kernel_rfl
  i3 := by kernel_rfl
  i4 := by kernel_rfl
  i5 := by kernel_rfl
  i9 := by kernel_rfl
  i20 := by kernel_rfl
  i21 := by kernel_rfl
  i37 := by kernel_rfl
  i46 := by kernel_rfl
  i51 := by kernel_rfl
  i53 := by kernel_rfl
  i75 := by kernel_rfl
  i80 := by kernel_rfl
  i85 := by kernel_rfl
  i127 := by kernel_rfl
  i143 := by kernel_rfl
  i145 := by kernel_rfl
  i167 := by kernel_rfl
  i168 := by kernel_rfl
  i171 := by kernel_rfl
  i173 := by kernel_rfl
  i175 := by kernel_rfl
  i210 := by kernel_rfl
  i212 := by kernel_rfl
  i232 := by kernel_rfl
  i233 := by kernel_rfl
  m15 := by kernel_rfl
  m16 := by kernel_rfl
  m17 := by kernel_rfl
  m18 := by kernel_rfl
  m19 := by kernel_rfl
  c0 := by kernel_rfl
  c2 := by kernel_rfl
  c3 := by kernel_rfl
  c4 := by kernel_rfl
  c5 := by kernel_rfl
  c9 := by kernel_rfl
  c20 := by kernel_rfl
  c21 := by kernel_rfl
  c37 := by kernel_rfl
  c46 := by kernel_rfl
  c51 := by kernel_rfl
  c53 := by kernel_rfl
  c75 := by kernel_rfl
  c80 := by kernel_rfl
  c85 := by kernel_rfl
  c127 := by kernel_rfl
  c143 := by kernel_rfl
  c145 := by kernel_rfl
  c167 := by kernel_rfl
  c168 := by kernel_rfl
  c171 := by kernel_rfl
  c173 := by kernel_rfl
  c175 := by kernel_rfl
  c210 := by kernel_rfl
  c212 := by kernel_rfl
  c213 := by kernel_rfl
  c232 := by kernel_rfl
  c233 := by kernel_rfl }
open Go.RowKit in
theorem Tryz.strconv_ParseInt_10_at64_ok (s : ByteArray) (hmax : s.size ≤ 9223372036854775806) (v : Int) (h : Lib.parseIntB 64 s.data.toList = .ok v) (w : World) :
    Calls Tryz.prog 54 #[.string s, .int .i64 10, .int .i64 64] w fun e w' => e = .returned (.tuple #[.int .i64 v, .nilIface]) ∧ (w' = w ∨ ∃ t, w' = Lib.bytesWorld w 5 t) := Any.strconv_ParseInt_10_at64_ok Tryz.laysC174 s hmax v h w
def Tryz.lays99_ren : Go.Shelf.Ren := ⟨fun | 99 => 50 | 206 => 101 | n => n, fun | 9 => 9 | 4 => 4 | 3 => 3 | n => n, fun | n => n⟩
theorem Tryz.lays99 : Go.Proofs.Lays.n99 Tryz.prog Tryz.lays99_ren := {
  mixed := by kernel_rfl
  f99 := Tryz.func50.trans (congrArg some (by kernel_rfl))
  f206 := Tryz.func101.trans (congrArg some (by kernel_rfl))
  t3 := Tryz.underlying3
  a3 := Tryz.isAgg3
  z3 := Tryz.sizeOf3
  v3 := Tryz.zeroValue3
  t4 := Tryz.underlying4
  a4 := Tryz.isAgg4
  z4 := Tryz.sizeOf4
  v4 := Tryz.zeroValue4
  t9 := Tryz.underlying9
  a9 := Tryz.isAgg9
  z9 := Tryz.sizeOf9
  v9 := Tryz.zeroValue9 }
open Go.RowKit Go.Lib in
theorem Tryz.strings_HasPrefix (s p : ByteArray) (w : World) :
    Calls Tryz.prog 50 #[.string s, .string p] w fun e w' => e = .returned (.bool (Lib.hasPrefix s.data.toList p.data.toList)) ∧ w' = w := Any.strings_HasPrefix Tryz.lays99 s p w
end Go.Proofs
end
