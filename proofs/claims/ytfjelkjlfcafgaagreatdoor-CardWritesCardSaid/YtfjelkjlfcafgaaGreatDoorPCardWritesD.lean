/- A part of the proof. -/
import Derived.Test.YtfjelkjlfcafgaaGreatDoorPCardWritesC
section
/- Texts of numbers: FormatInt in general; the document's Text. -/
namespace Go.Proofs.YtfjelkjlfcafgaaGreatDoor.NumG
open Go Go.RowKit Go.Proofs.YtfjelkjlfcafgaaGreatDoor.Ax Go.Proofs.YtfjelkjlfcafgaaGreatDoor.Ti Go.Proofs.YtfjelkjlfcafgaaGreatDoor.BigM Go.Proofs.YtfjelkjlfcafgaaGreatDoor.RefA Go.Proofs.YtfjelkjlfcafgaaGreatDoor.RefC Go.Proofs.YtfjelkjlfcafgaaGreatDoor.RefD Go.Proofs.YtfjelkjlfcafgaaGreatDoor.RefH Go.Proofs.YtfjelkjlfcafgaaGreatDoor.RefK Go.Proofs.YtfjelkjlfcafgaaGreatDoor.NumS Go.Proofs.YtfjelkjlfcafgaaGreatDoor.NumA Go.Proofs.YtfjelkjlfcafgaaGreatDoor.NumT Go.Proofs.YtfjelkjlfcafgaaGreatDoor.NumU Go.Proofs.YtfjelkjlfcafgaaGreatDoor.NumX
set_option linter.unusedSimpArgs false
set_option linter.unusedVariables false
set_option maxRecDepth 4000
set_option maxHeartbeats 2000000
theorem rTI : type_of% (cj @ti3 (cj @ti2 (cj @ti4 (cj @ti9 (cj @ti5 (cj @ti36 @ti24)))))) := cj @ti3 (cj @ti2 (cj @ti4 (cj @ti9 (cj @ti5 (cj @ti36 @ti24)))))

theorem dec_eq (n : Nat) : Lib.decDigits n = (decP n).map UInt8.ofNat := by
  induction n using Nat.strongRecOn with
  | ind n ih =>
    rw [Lib.decDigits]
    split
    · rename_i h
      unfold decP
      split
      · rename_i e; subst e; rfl
      · rw [decN, digs_pos 10 n (by decide) (by omega), Nat.div_eq_of_lt h, digs_zero, Nat.mod_eq_of_lt h]
        rfl
    · rename_i h
      rw [ih (n / 10) (by omega)]
      have e1 : decP n = decN n := by unfold decP; rw [if_neg (by omega)]
      have e2 : decP (n / 10) = decN (n / 10) := by unfold decP; rw [if_neg (by omega)]
      rw [e1, e2]
      have e3 : decN n = decN (n / 10) ++ [48 + n % 10] := by
        unfold decN
        rw [digs_pos 10 n (by decide) (by omega), List.reverse_cons, List.map_append]
        rfl
      rw [e3, List.map_append]
      rfl
theorem itoa_eq (z : Int) : Lib.itoa z = (decS z).map UInt8.ofNat := by
  unfold Lib.itoa decS
  split
  · rename_i h
    rw [if_neg (by omega), dec_eq, decP, if_neg (by omega)]
    rfl
  · rename_i h
    by_cases e : z = 0
    · subst e; rw [if_pos rfl, dec_eq]; rfl
    · rw [if_neg e, dec_eq, decP, if_neg (by omega), show z.toNat = z.natAbs by omega]
      rfl
theorem format_ax (z : Int) (h0 : -9223372036854775808 ≤ z) (h1 : z ≤ 9223372036854775807) : PCall Tryz.prog 63 [.v (.int .i64 z), .v (.int .i64 10)] (.v (.string (bs (decS z)))) := by
  refine pcall_lift_tab (us := [.int .i64 z, .int .i64 10]) (enters_of Tryz.func63 rfl rfl) (fun k => .v _) fun w ht hz => ?_
  refine (Tryz.strconv_FormatInt_10 z h0 h1 w (NumLaid.tabIs ht hz)).mono ?_
  rintro en w' ⟨rfl, k, os, rfl⟩
  rw [itoa_eq]
  exact ⟨rfl, ⟨rfl, rfl, rfl, by simp [Sort.grow, World.drewN], fun i hi => by simp [Sort.grow, World.drewN, Array.getElem?_append, hi]⟩⟩
theorem text_all (m x : Int) : PCall Tryz.prog 17 [NM m x] (textV m x) :=
  text_ax m x fun h => by
    obtain ⟨h1, h2, _⟩ := RefM.validN_m m x h
    exact format_ax m (by omega) (by omega)
theorem digits_dec (x : Int) (l : lz x ≤ 1099511627776) : PCall Tryz.prog 65 [NI x] (.v (.string (bs (decS x)))) := RefJ.digits_ax x l
theorem app0 (l : List Nat) : l ++ [] = l := List.append_nil l
theorem zeros (n : Nat) : List.replicate n 48 ++ [48] = List.replicate (n + 1) 48 := by rw [List.replicate_succ']
theorem hd_names (kk : Nat) (h : kk < 9) : (([AV.v (.string (ByteArray.mk #[102])), .v (.string (ByteArray.mk #[112])), .v (.string (ByteArray.mk #[110])), .v (.string (ByteArray.mk #[117])), .v (.string (ByteArray.mk #[109])), .v (.string (ByteArray.mk #[])), .v (.string (ByteArray.mk #[107])), .v (.string (ByteArray.mk #[109, 101, 103])), .v (.string (ByteArray.mk #[103]))]).drop kk).head? = some (.v (.string (bs (letterS kk)))) := by
  have : kk = 0 ∨ kk = 1 ∨ kk = 2 ∨ kk = 3 ∨ kk = 4 ∨ kk = 5 ∨ kk = 6 ∨ kk = 7 ∨ kk = 8 := by omega
  rcases this with rfl | rfl | rfl | rfl | rfl | rfl | rfl | rfl | rfl <;> rfl
theorem textD_ax (m x : Int) : PCall Tryz.prog 20 [NM m x] (textV m x) := by
  refine pcall_of fun s => ?_
  have hv := RefM.valid_ax m x
  unfold RefM.NM at hv
  unfold NM textV
  by_cases q : validN m x = true
  · rw [if_pos q]
    rw [show RefM.validN m x = true from q] at hv
    obtain ⟨m1, m2, k1, k2⟩ := RefM.validN_m m x q
    by_cases hm : m = 0
    · have hx : x = 0 := by
        have : RefM.validN m x = decide (x = 0) := by
          unfold RefM.validN
          rw [if_pos (by rw [hm]; rfl), hm]
          simp
        have q2 : RefM.validN m x = true := q
        rw [this] at q2
        simpa using q2
      subst hm hx
      have e1 : textS 0 0 = [48] := rfl
      rw [e1]
      refine acall_of Tryz.func20 rfl rfl (by simp [Tryz.ntmps20]) ?_; rw [Tryz.ntmps20, Tryz.results20]
      refine go rTI ?_
      refine aw_reg fun K hK => ?_; refine rn rTI ?_; refine cont_pure hv ?_; refine rn rTI ?_; refine hK _ _ ?_; clear hK K
      rw [then_normal]
      refine ifs ?_ ?_ <;> first | exact nope | intro hb
      refine go rTI ?_
      refine ifs ?_ ?_ <;> first | exact nope | intro hb
      refine go rTI ?_
      exact ⟨rfl, fun i hi => if_neg (by omega)⟩
    · have hw := wide_ax m (by omega) (by omega)
      have hl : lz m ≤ 4 := lz_small m (by omega) (by omega)
      have hd := digits_dec m (by omega)
      have hm0 : (m == 0) = false := by simp [hm]
      have hld := decS_len m m1 m2
      have lD := bs_size (decS m)
      by_cases qx : x < -15
      · have hs := small_ax (-x) (by omega) (by omega)
        have hl2 : lz (-x) ≤ 4 := lz_small _ (by omega) (by omega)
        have hd2 := digits_dec (-x) (by omega)
        have e3 : decS (-x) = decN x.natAbs := by
          unfold decS
          rw [if_neg (by omega), if_neg (by omega), Int.natAbs_neg]
          rfl
        rw [e3] at hd2
        have e1 : textS m x = decS m ++ [101, 45] ++ decN x.natAbs := by unfold textS; rw [if_pos qx]
        rw [e1]
        have c1 : bs (decS m) ++ (ByteArray.mk #[101, 45]) = bs (decS m ++ [101, 45]) := by
          show bs (decS m) ++ bs [101, 45] = _
          exact bs_append _ _
        have c2 := bs_append (decS m ++ [101, 45]) (decN x.natAbs)
        have lE := bs_size (decS m ++ [101, 45])
        have lN := bs_size (decN x.natAbs)
        have lN2 := decN_len x.natAbs 2 (by omega)
        have l2 : (ByteArray.mk #[101, 45]).size = 2 := rfl
        rw [List.length_append] at lE
        rw [show ([101, 45] : List Nat).length = 2 from rfl] at lE
        clear e1 e3
        refine acall_of Tryz.func20 rfl rfl (by simp [Tryz.ntmps20]) ?_; rw [Tryz.ntmps20, Tryz.results20]
        refine go rTI ?_
        refine aw_reg fun K hK => ?_; refine rn rTI ?_; refine cont_pure hv ?_; refine rn rTI ?_; refine hK _ _ ?_; clear hK K
        rw [then_normal]
        refine ifs ?_ ?_ <;> first | exact nope | intro hb
        refine go (cj rTI @hm0) ?_
        refine ifs ?_ ?_ <;> first | exact nope | intro hb
        refine go trivial ?_
        refine aw_reg fun K hK => ?_; refine rn rTI ?_; refine cont_pure hw ?_; refine rn rTI ?_; refine cont_pure hd ?_; refine rn rTI ?_; refine hK _ _ ?_; clear hK K
        rw [then_normal]
        refine go rTI ?_
        refine ifs ?_ ?_ <;> first | exact nope | intro hb
        generalize x.natAbs = i at *
        refine aw_seq ?_
        refine aw_reg fun K hK => ?_; refine rn (cj rTI (cj @c1 (cj @c2 (cj @lD (cj @lE (cj @lN (cj @l2 @Int.zero_sub))))))) ?_; refine cont_pure hs ?_; refine rn rTI ?_; refine cont_pure hd2 ?_; refine rn (cj rTI (cj @c1 (cj @c2 (cj @lD (cj @lE (cj @lN (cj @l2 @Int.zero_sub))))))) ?_; refine hK _ _ ?_; clear hK K
        refine go rTI ?_
        exact fun i hi => if_neg (by omega)
      · obtain ⟨kk, hkk⟩ : ∃ kk : Nat, kk = ((x + 15) / 3).toNat := ⟨_, rfl⟩
        obtain ⟨z, hz⟩ : ∃ z : Nat, z = ((x + 15) % 3).toNat := ⟨_, rfl⟩
        have e1 : textS m x = decS m ++ List.replicate z 48 ++ letterS kk := by unfold textS; rw [if_neg qx, hkk, hz]
        rw [e1]
        have hx : x = 3 * (kk : Int) - 15 + z := by omega
        have hz3 : z < 3 := by omega
        have hk9 : kk < 9 := by omega
        have hdn := hd_names kk hk9
        have lK := bs_size (letterS kk)
        have lK3 := (letter_reads kk (by omega)).2.2
        clear e1 hkk hz
        refine acall_of Tryz.func20 rfl rfl (by simp [Tryz.ntmps20]) ?_; rw [Tryz.ntmps20, Tryz.results20]
        refine go rTI ?_
        refine aw_reg fun K hK => ?_; refine rn rTI ?_; refine cont_pure hv ?_; refine rn rTI ?_; refine hK _ _ ?_; clear hK K
        rw [then_normal]
        refine ifs ?_ ?_ <;> first | exact nope | intro hb
        refine go (cj rTI @hm0) ?_
        refine ifs ?_ ?_ <;> first | exact nope | intro hb
        refine go trivial ?_
        refine aw_reg fun K hK => ?_; refine rn rTI ?_; refine cont_pure hw ?_; refine rn rTI ?_; refine cont_pure hd ?_; refine rn rTI ?_; refine hK _ _ ?_; clear hK K
        rw [then_normal]
        refine go rTI ?_
        refine ifs ?_ ?_ <;> first | exact nope | intro hb
        refine go rTI ?_
        refine aw_loop (fun n e s' => ∃ i : Nat, n = i ∧ kk ≤ i ∧ i < 9 ∧ e.n = 61 ∧ e.m 1 = .ptr s.nx 0 ∧ e.m 4 = .v (.string (bs (decS m))) ∧ e.m 5 = .own (s.nx + 1) 0 9 1 ∧ e.m 6 = .v (.int .i64 (i : Nat)) ∧ s'.get s.nx = some [.v (.int .i64 m), .v (.int .i64 x)] ∧
          s'.get (s.nx + 1) = some [AV.v (.string (ByteArray.mk #[102])), AV.v (.string (ByteArray.mk #[112])), AV.v (.string (ByteArray.mk #[110])), AV.v (.string (ByteArray.mk #[117])), AV.v (.string (ByteArray.mk #[109])), AV.v (.string (ByteArray.mk #[])), AV.v (.string (ByteArray.mk #[107])), AV.v (.string (ByteArray.mk #[109, 101, 103])), AV.v (.string (ByteArray.mk #[103]))] ∧ ∀ i, i < s.nx → s'.get i = s.get i) 8 ?_ ?_
        · refine ⟨8, rfl, by omega, by omega, ?_⟩
          (repeat' refine And.intro ?_ ?_) <;> first | exact rfl | exact fnz rTI | skip
        · rintro i e s' ⟨_, rfl, hi1, hi2, h1, k1, k4, k5, k6, g0, g1, fr⟩
          by_cases hi : kk < i
          · refine go (cj rTI (cj @h1 @k6)) ?_
            refine ifs ?_ ?_ <;> first | exact nope | intro hb
            refine go (cj rTI (cj @h1 (cj @k1 (cj @k6 @g0)))) ?_
            refine ifs ?_ ?_ <;> first | exact nope | intro hb
            refine go (cj rTI (cj @h1 @k6)) ?_
            simp only [block_normal, loop_normal]
            refine ⟨i - 1, by omega, i - 1, rfl, by omega, by omega, ?_, ?_, ?_, ?_, ?_, g0, g1, fr⟩
            all_goals ((first | refine rn (cj @h1 (cj @k1 (cj @k4 (cj @k5 @k6)))) ?_ | exact rn0 (cj @h1 (cj @k1 (cj @k4 (cj @k5 @k6))))))
            refine congrArg (fun z : Int => AV.v (.int .i64 z)) ?_
            omega
          · obtain rfl : i = kk := by omega
            refine go (cj rTI (cj @h1 @k6)) ?_
            refine ifs ?_ ?_ <;> first | exact nope | intro hb
            refine go (cj rTI (cj @h1 (cj @k1 (cj @k6 @g0)))) ?_
            refine ifs ?_ ?_ <;> first | exact nope | intro hb
            refine go (cj rTI (cj @h1 @k6)) ?_
            refine aw_at (.exit 2) (fun e s'' => s'' = s' ∧ e.n = 61 ∧ e.m 4 = .v (.string (bs (decS m ++ List.replicate z 48))) ∧ e.m 5 = .own (s.nx + 1) 0 9 1 ∧ e.m 6 = .v (.int .i64 (i : Nat))) ?_ ?_
            · refine aw_loop (fun n e s'' => ∃ p : Nat, n = z - p ∧ p ≤ z ∧ s'' = s' ∧ e.n = 61 ∧ e.m 1 = .ptr s.nx 0 ∧ e.m 4 = .v (.string (bs (decS m ++ List.replicate p 48))) ∧ e.m 5 = .own (s.nx + 1) 0 9 1 ∧ e.m 6 = .v (.int .i64 (i : Nat)) ∧ e.m 7 = .v (.int .i64 (3 * (i : Int) - 15 + (p : Nat)))) z ?_ ?_
              · refine ⟨0, by omega, by omega, rfl, ?_⟩
                (repeat' refine And.intro ?_ ?_) <;> first | exact rfl | exact fnz (cj rTI (cj @h1 (cj @k1 (cj @k4 (cj @k5 (cj @k6 @app0)))))) | skip
                refine rn trivial ?_
                refine congrArg (fun z : Int => AV.v (.int .i64 z)) ?_
                omega
              · clear h1 k1 k4 k5 k6 e
                rintro n e s'' ⟨p, rfl, hp, rfl, h1, k1, k4, k5, k6, k7⟩
                by_cases hp2 : p < z
                · have c1 := bs_append (decS m ++ List.replicate p 48) [48]
                  have lE := bs_size (decS m ++ List.replicate p 48)
                  rw [List.length_append, List.length_replicate] at lE
                  rw [show bs [48] = ByteArray.mk #[48] from rfl, List.append_assoc, zeros] at c1
                  refine go (cj rTI (cj @h1 (cj @k1 (cj @k7 @g0)))) ?_
                  refine ifs ?_ ?_ <;> first | exact nope | intro hb
                  have l2 : (ByteArray.mk #[48]).size = 1 := rfl
                  refine go (cj rTI (cj @h1 (cj @k4 (cj @k7 (cj @c1 (cj @lE @l2)))))) ?_
                  simp only [block_normal, loop_normal]
                  refine ⟨z - (p + 1), by omega, p + 1, rfl, by omega, by first | rfl | trivial, ?_, ?_, ?_, ?_, ?_, ?_⟩
                  all_goals ((first | refine rn (cj @h1 (cj @k1 (cj @k4 (cj @k5 (cj @k6 @k7))))) ?_ | exact rn0 (cj @h1 (cj @k1 (cj @k4 (cj @k5 (cj @k6 @k7)))))))
                  refine congrArg (fun z : Int => AV.v (.int .i64 z)) ?_
                  omega
                · obtain rfl : p = z := by omega
                  refine go (cj rTI (cj @h1 (cj @k1 (cj @k7 @g0)))) ?_
                  refine ifs ?_ ?_ <;> first | exact nope | intro hb
                  refine go trivial ?_
                  refine ⟨?_, ?_, ?_, ?_⟩
                  all_goals (exact rn0 (cj @h1 (cj @k4 (cj @k5 @k6))))
            · clear h1 k1 k4 k5 k6 e
              rintro e s'' ⟨rfl, h1, k4, k5, k6⟩
              have c2 := bs_append (decS m ++ List.replicate z 48) (letterS i)
              have lE := bs_size (decS m ++ List.replicate z 48)
              rw [List.length_append, List.length_replicate] at lE
              simp only [block_exit, if_true, then_normal]
              generalize letterS i = lk at *
              refine go (cj rTI (cj @h1 (cj @k4 (cj @k5 (cj @k6 (cj @g1 (cj @hdn (cj @c2 (cj @lE (cj @lK (cj @Nat.zero_add (cj @Nat.mul_one @Int.toNat_natCast)))))))))))) ?_
              exact fr
  · have q' : validN m x = false := by simpa using q
    rw [if_neg q]
    rw [show RefM.validN m x = false from q'] at hv
    refine acall_of Tryz.func20 rfl rfl (by simp [Tryz.ntmps20]) ?_; rw [Tryz.ntmps20, Tryz.results20]
    refine go rTI ?_
    refine aw_reg fun K hK => ?_; refine rn rTI ?_; refine cont_pure hv ?_; refine rn rTI ?_; refine hK _ _ ?_; clear hK K
    rw [then_normal]
    refine ifs ?_ ?_ <;> first | exact nope | intro hb
    refine go trivial ?_
    exact ⟨rfl, fun i hi => if_neg (by omega)⟩
end Go.Proofs.YtfjelkjlfcafgaaGreatDoor.NumG
end
section
/- Cards and models, plain: what the words of a line say. -/
namespace Go.Proofs.YtfjelkjlfcafgaaGreatDoor.CardS
open Go.Proofs.YtfjelkjlfcafgaaGreatDoor.NumS Go.Proofs.YtfjelkjlfcafgaaGreatDoor.RefM
abbrev Str := List Nat
abbrev Num := Int × Int
def nameC (c : Nat) : Bool := decide (97 ≤ c ∧ c ≤ 122) || decide (48 ≤ c ∧ c ≤ 57) || decide (c = 95)
def isName (s : Str) : Bool := decide (1 ≤ s.length ∧ s.length ≤ 16) && s.all nameC
def kinds : Str := [114, 99, 108, 118, 105, 101, 103, 102, 104, 116, 100, 115, 120]
def isDev (s : Str) : Bool := isName s && kinds.contains (s.getD 0 0)
structure Wv where
  kind : Int
  vals : List Num
  steps : List Int
structure Crd where
  name : Str
  nodes : List Str
  ref : Str
  value : Num
  wave : Wv
structure Mdl where
  name : Str
  kind : Int
  g : List Num
  v : List Num
def wv0 : Wv := ⟨0, [], []⟩
def crd0 : Crd := ⟨[], [], [], (0, 0), wv0⟩
def mdl0 : Mdl := ⟨[], 0, [], []⟩
def valid (n : Num) : Bool := validN n.1 n.2
def shapeK (k : Nat) : Nat × Bool × Bool :=
  if k = 114 ∨ k = 99 ∨ k = 108 then (2, false, true) else if k = 118 ∨ k = 105 then (2, false, false) else if k = 102 ∨ k = 104 then (2, true, true)
  else if k = 100 then (2, true, false) else if k = 115 then (4, true, false) else (4, false, true)
def sDc : Str := [100, 99]
def sPulse : Str := [112, 117, 108, 115, 101]
def sPwl : Str := [112, 119, 108]
def sTable : Str := [116, 97, 98, 108, 101]
def sModel : Str := [46, 109, 111, 100, 101, 108]
def waveWords (w : List Str) : Bool :=
  match w with
  | [] => false
  | k :: r => if k = sDc then decide (r.length = 1) else if k = sPulse then decide (r.length = 7) else if k = sPwl then decide (2 ≤ r.length ∧ r.length % 2 = 0 ∧ r.length ≤ 32)
    else if k = sTable then decide (1 ≤ r.length ∧ r.length ≤ 16) else decide (r.length = 0)
def want (k : Nat) : Nat := 1 + (shapeK k).1 + (if (shapeK k).2.1 then 1 else 0) + (if (shapeK k).2.2 then 1 else 0)
def counted (k : Nat) (words : List Str) : Bool :=
  if k = 120 then decide (3 ≤ words.length ∧ words.length ≤ 10) else if k = 118 ∨ k = 105 then decide (4 ≤ words.length) && waveWords (words.drop 3) else decide (words.length = want k)
def stepS (w : Str) : Option Int := if decP (digV w) = w ∧ digV w ≤ 1000000000 then some (digV w : Nat) else none
def numE (w : Str) (e : Int) : Int := if e = 0 then (parseS w).2.2 else e
def stepE (w : Str) (e : Int) : Int := if e = 0 then (if (stepS w).isSome then 0 else 3) else e
def numV (w : Str) : Num := ((parseS w).1, (parseS w).2.1)
def stepV (w : Str) : Int := (stepS w).getD 0
def numsE : List Str → Int → Int
  | [], e => e
  | w :: r, e => numsE r (numE w e)
def stepsE : List Str → Int → Int
  | [], e => e
  | w :: r, e => stepsE r (stepE w e)
def pairsE : List Str → Int → Int
  | a :: b :: r, e => pairsE r (numE b (stepE a e))
  | _, e => e
def evens : List Str → List Str
  | a :: _ :: r => a :: evens r
  | l => l
def odds : List Str → List Str
  | _ :: b :: r => b :: odds r
  | _ => []
def waveR (w : List Str) (e : Int) : Wv × Int :=
  match w with
  | [] => (wv0, e)
  | k :: r =>
    if k = sPulse then (⟨2, (r.take 2).map numV, (r.drop 2).map stepV⟩, stepsE (r.drop 2) (numsE (r.take 2) e))
    else if k = sPwl then (⟨3, (odds r).map numV, (evens r).map stepV⟩, pairsE r e)
    else if k = sTable then (⟨4, r.map numV, []⟩, numsE r e)
    else if k = sDc then (⟨1, r.map numV, []⟩, numsE r e)
    else (⟨1, [numV k], []⟩, numE k e)
def rising : List Int → Bool
  | a :: b :: r => decide (a < b) && rising (b :: r)
  | _ => true
def waveOk (w : Wv) : Bool :=
  w.vals.all valid && w.steps.all (fun s => decide (0 ≤ s ∧ s ≤ 1000000000)) &&
  (if w.kind = 1 then decide (w.vals.length = 1 ∧ w.steps.length = 0)
   else if w.kind = 2 then decide (w.vals.length = 2 ∧ w.steps.length = 5 ∧ 1 ≤ w.steps.getD 4 0 ∧ w.steps.getD 1 0 + w.steps.getD 2 0 + w.steps.getD 3 0 ≤ w.steps.getD 4 0)
   else if w.kind = 3 then rising w.steps && decide (w.vals.length = w.steps.length ∧ 1 ≤ w.vals.length ∧ w.vals.length ≤ 16)
   else if w.kind = 4 then decide (1 ≤ w.vals.length ∧ w.vals.length ≤ 16 ∧ w.steps.length = 0)
   else false)
def formOf (k n : Nat) : Nat × Bool × Bool := if k = 120 then (n - 2, true, false) else shapeK k
def refC (f : Nat × Bool × Bool) (ws : List Str) : Str := if f.2.1 then (ws.drop f.1).headD [] else []
def restC (f : Nat × Bool × Bool) (ws : List Str) : List Str := if f.2.1 then (ws.drop f.1).drop 1 else ws.drop f.1
def valC (f : Nat × Bool × Bool) (ws : List Str) : Num := if f.2.2 then numV ((restC f ws).headD []) else (0, 0)
def errV (f : Nat × Bool × Bool) (ws : List Str) : Int := if f.2.2 then numE ((restC f ws).headD []) 0 else 0
def srcC (k : Nat) : Bool := decide (k = 118 ∨ k = 105)
def wvC (k : Nat) (f : Nat × Bool × Bool) (ws : List Str) : Wv := if srcC k then (waveR (restC f ws) (errV f ws)).1 else wv0
def errC (k : Nat) (f : Nat × Bool × Bool) (ws : List Str) : Int := if srcC k then (waveR (restC f ws) (errV f ws)).2 else errV f ws
def badRef (k : Nat) (f : Nat × Bool × Bool) (ws : List Str) : Bool := f.2.1 && (!isName (refC f ws) || (decide (k = 102 ∨ k = 104) && decide ((refC f ws).getD 0 0 ≠ 118)))
def zeroK (k : Nat) : Bool := decide (k = 114 ∨ k = 99 ∨ k = 108)
def readB (w0 : Str) (ws : List Str) (k : Nat) (f : Nat × Bool × Bool) : Crd × Int :=
  if (isDev w0 && counted k (w0 :: ws)) = true then
    if (ws.take f.1).all isName = true then
      if badRef k f ws = true then (crd0, 71) else if errC k f ws ≠ 0 then (crd0, errC k f ws) else if (valC f ws).1 = 0 ∧ zeroK k = true then (crd0, 11)
      else if srcC k = true ∧ waveOk (wvC k f ws) = false then (crd0, 40) else (⟨w0, ws.take f.1, refC f ws, valC f ws, wvC k f ws⟩, 0)
    else (crd0, 71)
  else (crd0, 70)
def readC : List Str → Crd × Int
  | [] => (crd0, 70)
  | w0 :: ws => readB w0 ws (w0.getD 0 0) (formOf (w0.getD 0 0) (ws.length + 1))
def textN (n : Num) : Str := if valid n then textS n.1 n.2 else [63]
def zipW : List Int → List Num → List Str
  | s :: ss, v :: vs => decS s :: textN v :: zipW ss vs
  | _, _ => []
def waveT (w : Wv) : List Str :=
  if w.kind = 3 then sPwl :: zipW w.steps w.vals
  else (if w.kind = 1 then [sDc] else if w.kind = 2 then [sPulse] else if w.kind = 4 then [sTable] else []) ++ w.vals.map textN ++ w.steps.map decS
def wordsC (c : Crd) : List Str :=
  let k := c.name.getD 0 0
  c.name :: c.nodes ++ (if (shapeK k).2.1 = true ∨ k = 120 then [c.ref] else []) ++ (if (shapeK k).2.2 = true ∧ k ≠ 120 then [textN c.value] else []) ++ (if k = 118 ∨ k = 105 then waveT c.wave else [])
def sameW (a b : Wv) : Bool := decide (a.kind = b.kind ∧ a.vals = b.vals ∧ a.steps = b.steps)
def writeC (c : Crd) : List Str × Int :=
  if isDev c.name = true ∧ c.nodes.length ≤ 8 ∧ c.wave.vals.length ≤ 16 ∧ c.wave.steps.length ≤ 16 then
    let d := readC (wordsC c)
    if d.2 = 0 ∧ d.1.ref = c.ref ∧ d.1.value = c.value ∧ d.1.nodes = c.nodes ∧ sameW d.1.wave c.wave = true then (wordsC c, 0) else ([], 70)
  else ([], 70)
def rightF (k : Nat) (f : Nat × Bool × Bool) (c : Crd) : Bool :=
  (!zeroK k || decide (c.value.1 ≠ 0)) && (!decide (k = 102 ∨ k = 104) || decide (c.ref.getD 0 0 = 118)) && (!decide (k = 120) || decide (1 ≤ c.nodes.length ∧ c.nodes.length ≤ 8)) && decide (c.nodes.length = f.1) && c.nodes.all isName &&
  (if f.2.1 = true then isName c.ref else decide (c.ref = [])) && (if f.2.2 = true then valid c.value else decide (c.value = (0, 0))) &&
  (if srcC k = true then waveOk c.wave else decide (c.wave.kind = 0 ∧ c.wave.vals = [] ∧ c.wave.steps = []))
def rightC (c : Crd) : Bool := isDev c.name && rightF (c.name.getD 0 0) (if c.name.getD 0 0 = 120 then (c.nodes.length, true, false) else shapeK (c.name.getD 0 0)) c
def sLess (a b : Num) : Bool := decide (RefC.sgn ((ofN a.1 a.2).1 * (ofN b.1 b.2).2 - (ofN b.1 b.2).1 * (ofN a.1 a.2).2) < 0)
def risingN : List Num → Bool
  | a :: b :: r => sLess a b && risingN (b :: r)
  | _ => true
def modelOk (m : Mdl) : Bool :=
  isName m.name && m.g.all valid && m.v.all valid &&
  (if m.kind = 115 then decide (m.g.length = 2 ∧ m.v.length = 1) else if m.kind = 100 then decide (1 ≤ m.g.length ∧ m.g.length ≤ 4 ∧ m.v.length + 1 = m.g.length) && risingN m.v else false)
def readM (words : List Str) : Mdl × Int :=
  let n := words.length
  let k := words.getD 2 []
  if 4 ≤ n ∧ words.getD 0 [] = sModel ∧ (k = [100] ∨ k = [115]) ∧ n % 2 = 0 ∧ n ≤ 10 ∧ (k = [115] → n = 6) then
    if isName (words.getD 1 []) then
      let r := words.drop 3
      let m : Mdl := ⟨words.getD 1 [], (k.getD 0 0 : Nat), (evens r).map numV, (odds r).map numV⟩
      if numsE r 0 ≠ 0 then (mdl0, numsE r 0) else if modelOk m then (m, 0) else (mdl0, 50)
    else (mdl0, 71)
  else (mdl0, 70)
end Go.Proofs.YtfjelkjlfcafgaaGreatDoor.CardS
end
section
/- The law NumBack, walked. -/
namespace Go.Proofs.YtfjelkjlfcafgaaGreatDoor.NumH
open Go Go.RowKit Go.Proofs.YtfjelkjlfcafgaaGreatDoor.Ax Go.Proofs.YtfjelkjlfcafgaaGreatDoor.Ti Go.Proofs.YtfjelkjlfcafgaaGreatDoor.BigM Go.Proofs.YtfjelkjlfcafgaaGreatDoor.NumS Go.Proofs.YtfjelkjlfcafgaaGreatDoor.NumA Go.Proofs.YtfjelkjlfcafgaaGreatDoor.NumB Go.Proofs.YtfjelkjlfcafgaaGreatDoor.NumT Go.Proofs.YtfjelkjlfcafgaaGreatDoor.NumU Go.Proofs.YtfjelkjlfcafgaaGreatDoor.NumL Go.Proofs.YtfjelkjlfcafgaaGreatDoor.NumW Go.Proofs.YtfjelkjlfcafgaaGreatDoor.NumX Go.Proofs.YtfjelkjlfcafgaaGreatDoor.NumY Go.Proofs.YtfjelkjlfcafgaaGreatDoor.NumE Go.Proofs.YtfjelkjlfcafgaaGreatDoor.NumG
set_option linter.unusedSimpArgs false
set_option linter.unusedVariables false
set_option maxRecDepth 4000
set_option maxHeartbeats 2000000
theorem ok_valid (m x : Int) : RefM.validN m x = true ↔ okN m x := by
  unfold RefM.validN okN
  split
  · simp
  · simp
    omega
theorem by_app3 {a b : List Nat} (ha : By a) (hb : By b) : By (a ++ b) := fun c hc => by
  rcases List.mem_append.1 hc with hc | hc
  · exact ha c hc
  · exact hb c hc
theorem textS_by (m x : Int) : By (textS m x) := by
  have hD : By (decS m) := by
    intro c hc
    unfold decS at hc
    split at hc
    · simp at hc; omega
    · rcases List.mem_append.1 hc with hc | hc
      · split at hc
        · simp at hc; omega
        · cases hc
      · have := (isD_iff c).1 (decN_isD _ c hc)
        omega
  unfold textS
  split
  · refine by_app3 (by_app3 hD ?_) ?_
    · intro c hc; simp at hc; omega
    · intro c hc
      have := (isD_iff c).1 (decN_isD _ c hc)
      omega
  · refine by_app3 (by_app3 hD ?_) ?_
    · intro c hc
      have := List.eq_of_mem_replicate hc
      omega
    · exact letter_by _
end Go.Proofs.YtfjelkjlfcafgaaGreatDoor.NumH
end
section
/- Cards: names, devices, shapes: what the program's small functions answer. -/
namespace Go.Proofs.YtfjelkjlfcafgaaGreatDoor.CardA
open Go Go.RowKit Go.Proofs.YtfjelkjlfcafgaaGreatDoor.Ax Go.Proofs.YtfjelkjlfcafgaaGreatDoor.Ti Go.Proofs.YtfjelkjlfcafgaaGreatDoor.NumS Go.Proofs.YtfjelkjlfcafgaaGreatDoor.NumT Go.Proofs.YtfjelkjlfcafgaaGreatDoor.CardS
set_option linter.unusedSimpArgs false
set_option linter.unusedVariables false
set_option maxRecDepth 4000
set_option maxHeartbeats 2000000
theorem rTI : type_of% (cj @ti3 (cj @ti4 (cj @ti9 (cj @ti5 (cj @ti36 (cj @ti116 (cj @Nat.zero_add (cj @Nat.mul_one @Int.toNat_natCast)))))))) := cj @ti3 (cj @ti4 (cj @ti9 (cj @ti5 (cj @ti36 (cj @ti116 (cj @Nat.zero_add (cj @Nat.mul_one @Int.toNat_natCast)))))))

theorem tz0 : Int.toNat 0 = 0 := rfl
theorem tz1 : Int.toNat 1 = 1 := rfl
theorem tz3 : Int.toNat 3 = 3 := rfl
def SV (s : Str) : AV := .v (.string (bs s))
def SL (l : List Str) : List AV := l.map SV
def TV (l : List Str) : AV := .sl l.length (SL l)
theorem hd_byte (l : Str) (h : By l) (k : Nat) (hk : k < l.length) : ((byteAV (bs l)).drop k).head? = some (.v (.int .u8 ((l.getD k 0 : Nat) : Int))) := by
  have hg := bs_get l h k
  have hs := bs_size l
  rw [List.head?_drop]
  unfold byteAV
  rw [List.getElem?_map]
  have hlt : k < (bs l).data.toList.length := by rw [← hs] at hk; simpa using hk
  rw [List.getElem?_eq_getElem hlt]
  rw [List.getD_eq_getElem?_getD, List.getElem?_eq_getElem hlt] at hg
  simp only [Option.getD_some] at hg
  simp only [Option.map_some, hg]
theorem take_all {α : Type} (p : α → Bool) (l : List α) (d : α) (k : Nat) (hk : k < l.length) (h : (l.take k).all p = true) : (l.take (k + 1)).all p = p (l.getD k d) := by
  rw [List.take_succ_eq_append_getElem hk, List.all_append, h, List.getD_eq_getElem?_getD, List.getElem?_eq_getElem hk]
  simp
theorem all_not {α : Type} (p : α → Bool) (l : List α) (d : α) (k : Nat) (hk : k < l.length) (h : p (l.getD k d) = false) : l.all p = false := by
  rw [List.getD_eq_getElem?_getD, List.getElem?_eq_getElem hk] at h
  rw [List.all_eq_false]
  exact ⟨l[k], List.getElem_mem hk, by simpa using h⟩
theorem nameC_int (c : Nat) : nameC c = ((decide ((97 : Int) ≤ (c : Int)) && decide ((c : Int) ≤ 122)) || (decide ((48 : Int) ≤ (c : Int)) && decide ((c : Int) ≤ 57)) || ((c : Int) == 95)) := by
  rw [Bool.eq_iff_iff]
  unfold nameC
  simp
  omega
theorem name_ax (l : Str) (h : By l) (hl : l.length ≤ 9223372036854775807) : PCall Tryz.prog 88 [SV l] (.v (.bool (isName l))) := by
  refine pcall_of fun s => ?_
  have lS := bs_size l
  unfold SV
  by_cases h0 : 1 ≤ l.length ∧ l.length ≤ 16
  · have e0 : isName l = l.all nameC := by unfold isName; rw [decide_eq_true h0]; rfl
    have d1 : decide ((l.length : Int) < 1) = false := by simp; omega
    have d2 : decide ((16 : Int) < (l.length : Int)) = false := by simp; omega
    refine acall_of Tryz.func88 rfl rfl (by simp [Tryz.ntmps88]) ?_; rw [Tryz.ntmps88, Tryz.results88]
    refine go (cj rTI (cj @tz0 (cj @lS (cj @d1 @d2)))) ?_
    refine ifs ?_ ?_ <;> first | exact nope | intro hb
    refine go (cj rTI (cj @tz0 @lS)) ?_
    refine aw_loop (fun m e s' => ∃ k, m = l.length - k ∧ k ≤ l.length ∧ e.n = 40 ∧ e.m 14 = .sl l.length (byteAV (bs l)) ∧ e.m 15 = .v (.int .i64 l.length) ∧ e.m 16 = .v (.int .i64 (k : Nat)) ∧ (l.take k).all nameC = true ∧ s' = s) l.length ?_ ?_
    · refine ⟨0, by omega, by omega, ?_⟩
      (repeat' refine And.intro ?_ ?_) <;> first | exact rfl | exact fnz (cj rTI (cj @tz0 @lS)) | skip
    · rintro m e s' ⟨k, rfl, hk, h1, k14, k15, k16, ha, rfl⟩
      by_cases hk2 : k < l.length
      · have hd := hd_byte l h k hk2
        have hn := nameC_int (l.getD k 0)
        have ht := take_all nameC l 0 k hk2 ha
        have hf := all_not nameC l 0 k hk2
        generalize l.getD k 0 = c at *
        generalize e1 : decide ((97 : Int) ≤ (c : Int)) = b1 at *
        generalize e2 : decide ((c : Int) ≤ 122) = b2 at *
        generalize e3 : decide ((48 : Int) ≤ (c : Int)) = b3 at *
        generalize e4 : decide ((c : Int) ≤ 57) = b4 at *
        generalize e5 : ((c : Int) == 95) = b5 at *
        refine go (cj rTI (cj @tz0 (cj @h1 (cj @k15 @k16)))) ?_
        refine ifs ?_ ?_ <;> first | exact nope | intro hb
        refine aw_skip ?_
        refine aw_seq ?_
        refine aw_block ?_
        refine aw_seq ?_
        refine aw_reg fun K hK => ?_; refine rn (cj rTI (cj @tz0 (cj @h1 (cj @k14 (cj @k16 @hd))))) ?_; refine hK _ _ ?_; clear hK K
        refine aw_seq ?_
        refine aw_only (fun e' s'' => s'' = s' ∧ e'.n = 40 ∧ e'.m 14 = .sl l.length (byteAV (bs l)) ∧ e'.m 15 = .v (.int .i64 l.length) ∧ e'.m 16 = .v (.int .i64 (k : Nat)) ∧ e'.m 38 = .v (.bool !nameC c)) ?_ ?_
        · rw [hn]
          cases b1 <;> cases b2 <;> cases b3 <;> cases b4 <;> cases b5
          all_goals (refine aw_reg fun K hK => ?_; refine rn (cj rTI (cj @tz0 (cj @h1 (cj @e1 (cj @e2 (cj @e3 (cj @e4 @e5))))))) ?_; refine hK _ _ ?_; clear hK K)
          all_goals ((repeat' refine And.intro ?_ ?_) <;> first | exact rfl | exact fnz (cj @h1 (cj @k14 (cj @k15 @k16))) | skip)
        · clear h1 k14 k15 k16 e1 e2 e3 e4 e5 hd hn e
          rintro e s'' ⟨rfl, h1, k14, k15, k16, k38⟩
          cases hc : nameC c with
          | false =>
            rw [e0, hf hc]
            rw [hc] at k38
            refine aw_cond k38 (fun _ => ?_) (fun h => by cases h)
            exact go0 @h1
          | true =>
            rw [hc] at ht k38
            refine aw_cond k38 (fun h => by cases h) (fun _ => ?_)
            refine go (cj rTI (cj @tz0 (cj @h1 @k16))) ?_
            simp only [block_normal, loop_normal]
            refine ⟨l.length - (k + 1), by omega, k + 1, rfl, by omega, ?_, ?_, ?_, ?_, ht, trivial⟩
            all_goals ((first | refine rn (cj @h1 (cj @k14 (cj @k15 @k16))) ?_ | exact rn0 (cj @h1 (cj @k14 (cj @k15 @k16)))))
            all_goals rfl
      · obtain rfl : k = l.length := by omega
        rw [List.take_length] at ha
        rw [e0, ha]
        refine go (cj rTI (cj @tz0 (cj @h1 (cj @k15 @k16)))) ?_
        refine ifs ?_ ?_ <;> first | exact nope | intro hb
        exact go0 (cj rTI (cj @tz0 @h1))
  · have e0 : isName l = false := by unfold isName; rw [decide_eq_false h0]; rfl
    rw [e0]
    refine acall_of Tryz.func88 rfl rfl (by simp [Tryz.ntmps88]) ?_; rw [Tryz.ntmps88, Tryz.results88]
    by_cases h1 : 1 ≤ l.length
    · have d1 : decide ((l.length : Int) < 1) = false := by simp; omega
      have d2 : decide ((16 : Int) < (l.length : Int)) = true := by simp; omega
      refine go (cj rTI (cj @tz0 (cj @lS (cj @d1 @d2)))) ?_
      refine ifs ?_ ?_ <;> first | exact nope | intro hb
      exact go0 (cj rTI @tz0)
    · have d1 : decide ((l.length : Int) < 1) = true := by simp; omega
      refine go (cj rTI (cj @tz0 (cj @lS @d1))) ?_
      refine ifs ?_ ?_ <;> first | exact nope | intro hb
      exact go0 (cj rTI @tz0)
theorem cname_ax (l : Str) (h : By l) (hl : l.length ≤ 9223372036854775807) : PCall Tryz.prog 35 [SV l] (.v (.bool (isName l))) := by
  refine pcall_of fun s => ?_
  have p := name_ax l h hl
  unfold SV at p ⊢
  refine acall_of Tryz.func35 rfl rfl (by simp [Tryz.ntmps35]) ?_; rw [Tryz.ntmps35, Tryz.results35]
  refine go (cj rTI @tz0) ?_
  refine aw_reg fun K hK => ?_; refine rn (cj rTI @tz0) ?_; refine cont_pure p ?_; refine rn (cj rTI @tz0) ?_; refine hK _ _ ?_; clear hK K
  exact go0 (cj rTI @tz0)
theorem rname_ax (l : Str) (h : By l) (hl : l.length ≤ 9223372036854775807) : PCall Tryz.prog 36 [SV l] (.v (.bool (isName l))) := by
  refine pcall_of fun s => ?_
  have lS := bs_size l
  unfold SV
  refine acall_of Tryz.func36 rfl rfl (by simp [Tryz.ntmps36]) ?_; rw [Tryz.ntmps36, Tryz.results36]
  refine go (cj rTI @tz0) ?_
  refine aw_loop (fun m e s' => ∃ k, m = l.length - k ∧ k ≤ l.length ∧ e.n = 40 ∧ e.m 0 = .v (.string (bs l)) ∧ e.m 3 = .v (.int .i64 (k : Nat)) ∧ (l.take k).all nameC = true ∧ s' = s) l.length ?_ ?_
  · refine ⟨0, by omega, by omega, ?_⟩
    (repeat' refine And.intro ?_ ?_) <;> first | exact rfl | exact fnz (cj rTI (cj @tz0 @lS)) | skip
  · rintro m e s' ⟨k, rfl, hk, h1, k0, k3, ha, rfl⟩
    by_cases hk2 : k < l.length
    · have hd := bs_get l h k
      have hn := nameC_int (l.getD k 0)
      have ht := take_all nameC l 0 k hk2 ha
      have hf := all_not nameC l 0 k hk2
      generalize l.getD k 0 = c at *
      have e1 : decide ((c : Int) < 97) = !decide ((97 : Int) ≤ (c : Int)) := by rw [Bool.eq_iff_iff]; simp
      have e2 : decide ((122 : Int) < (c : Int)) = !decide ((c : Int) ≤ 122) := by rw [Bool.eq_iff_iff]; simp
      have e3 : decide ((c : Int) < 48) = !decide ((48 : Int) ≤ (c : Int)) := by rw [Bool.eq_iff_iff]; simp
      have e4 : decide ((57 : Int) < (c : Int)) = !decide ((c : Int) ≤ 57) := by rw [Bool.eq_iff_iff]; simp
      have e5 : ((c : Int) != 95) = !((c : Int) == 95) := rfl
      generalize decide ((97 : Int) ≤ (c : Int)) = b1 at *
      generalize decide ((c : Int) ≤ 122) = b2 at *
      generalize decide ((48 : Int) ≤ (c : Int)) = b3 at *
      generalize decide ((c : Int) ≤ 57) = b4 at *
      generalize ((c : Int) == 95) = b5 at *
      refine go (cj rTI (cj @tz0 (cj @h1 (cj @k0 (cj @k3 @lS))))) ?_
      refine ifs ?_ ?_ <;> first | exact nope | intro hb
      refine aw_skip ?_
      refine aw_seq ?_
      refine aw_block ?_
      refine aw_seq ?_
      refine aw_reg fun K hK => ?_; refine rn (cj rTI (cj @tz0 (cj @h1 (cj @k0 (cj @k3 (cj @hd @lS)))))) ?_; refine hK _ _ ?_; clear hK K
      refine aw_seq ?_
      refine aw_only (fun e' s'' => s'' = s' ∧ e'.n = 40 ∧ e'.m 0 = .v (.string (bs l)) ∧ e'.m 3 = .v (.int .i64 (k : Nat)) ∧ e'.m 31 = .v (.bool !nameC c)) ?_ ?_
      · rw [hn]
        cases b1 <;> cases b2 <;> cases b3 <;> cases b4 <;> cases b5
        all_goals (refine aw_reg fun K hK => ?_; refine rn (cj rTI (cj @tz0 (cj @h1 (cj @e1 (cj @e2 (cj @e3 (cj @e4 @e5))))))) ?_; refine hK _ _ ?_; clear hK K)
        all_goals ((repeat' refine And.intro ?_ ?_) <;> first | exact rfl | exact fnz (cj @h1 (cj @k0 @k3)) | skip)
      · clear h1 k0 k3 e1 e2 e3 e4 e5 hd hn e
        rintro e s'' ⟨rfl, h1, k0, k3, k31⟩
        cases hc : nameC c with
        | false =>
          have e0 : isName l = false := by unfold isName; rw [hf hc, Bool.and_false]
          rw [e0]
          rw [hc] at k31
          refine aw_cond k31 (fun _ => ?_) (fun h => by cases h)
          exact go0 @h1
        | true =>
          rw [hc] at ht k31
          refine aw_cond k31 (fun h => by cases h) (fun _ => ?_)
          refine go (cj rTI (cj @tz0 (cj @h1 @k3))) ?_
          simp only [block_normal, loop_normal]
          refine ⟨l.length - (k + 1), by omega, k + 1, rfl, by omega, ?_, ?_, ?_, ht, trivial⟩
          all_goals ((first | refine rn (cj @h1 (cj @k0 @k3)) ?_ | exact rn0 (cj @h1 (cj @k0 @k3))))
          all_goals rfl
    · obtain rfl : k = l.length := by omega
      rw [List.take_length] at ha
      have e0 : isName l = (decide ((1 : Int) ≤ (l.length : Int)) && decide ((l.length : Int) ≤ 16)) := by
        unfold isName
        rw [ha, Bool.and_true, Bool.eq_iff_iff]
        simp
        omega
      rw [e0]
      refine go (cj rTI (cj @tz0 (cj @h1 (cj @k0 (cj @k3 @lS))))) ?_
      refine ifs ?_ ?_ <;> first | exact nope | intro hb
      generalize e1 : decide ((1 : Int) ≤ (l.length : Int)) = b1 at *
      generalize e2 : decide ((l.length : Int) ≤ 16) = b2 at *
      cases b1
      · rw [Bool.false_and]
        exact go0 (cj rTI (cj @tz0 (cj @h1 (cj @k0 (cj @lS @e1)))))
      · rw [Bool.true_and]
        exact go0 (cj rTI (cj @tz0 (cj @h1 (cj @k0 (cj @lS (cj @e1 @e2))))))
end Go.Proofs.YtfjelkjlfcafgaaGreatDoor.CardA
end
section
/- Cards: devices, shapes, counts of words. -/
namespace Go.Proofs.YtfjelkjlfcafgaaGreatDoor.CardB
open Go Go.RowKit Go.Proofs.YtfjelkjlfcafgaaGreatDoor.Ax Go.Proofs.YtfjelkjlfcafgaaGreatDoor.Ti Go.Proofs.YtfjelkjlfcafgaaGreatDoor.NumS Go.Proofs.YtfjelkjlfcafgaaGreatDoor.NumT Go.Proofs.YtfjelkjlfcafgaaGreatDoor.CardS Go.Proofs.YtfjelkjlfcafgaaGreatDoor.CardA
set_option linter.unusedSimpArgs false
set_option linter.unusedVariables false
set_option maxRecDepth 4000
set_option maxHeartbeats 2000000
theorem rTI : type_of% (cj @ti3 (cj @ti4 (cj @ti9 (cj @ti5 (cj @ti36 (cj @Nat.zero_add (cj @tz0 (cj @tz1 (cj @tz3 (cj @Nat.mul_one @Int.toNat_natCast)))))))))) := cj @ti3 (cj @ti4 (cj @ti9 (cj @ti5 (cj @ti36 (cj @Nat.zero_add (cj @tz0 (cj @tz1 (cj @tz3 (cj @Nat.mul_one @Int.toNat_natCast)))))))))

theorem dev_index (c : Nat) (hc : c < 256) : decide (0 ≤ Lib.indexByte (bs kinds).data.toList (c : Int).toNat.toUInt8) = kinds.contains c := by
  have : ∀ c : Fin 256, decide (0 ≤ Lib.indexByte (bs kinds).data.toList (Nat.toUInt8 c.val)) = kinds.contains c.val := by decide +kernel
  exact this ⟨c, hc⟩
theorem indexK_ax (c : Nat) (hc : c < 256) : PCall Tryz.prog 89 [.v (.string (ByteArray.mk #[114, 99, 108, 118, 105, 101, 103, 102, 104, 116, 100, 115, 120])), .v (.int .u8 (c : Nat))] (.v (.int .i64 (Lib.indexByte (bs kinds).data.toList (c : Int).toNat.toUInt8))) :=
  pcall_lift (us := [.string (bs kinds), .int .u8 (c : Nat)]) (enters_of Tryz.func89 rfl rfl) (fun k => .v _) fun w => (Tryz.strings_IndexByte (bs kinds) (c : Nat) w).mono fun en w' ⟨h1, h2⟩ => ⟨h1, by rw [h2]; exact Below.refl _ _⟩
theorem name_pos (l : Str) (h : isName l = true) : 0 < l.length := by
  unfold isName at h
  rw [Bool.and_eq_true, decide_eq_true_iff] at h
  omega
theorem by_at (l : Str) (h : By l) (k : Nat) (hk : k < l.length) : l.getD k 0 < 256 := by
  rw [List.getD_eq_getElem?_getD, List.getElem?_eq_getElem hk]
  exact h _ (List.getElem_mem hk)
theorem dev_ax (l : Str) (h : By l) (hl : l.length ≤ 9223372036854775807) : PCall Tryz.prog 37 [SV l] (.v (.bool (isDev l))) := by
  refine pcall_of fun s => ?_
  have p := cname_ax l h hl
  have lS := bs_size l
  unfold SV at p ⊢
  unfold isDev
  refine acall_of Tryz.func37 rfl rfl (by simp [Tryz.ntmps37]) ?_; rw [Tryz.ntmps37, Tryz.results37]
  refine go rTI ?_
  cases hn : isName l with
  | false =>
    rw [hn] at p
    rw [Bool.false_and]
    refine aw_reg fun K hK => ?_; refine rn rTI ?_; refine cont_pure p ?_; refine rn rTI ?_; refine hK _ _ ?_; clear hK K
    exact go0 rTI
  | true =>
    rw [hn] at p
    have hp := name_pos l hn
    have hg := bs_get l h 0
    have hc := by_at l h 0 hp
    have hi := indexK_ax (l.getD 0 0) hc
    have hd := dev_index (l.getD 0 0) hc
    rw [Bool.true_and, ← hd]
    generalize l.getD 0 0 = c at *
    generalize Lib.indexByte (bs kinds).data.toList (c : Int).toNat.toUInt8 = z at *
    refine aw_reg fun K hK => ?_; refine rn (cj rTI (cj @lS @hg)) ?_; refine cont_pure p ?_; refine rn (cj rTI (cj @lS @hg)) ?_; refine cont_pure hi ?_; refine rn (cj rTI (cj @lS @hg)) ?_; refine hK _ _ ?_; clear hK K
    exact go0 rTI
theorem rdev_ax (l : Str) (h : By l) (hl : l.length ≤ 9223372036854775807) : PCall Tryz.prog 38 [SV l] (.v (.bool (isDev l))) := by
  refine pcall_of fun s => ?_
  have p := rname_ax l h hl
  have lS := bs_size l
  unfold SV at p ⊢
  cases hn : isName l with
  | false =>
    have e0 : isDev l = false := by unfold isDev; rw [hn]; rfl
    rw [hn] at p
    rw [e0]
    refine acall_of Tryz.func38 rfl rfl (by simp [Tryz.ntmps38]) ?_; rw [Tryz.ntmps38, Tryz.results38]
    refine go rTI ?_
    refine aw_reg fun K hK => ?_; refine rn rTI ?_; refine cont_pure p ?_; refine rn rTI ?_; refine hK _ _ ?_; clear hK K
    rw [then_normal]
    refine ifs ?_ ?_ <;> first | exact nope | intro hb
    exact go0 rTI
  | true =>
    have e0 : isDev l = kinds.contains (l.getD 0 0) := by unfold isDev; rw [hn]; rfl
    rw [hn] at p
    rw [e0]
    have hp := name_pos l hn
    have hg := bs_get l h 0
    have hc := by_at l h 0 hp
    generalize l.getD 0 0 = c at *
    have hK : (ByteArray.mk #[114, 99, 108, 118, 105, 101, 103, 102, 104, 116, 100, 115, 120]).size = 13 := rfl
    have hall : ∀ k, k < 13 → ((ByteArray.mk #[114, 99, 108, 118, 105, 101, 103, 102, 104, 116, 100, 115, 120]).data.toList.getD k 0).toNat = kinds.getD k 0 := by decide
    refine acall_of Tryz.func38 rfl rfl (by simp [Tryz.ntmps38]) ?_; rw [Tryz.ntmps38, Tryz.results38]
    refine go rTI ?_
    refine aw_reg fun K hK => ?_; refine rn rTI ?_; refine cont_pure p ?_; refine rn rTI ?_; refine hK _ _ ?_; clear hK K
    rw [then_normal]
    refine ifs ?_ ?_ <;> first | exact nope | intro hb
    refine go rTI ?_
    refine aw_loop (fun m e s' => ∃ k, m = 13 - k ∧ k ≤ 13 ∧ e.n = 20 ∧ e.m 0 = .v (.string (bs l)) ∧ e.m 3 = .v (.string (ByteArray.mk #[114, 99, 108, 118, 105, 101, 103, 102, 104, 116, 100, 115, 120])) ∧ e.m 4 = .v (.int .i64 (k : Nat)) ∧ (kinds.take k).contains c = false ∧ s' = s) 13 ?_ ?_
    · refine ⟨0, by omega, by omega, ?_⟩
      (repeat' refine And.intro ?_ ?_) <;> first | exact rfl | exact fnz rTI | skip
    · rintro m e s' ⟨k, rfl, hk, h1, k0, k3, k4, ha, rfl⟩
      by_cases hk2 : k < 13
      · have hk3 := hall k hk2
        have htk : (kinds.take (k + 1)) = kinds.take k ++ [kinds.getD k 0] := by
          rw [List.take_succ_eq_append_getElem (show k < kinds.length from hk2), List.getD_eq_getElem?_getD, List.getElem?_eq_getElem (show k < kinds.length from hk2)]
          rfl
        have hmem : c = kinds.getD k 0 → kinds.contains c = true := fun q => by
          rw [q, List.contains_iff_mem, List.getD_eq_getElem?_getD, List.getElem?_eq_getElem (show k < kinds.length from hk2)]
          exact List.getElem_mem _
        generalize kinds.getD k 0 = d at *
        have e1 : ((c : Int) == (d : Int)) = decide (c = d) := by rw [Bool.eq_iff_iff]; simp; omega
        by_cases q : c = d
        · rw [decide_eq_true q] at e1
          rw [hmem q]
          refine go (cj rTI (cj @h1 (cj @k3 (cj @k4 @hK)))) ?_
          refine ifs ?_ ?_ <;> first | exact nope | intro hb
          refine go trivial ?_
          refine aw_drw (.take 0 (.take 1 (.take 2 (.take 3 (.take 4 (.take 5 (.done))))))) [] (by kernel_rfl) (by kernel_rfl) fun K hK => ?_; refine dr (cj rTI (cj @h1 (cj @k0 (cj @k3 (cj @k4 (cj @hK (cj @hk3 (cj @hg (cj @lS @e1))))))))) ?_; refine hK _ _ ?_; clear hK K
          rw [then_normal]
          refine ifs ?_ ?_ <;> first | exact nope | intro hb
          exact go0 @h1
        · rw [decide_eq_false q] at e1
          refine go (cj rTI (cj @h1 (cj @k3 (cj @k4 @hK)))) ?_
          refine ifs ?_ ?_ <;> first | exact nope | intro hb
          refine go trivial ?_
          refine aw_drw (.take 0 (.take 1 (.take 2 (.take 3 (.take 4 (.take 5 (.done))))))) [] (by kernel_rfl) (by kernel_rfl) fun K hK => ?_; refine dr (cj rTI (cj @h1 (cj @k0 (cj @k3 (cj @k4 (cj @hK (cj @hk3 (cj @hg (cj @lS @e1))))))))) ?_; refine hK _ _ ?_; clear hK K
          rw [then_normal]
          refine ifs ?_ ?_ <;> first | exact nope | intro hb
          refine go (cj rTI (cj @h1 @k4)) ?_
          simp only [block_normal, loop_normal]
          refine ⟨13 - (k + 1), by omega, k + 1, rfl, by omega, ?_, ?_, ?_, ?_, ?_, trivial⟩
          · exact rn0 @h1
          · exact rn0 @k0
          · exact rn0 @k3
          · refine rn @k4 ?_
            rfl
          · rw [htk]
            simp [List.contains_eq_mem, q] at ha ⊢
            exact ha
      · obtain rfl : k = 13 := by omega
        rw [show kinds.take 13 = kinds from rfl] at ha
        rw [ha]
        refine go (cj rTI (cj @h1 (cj @k3 (cj @k4 @hK)))) ?_
        refine ifs ?_ ?_ <;> first | exact nope | intro hb
        exact go0 @h1
def shapeV (k : Nat) : AV := .tp [.v (.int .i64 (shapeK k).1), .v (.bool (shapeK k).2.1), .v (.bool (shapeK k).2.2)]
theorem shape_ax (k : Nat) : PCall Tryz.prog 81 [.v (.int .u8 (k : Nat))] (shapeV k) := by
  refine pcall_of fun s => ?_
  rw [show idf (shapeV k) = true from rfl]
  obtain ⟨sh, hsh⟩ : ∃ sh, sh = shapeV k := ⟨_, rfl⟩
  rw [← hsh]
  refine acall_of Tryz.func81 rfl rfl (by simp [Tryz.ntmps81]) ?_; rw [Tryz.ntmps81, Tryz.results81]
  refine go rTI ?_
  all_goals (try (refine ifs ?_ ?_ <;> first | exact nope | intro hb))
  all_goals (try (refine go rTI ?_))
  all_goals (try (refine ifs ?_ ?_ <;> first | exact nope | intro hb))
  all_goals (try (refine go rTI ?_))
  all_goals (try (refine ifs ?_ ?_ <;> first | exact nope | intro hb))
  all_goals (try (refine go rTI ?_))
  all_goals (try (refine ifs ?_ ?_ <;> first | exact nope | intro hb))
  all_goals (try (refine go rTI ?_))
  all_goals (try (refine ifs ?_ ?_ <;> first | exact nope | intro hb))
  all_goals (try (refine go rTI ?_))
  all_goals (try (refine ifs ?_ ?_ <;> first | exact nope | intro hb))
  all_goals (try (refine go rTI ?_))
  all_goals (try (refine ifs ?_ ?_ <;> first | exact nope | intro hb))
  all_goals (try (refine go rTI ?_))
  all_goals (try (refine ifs ?_ ?_ <;> first | exact nope | intro hb))
  all_goals (try (refine go rTI ?_))
  all_goals (try (refine ifs ?_ ?_ <;> first | exact nope | intro hb))
  all_goals (try (refine go rTI ?_))
  all_goals (try (refine ifs ?_ ?_ <;> first | exact nope | intro hb))
  all_goals (try (refine go rTI ?_))
  all_goals (try (refine ifs ?_ ?_ <;> first | exact nope | intro hb))
  all_goals (try (refine go rTI ?_))
  all_goals (try (refine ifs ?_ ?_ <;> first | exact nope | intro hb))
  all_goals (try (refine go rTI ?_))
  all_goals (rw [hsh]; unfold shapeV shapeK; (repeat' split) <;> first | (refine ⟨rfl, ?_⟩; exact fun _ _ => rfl) | rfl | (exfalso; omega) | trivial)
theorem bs_inj {a b : Str} (ha : By a) (hb : By b) (h : bs a = bs b) : a = b := by
  have hl : a.length = b.length := by rw [← bs_size a, ← bs_size b, h]
  apply List.ext_getElem hl
  intro i h1 h2
  have e1 := bs_get a ha i
  have e2 := bs_get b hb i
  rw [h, e2] at e1
  rw [List.getD_eq_getElem?_getD, List.getElem?_eq_getElem h2, List.getD_eq_getElem?_getD, List.getElem?_eq_getElem h1] at e1
  exact e1.symm
theorem str_eq (a b : Str) (ha : By a) (hb : By b) : ((bs a).toList == (bs b).toList) = decide (a = b) := by
  rw [Bool.eq_iff_iff, beq_iff_eq, decide_eq_true_iff]
  constructor
  · intro h
    rw [ByteArray.toList_eq, ByteArray.toList_eq] at h
    exact bs_inj ha hb (ByteArray.ext (Array.toList_inj.1 h))
  · intro h; rw [h]
theorem str_ne (a b : Str) (ha : By a) (hb : By b) : (!((bs a).toList == (bs b).toList)) = !decide (a = b) := by rw [str_eq a b ha hb]
theorem by_lit (l : Str) (h : l.all (fun c => decide (c < 256)) = true) : By l := fun c hc => of_decide_eq_true (List.all_eq_true.1 h c hc)
def BL (l : List Str) : Prop := ∀ s ∈ l, By s
theorem hd_SL (l : List Str) (k : Nat) (h : k < l.length) : ((SL l).drop k).head? = some (SV (l.getD k [])) := by
  rw [List.head?_drop]
  simp [SL, List.getElem?_eq_getElem h, List.getD]
end Go.Proofs.YtfjelkjlfcafgaaGreatDoor.CardB
end
section
/- Cards: wave words, counts. -/
namespace Go.Proofs.YtfjelkjlfcafgaaGreatDoor.CardC
open Go Go.RowKit Go.Proofs.YtfjelkjlfcafgaaGreatDoor.Ax Go.Proofs.YtfjelkjlfcafgaaGreatDoor.Ti Go.Proofs.YtfjelkjlfcafgaaGreatDoor.NumS Go.Proofs.YtfjelkjlfcafgaaGreatDoor.NumT Go.Proofs.YtfjelkjlfcafgaaGreatDoor.CardS Go.Proofs.YtfjelkjlfcafgaaGreatDoor.CardA Go.Proofs.YtfjelkjlfcafgaaGreatDoor.CardB
set_option linter.unusedSimpArgs false
set_option linter.unusedVariables false
set_option maxRecDepth 4000
set_option maxHeartbeats 2000000
theorem rTI : type_of% (cj @ti3 (cj @ti4 (cj @ti9 (cj @ti5 (cj @ti36 (cj @Nat.zero_add (cj @tz0 (cj @tz1 (cj @tz3 (cj @Nat.mul_one @Int.toNat_natCast)))))))))) := cj @ti3 (cj @ti4 (cj @ti9 (cj @ti5 (cj @ti36 (cj @Nat.zero_add (cj @tz0 (cj @tz1 (cj @tz3 (cj @Nat.mul_one @Int.toNat_natCast)))))))))

theorem if_dec {α : Type} (p : Prop) [Decidable p] (a b : α) : (if p then a else b) = if decide p = true then a else b := by
  by_cases h : p <;> simp [h]
theorem waveW_ax (w : List Str) (h : BL w) (hl : w.length ≤ 9223372036854775807) : PCall Tryz.prog 143 [TV w] (.v (.bool (waveWords w))) := by
  refine pcall_of fun s => ?_
  unfold TV
  cases w with
  | nil =>
    rw [show waveWords [] = false from rfl]
    refine acall_of Tryz.func143 rfl rfl (by simp [Tryz.ntmps143]) ?_; rw [Tryz.ntmps143, Tryz.results143]
    refine go rTI ?_
    refine ifs ?_ ?_ <;> first | exact nope | intro hb
    exact go0 rTI
  | cons kw r =>
    have hk : By kw := h kw (List.mem_cons_self ..)
    have e1 := str_eq kw sDc hk (by_lit _ rfl)
    have e2 := str_eq kw sPulse hk (by_lit _ rfl)
    have e3 := str_eq kw sPwl hk (by_lit _ rfl)
    have e4 := str_eq kw sTable hk (by_lit _ rfl)
    rw [show bs sDc = ByteArray.mk #[100, 99] from rfl] at e1
    rw [show bs sPulse = ByteArray.mk #[112, 117, 108, 115, 101] from rfl] at e2
    rw [show bs sPwl = ByteArray.mk #[112, 119, 108] from rfl] at e3
    rw [show bs sTable = ByteArray.mk #[116, 97, 98, 108, 101] from rfl] at e4
    rw [List.length_cons] at hl ⊢
    have hn : ((r.length + 1 : Nat) : Int) - 1 = (r.length : Int) := by omega
    have hz : (((r.length + 1 : Nat) : Int) == 0) = false := by simp; omega
    have hd : (SL (kw :: r)).head? = some (.v (.string (bs kw))) := rfl
    generalize hn2 : (r.length : Int) = n at *
    have goal : waveWords (kw :: r) = if kw = sDc then (n == 1) else if kw = sPulse then (n == 7) else if kw = sPwl then (decide (2 ≤ n) && (n % 2 == 0) && decide (n ≤ 32)) else if kw = sTable then (decide (1 ≤ n) && decide (n ≤ 16)) else (n == 0) := by
      show (if kw = sDc then decide (r.length = 1) else if kw = sPulse then decide (r.length = 7) else if kw = sPwl then decide (2 ≤ r.length ∧ r.length % 2 = 0 ∧ r.length ≤ 32) else if kw = sTable then decide (1 ≤ r.length ∧ r.length ≤ 16) else decide (r.length = 0)) = _
      have hm : (n % 2 == 0) = decide (r.length % 2 = 0) := by
        rw [← hn2, Bool.eq_iff_iff]
        simp only [beq_iff_eq, decide_eq_true_eq]
        omega
      rw [hm]
      have c1 : (n == 1) = decide (r.length = 1) := by rw [Bool.eq_iff_iff]; simp only [beq_iff_eq, decide_eq_true_eq]; omega
      have c2 : (n == 7) = decide (r.length = 7) := by rw [Bool.eq_iff_iff]; simp only [beq_iff_eq, decide_eq_true_eq]; omega
      have c3 : (n == 0) = decide (r.length = 0) := by rw [Bool.eq_iff_iff]; simp only [beq_iff_eq, decide_eq_true_eq]; omega
      have c4 : decide (2 ≤ n) = decide (2 ≤ r.length) := by rw [Bool.eq_iff_iff]; simp only [decide_eq_true_eq]; omega
      have c5 : decide (n ≤ 32) = decide (r.length ≤ 32) := by rw [Bool.eq_iff_iff]; simp only [decide_eq_true_eq]; omega
      have c6 : decide (1 ≤ n) = decide (1 ≤ r.length) := by rw [Bool.eq_iff_iff]; simp only [decide_eq_true_eq]; omega
      have c7 : decide (n ≤ 16) = decide (r.length ≤ 16) := by rw [Bool.eq_iff_iff]; simp only [decide_eq_true_eq]; omega
      rw [c1, c2, c3, c4, c5, c6, c7]
      simp only [Bool.decide_and, Bool.and_assoc]
    rw [goal]
    have hnb : 0 ≤ n ∧ n ≤ 9223372036854775806 := by omega
    clear goal hl h
    rw [if_dec (kw = sDc), if_dec (kw = sPulse), if_dec (kw = sPwl), if_dec (kw = sTable)]
    generalize g1 : decide (kw = sDc) = b1 at *
    generalize g2 : decide (kw = sPulse) = b2 at *
    generalize g3 : decide (kw = sPwl) = b3 at *
    generalize g4 : decide (kw = sTable) = b4 at *
    clear g1 g2 g3 g4
    generalize f1 : decide (2 ≤ n) = c1
    generalize f2 : (n % 2 == 0) = c2
    generalize f3 : decide (n ≤ 32) = c3
    generalize f4 : decide (1 ≤ n) = c4
    generalize f5 : decide (n ≤ 16) = c5
    generalize f6 : (n == 1) = c6
    generalize f7 : (n == 7) = c7
    generalize f8 : (n == 0) = c8
    refine acall_of Tryz.func143 rfl rfl (by simp [Tryz.ntmps143]) ?_; rw [Tryz.ntmps143, Tryz.results143]
    refine go (cj rTI @hz) ?_
    refine ifs ?_ ?_ <;> first | exact nope | intro hb
    refine go (cj rTI (cj @hn (cj @hd @e1))) ?_
    cases b1
    rotate_left
    · rw [if_pos rfl]
      refine ifs ?_ ?_ <;> first | exact nope | intro hb
      cases c6 <;> (simp only [decide_eq_true_eq, decide_eq_false_iff_not, beq_iff_eq, beq_eq_false_iff_ne, ne_eq] at f6; first | (exfalso; omega) | ((try simp only [Bool.false_and, Bool.and_false, Bool.true_and, Bool.and_true]); exact go0 rTI))
    rw [if_neg (by decide)]
    refine ifs ?_ ?_ <;> first | exact nope | intro hb
    refine go (cj rTI @e2) ?_
    cases b2
    rotate_left
    · rw [if_pos rfl]
      refine ifs ?_ ?_ <;> first | exact nope | intro hb
      cases c7 <;> (simp only [decide_eq_true_eq, decide_eq_false_iff_not, beq_iff_eq, beq_eq_false_iff_ne, ne_eq] at f7; first | (exfalso; omega) | ((try simp only [Bool.false_and, Bool.and_false, Bool.true_and, Bool.and_true]); exact go0 rTI))
    rw [if_neg (by decide)]
    refine ifs ?_ ?_ <;> first | exact nope | intro hb
    refine go (cj rTI @e3) ?_
    cases b3
    rotate_left
    · rw [if_pos rfl]
      refine ifs ?_ ?_ <;> first | exact nope | intro hb
      cases c1 <;> cases c2 <;> cases c3 <;> (simp only [decide_eq_true_eq, decide_eq_false_iff_not, beq_iff_eq, beq_eq_false_iff_ne, ne_eq] at f1 f2 f3; first | (exfalso; omega) | ((try simp only [Bool.false_and, Bool.and_false, Bool.true_and, Bool.and_true]); exact go0 rTI))
    rw [if_neg (by decide)]
    refine ifs ?_ ?_ <;> first | exact nope | intro hb
    refine go (cj rTI @e4) ?_
    cases b4
    rotate_left
    · rw [if_pos rfl]
      refine ifs ?_ ?_ <;> first | exact nope | intro hb
      cases c4 <;> cases c5 <;> (simp only [decide_eq_true_eq, decide_eq_false_iff_not, beq_iff_eq, beq_eq_false_iff_ne, ne_eq] at f4 f5; first | (exfalso; omega) | ((try simp only [Bool.false_and, Bool.and_false, Bool.true_and, Bool.and_true]); exact go0 rTI))
    rw [if_neg (by decide)]
    refine ifs ?_ ?_ <;> first | exact nope | intro hb
    cases c8 <;> (simp only [decide_eq_true_eq, decide_eq_false_iff_not, beq_iff_eq, beq_eq_false_iff_ne, ne_eq] at f8; first | (exfalso; omega) | ((try simp only [Bool.false_and, Bool.and_false, Bool.true_and, Bool.and_true]); exact go0 rTI))
theorem TV_drop (w : List Str) (k : Nat) : AV.sl (w.length - k) (((SL w).drop k).take (w.length - k)) = TV (w.drop k) := by
  unfold TV SL
  rw [List.map_drop, List.length_drop, List.take_of_length_le (by simp)]
theorem counted_ax (k : Nat) (w : List Str) (h : BL w) (hl : w.length ≤ 9223372036854775807) : PCall Tryz.prog 91 [.v (.int .u8 (k : Nat)), TV w] (.v (.bool (counted k w))) := by
  refine pcall_of fun s => ?_
  have hS := shape_ax k
  have hD := TV_drop w 3
  have hW := waveW_ax (w.drop 3) (fun x hx => h x (List.mem_of_mem_drop hx)) (by rw [List.length_drop]; omega)
  rw [← hD] at hW
  clear hD
  unfold counted want
  have hw1 : (shapeK k).1 ≤ 100 := by unfold shapeK; (repeat' split) <;> decide
  unfold shapeV at hS
  generalize shapeK k = sh at *
  obtain ⟨a, b, c⟩ := sh
  unfold TV
  generalize waveWords (w.drop 3) = ww at *
  generalize SL w = c0 at *
  clear h
  generalize w.length = n at *
  clear w
  simp only at hw1 hS ⊢
  have hn : (0 : Int) ≤ (n : Int) ∧ (n : Int) ≤ 9223372036854775807 := by omega
  have q2 : ((k : Int) == 118) = decide (k = 118) := by rw [Bool.eq_iff_iff]; simp only [beq_iff_eq, decide_eq_true_eq]; omega
  have q3 : ((k : Int) == 105) = decide (k = 105) := by rw [Bool.eq_iff_iff]; simp only [beq_iff_eq, decide_eq_true_eq]; omega
  by_cases q1 : k = 120
  · subst q1
    rw [if_pos rfl]
    rcases (by omega : (3 ≤ n ∧ n ≤ 10) ∨ n < 3 ∨ (3 ≤ n ∧ 10 < n)) with f1 | f1 | f1
    all_goals
      first
        | (have g : 3 ≤ n ∧ n ≤ 10 := by omega
           rw [decide_eq_true g])
        | (have g : ¬ (3 ≤ n ∧ n ≤ 10) := by omega
           rw [decide_eq_false g])
      refine acall_of Tryz.func91 rfl rfl (by simp [Tryz.ntmps91]) ?_; rw [Tryz.ntmps91, Tryz.results91]
      refine go rTI ?_
      refine ifs ?_ ?_ <;> first | exact nope | intro hb
      exact go0 rTI
  · rw [if_neg q1]
    have q1' : ¬ (k : Int) = 120 := by omega
    by_cases q4 : k = 118 ∨ k = 105
    · rw [if_pos q4]
      have e4 : decide (k = 118) = true ∨ decide (k = 118) = false ∧ decide (k = 105) = true := by
        rcases q4 with q | q
        · exact .inl (decide_eq_true q)
        · by_cases q5 : k = 118
          · exact .inl (decide_eq_true q5)
          · exact .inr ⟨decide_eq_false q5, decide_eq_true q⟩
      generalize decide (k = 118) = b2 at *
      generalize decide (k = 105) = b3 at *
      refine acall_of Tryz.func91 rfl rfl (by simp [Tryz.ntmps91]) ?_; rw [Tryz.ntmps91, Tryz.results91]
      refine go rTI ?_
      refine ifs ?_ ?_ <;> first | exact nope | intro hb
      refine go (cj rTI @q2) ?_
      rcases e4 with e4 | ⟨e4, e5⟩
      · subst e4
        refine ifs ?_ ?_ <;> first | exact nope | intro hb
        refine go rTI ?_
        refine ifs ?_ ?_ <;> first | exact nope | intro hb
        by_cases f1 : 4 ≤ n
        · rw [decide_eq_true f1, Bool.true_and]
          refine aw_seq ?_
          refine aw_reg fun K hK => ?_; refine rn rTI ?_; refine cont_pure hW ?_; refine rn rTI ?_; refine hK _ _ ?_; clear hK K
          exact go0 rTI
        · rw [decide_eq_false f1, Bool.false_and]
          exact go0 rTI
      · subst e4 e5
        refine ifs ?_ ?_ <;> first | exact nope | intro hb
        refine go (cj rTI @q3) ?_
        refine ifs ?_ ?_ <;> first | exact nope | intro hb
        by_cases f1 : 4 ≤ n
        · rw [decide_eq_true f1, Bool.true_and]
          refine aw_seq ?_
          refine aw_reg fun K hK => ?_; refine rn rTI ?_; refine cont_pure hW ?_; refine rn rTI ?_; refine hK _ _ ?_; clear hK K
          exact go0 rTI
        · rw [decide_eq_false f1, Bool.false_and]
          exact go0 rTI
    · rw [if_neg q4]
      rw [decide_eq_false (fun x => q4 (.inl x))] at q2
      rw [decide_eq_false (fun x => q4 (.inr x))] at q3
      have hc : decide (n = 1 + a + (if b then 1 else 0) + if c then 1 else 0) = ((n : Int) == 1 + (a : Int) + (if b then 1 else 0) + if c then 1 else 0) := by
        rw [Bool.eq_iff_iff]
        simp only [beq_iff_eq, decide_eq_true_eq]
        cases b <;> cases c <;> simp <;> omega
      rw [hc]
      clear hc q4
      have hw2 : (0 : Int) ≤ (a : Int) ∧ (a : Int) ≤ 100 := by omega
      generalize (a : Int) = a at *
      refine acall_of Tryz.func91 rfl rfl (by simp [Tryz.ntmps91]) ?_; rw [Tryz.ntmps91, Tryz.results91]
      refine go rTI ?_
      refine ifs ?_ ?_ <;> first | exact nope | intro hb
      refine go (cj rTI @q2) ?_
      refine ifs ?_ ?_ <;> first | exact nope | intro hb
      refine go (cj rTI @q3) ?_
      refine ifs ?_ ?_ <;> first | exact nope | intro hb
      refine go rTI ?_
      refine aw_reg fun K hK => ?_; refine rn rTI ?_; refine cont_pure hS ?_; refine rn rTI ?_; refine hK _ _ ?_; clear hK K
      cases b <;> cases c
      all_goals
        refine go rTI ?_
        refine ifs ?_ ?_ <;> first | exact nope | intro hb
        refine go rTI ?_
        refine ifs ?_ ?_ <;> first | exact nope | intro hb
        (first | refine go rTI ?_ | exact go0 rTI)
        try simp only [Bool.false_eq_true, if_false, if_true, Int.add_zero]
end Go.Proofs.YtfjelkjlfcafgaaGreatDoor.CardC
end
section
/- Cards and models, plain: what is written is read; what is read is right. -/
namespace Go.Proofs.YtfjelkjlfcafgaaGreatDoor.CardP
open Go.Proofs.YtfjelkjlfcafgaaGreatDoor.NumS Go.Proofs.YtfjelkjlfcafgaaGreatDoor.RefM Go.Proofs.YtfjelkjlfcafgaaGreatDoor.CardS Go.Proofs.YtfjelkjlfcafgaaGreatDoor.NumH
theorem text_read (n : Num) (h : valid n = true) : numV (textN n) = n ∧ ∀ e, numE (textN n) e = e := by
  have hp := parse_text n.1 n.2 ((ok_valid n.1 n.2).1 h)
  unfold textN numV numE
  rw [if_pos h, hp]
  refine ⟨rfl, fun e => ?_⟩
  split
  · rename_i h; rw [h]
  · rfl
theorem num_valid (w : Str) (h : numE w 0 = 0) : valid (numV w) = true := by
  unfold numE at h
  rw [if_pos rfl] at h
  rcases parse_right w with ⟨_, h2⟩ | h2 | h2
  · exact (ok_valid _ _).2 h2
  · rw [h2] at h; cases h
  · rw [h2] at h; cases h
theorem numE_le (w : Str) (e : Int) (h : numE w e = 0) : e = 0 := by
  unfold numE at h
  split at h
  · assumption
  · exact h
theorem stepE_le (w : Str) (e : Int) (h : stepE w e = 0) : e = 0 := by
  unfold stepE at h
  split at h
  · assumption
  · exact h
theorem dec_step (s : Int) (h0 : 0 ≤ s) (h1 : s ≤ 1000000000) : stepS (decS s) = some s := by
  obtain ⟨n, rfl⟩ := Int.eq_ofNat_of_zero_le h0
  have e : decS (n : Int) = decP n := by
    unfold decS decP
    by_cases hn : n = 0
    · subst hn; rfl
    · rw [if_neg (by omega), if_neg (by omega), if_neg hn]
      rfl
  obtain ⟨_, _, h2, _⟩ := decP_spec n (by omega)
  unfold stepS
  rw [e, h2, if_pos ⟨rfl, by omega⟩]
theorem step_le (w : Str) (s : Int) (h : stepS w = some s) : 0 ≤ s ∧ s ≤ 1000000000 ∧ decS s = w := by
  unfold stepS at h
  split at h
  · rename_i hh
    injection h with h
    subst h
    refine ⟨by omega, by omega, ?_⟩
    have e : decS (digV w : Int) = decP (digV w) := by
      unfold decS decP
      by_cases hn : digV w = 0
      · rw [hn]; rfl
      · rw [if_neg (by omega), if_neg (by omega), if_neg hn]
        rfl
    rw [e, hh.1]
  · cases h
theorem nums_text : ∀ (l : List Num) (e : Int), l.all valid = true → numsE (l.map textN) e = e ∧ (l.map textN).map numV = l
  | [], _, _ => ⟨rfl, rfl⟩
  | n :: r, e, h => by
    rw [List.all_cons, Bool.and_eq_true] at h
    obtain ⟨h1, h2⟩ := text_read n h.1
    obtain ⟨h3, h4⟩ := nums_text r e h.2
    refine ⟨?_, by rw [List.map_cons, List.map_cons, h1, h4]⟩
    show numsE (r.map textN) (numE (textN n) e) = e
    rw [h2, h3]
def okStep (s : Int) : Bool := decide (0 ≤ s ∧ s ≤ 1000000000)
theorem stepE_dec (s e : Int) (h : okStep s = true) : stepE (decS s) e = e ∧ stepV (decS s) = s := by
  unfold okStep at h
  rw [decide_eq_true_iff] at h
  unfold stepE stepV
  rw [dec_step s h.1 h.2]
  refine ⟨?_, rfl⟩
  split
  · rename_i h; rw [h]; rfl
  · rfl
theorem steps_text : ∀ (l : List Int) (e : Int), l.all okStep = true → stepsE (l.map decS) e = e ∧ (l.map decS).map stepV = l
  | [], e, h => ⟨rfl, rfl⟩
  | n :: r, e, h => by
    rw [List.all_cons, Bool.and_eq_true] at h
    obtain ⟨h1, h2⟩ := stepE_dec n e h.1
    obtain ⟨h3, h4⟩ := steps_text r e h.2
    refine ⟨?_, by rw [List.map_cons, List.map_cons, h2, h4]⟩
    show stepsE (r.map decS) (stepE (decS n) e) = e
    rw [h1, h3]
theorem zip_text : ∀ (ss : List Int) (vs : List Num) (e : Int), ss.length = vs.length → ss.all okStep = true → vs.all valid = true →
    pairsE (zipW ss vs) e = e ∧ (odds (zipW ss vs)).map numV = vs ∧ (evens (zipW ss vs)).map stepV = ss ∧ (zipW ss vs).length = 2 * ss.length
  | [], [], e, _, _, _ => ⟨rfl, rfl, rfl, rfl⟩
  | s :: ss, v :: vs, e, hl, hs, hv => by
    rw [List.all_cons, Bool.and_eq_true] at hs hv
    obtain ⟨h1, h2⟩ := stepE_dec s e hs.1
    obtain ⟨h3, h4⟩ := text_read v hv.1
    obtain ⟨q1, q2, q3, q4⟩ := zip_text ss vs e (by simpa using hl) hs.2 hv.2
    refine ⟨?_, ?_, ?_, ?_⟩
    · show pairsE (zipW ss vs) (numE (textN v) (stepE (decS s) e)) = e
      rw [h1, h4, q1]
    · show numV (textN v) :: (odds (zipW ss vs)).map numV = _
      rw [h3, q2]
    · show stepV (decS s) :: (evens (zipW ss vs)).map stepV = _
      rw [h2, q3]
    · show (zipW ss vs).length + 1 + 1 = _
      rw [q4, List.length_cons]
      omega
  | [], _ :: _, _, h, _, _ => by simp at h
  | _ :: _, [], _, h, _, _ => by simp at h
theorem wave_back (w : Wv) (h : waveOk w = true) (e : Int) : waveR (waveT w) e = (w, e) ∧ waveWords (waveT w) = true := by
  obtain ⟨k, vs, ss⟩ := w
  unfold waveOk at h
  simp only [Bool.and_eq_true] at h
  obtain ⟨⟨h1, h2⟩, h3⟩ := h
  have h2' : ss.all okStep = true := h2
  by_cases k1 : k = 1
  · subst k1
    simp only [if_true, decide_eq_true_eq] at h3
    obtain ⟨l1, l2⟩ := h3
    match vs, ss, l1, l2 with
    | [v], [], _, _ =>
      rw [List.all_cons, Bool.and_eq_true] at h1
      obtain ⟨q1, q2⟩ := text_read v h1.1
      have e1 : waveT ⟨1, [v], []⟩ = [sDc, textN v] := rfl
      rw [e1]
      refine ⟨?_, rfl⟩
      show ((⟨1, [numV (textN v)], []⟩ : Wv), numE (textN v) e) = _
      rw [q1, q2]
  · by_cases k2 : k = 2
    · subst k2
      simp only [show (2 : Int) = 1 ↔ False by decide, if_false, if_true, decide_eq_true_eq] at h3
      obtain ⟨l1, l2, _⟩ := h3
      match vs, l1 with
      | [a, b], _ =>
        obtain ⟨q1, q2⟩ := nums_text [a, b] e h1
        obtain ⟨q3, q4⟩ := steps_text ss e h2'
        have e1 : waveT ⟨2, [a, b], ss⟩ = sPulse :: ([textN a, textN b] ++ ss.map decS) := rfl
        rw [e1]
        refine ⟨?_, ?_⟩
        · show ((⟨2, ([textN a, textN b]).map numV, (ss.map decS).map stepV⟩ : Wv), stepsE (ss.map decS) (numsE ([a, b].map textN) e)) = _
          rw [q1, q3, q4, show ([textN a, textN b]).map numV = [a, b] from q2]
        · show decide (([textN a, textN b] ++ ss.map decS).length = 7) = true
          simp [l2]
    · by_cases k3 : k = 3
      · subst k3
        simp only [show (3 : Int) = 1 ↔ False by decide, show (3 : Int) = 2 ↔ False by decide, if_false, if_true, Bool.and_eq_true, decide_eq_true_eq] at h3
        obtain ⟨_, l1, l2, l3⟩ := h3
        obtain ⟨q1, q2, q3, q4⟩ := zip_text ss vs e l1.symm h2' h1
        have e1 : waveT ⟨3, vs, ss⟩ = sPwl :: zipW ss vs := rfl
        rw [e1]
        refine ⟨?_, ?_⟩
        · show ((⟨3, (odds (zipW ss vs)).map numV, (evens (zipW ss vs)).map stepV⟩ : Wv), pairsE (zipW ss vs) e) = _
          rw [q1, q2, q3]
        · show decide (2 ≤ (zipW ss vs).length ∧ (zipW ss vs).length % 2 = 0 ∧ (zipW ss vs).length ≤ 32) = true
          rw [q4, decide_eq_true_eq]
          omega
      · by_cases k4 : k = 4
        · subst k4
          simp only [show (4 : Int) = 1 ↔ False by decide, show (4 : Int) = 2 ↔ False by decide, show (4 : Int) = 3 ↔ False by decide, if_false, if_true, decide_eq_true_eq] at h3
          obtain ⟨l1, l2, l3⟩ := h3
          obtain rfl := List.eq_nil_of_length_eq_zero l3
          obtain ⟨q1, q2⟩ := nums_text vs e h1
          have e1 : waveT ⟨4, vs, []⟩ = sTable :: vs.map textN := by simp [waveT]
          rw [e1]
          refine ⟨?_, ?_⟩
          · show ((⟨4, (vs.map textN).map numV, []⟩ : Wv), numsE (vs.map textN) e) = _
            rw [q1, q2]
          · show decide (1 ≤ (vs.map textN).length ∧ (vs.map textN).length ≤ 16) = true
            simp [l1, l2]
        · rw [if_neg k1, if_neg k2, if_neg k3, if_neg k4] at h3
          cases h3
theorem shape_le (k : Nat) : (shapeK k).1 ≤ 4 := by
  unfold shapeK
  (repeat' split) <;> decide
theorem read_eq (w0 : Str) (ws : List Str) : readC (w0 :: ws) = readB w0 ws (w0.getD 0 0) (formOf (w0.getD 0 0) (ws.length + 1)) := rfl
theorem readB_ok (w0 : Str) (ws : List Str) (k : Nat) (f : Nat × Bool × Bool) (c : Crd) : readB w0 ws k f = (c, 0) ↔
    isDev w0 = true ∧ counted k (w0 :: ws) = true ∧ (ws.take f.1).all isName = true ∧ badRef k f ws = false ∧ errC k f ws = 0 ∧ ¬ ((valC f ws).1 = 0 ∧ zeroK k = true) ∧ (srcC k = true → waveOk (wvC k f ws) = true) ∧
    c = ⟨w0, ws.take f.1, refC f ws, valC f ws, wvC k f ws⟩ := by
  unfold readB
  constructor
  · intro h
    by_cases h1 : (isDev w0 && counted k (w0 :: ws)) = true
    · rw [if_pos h1] at h
      rw [Bool.and_eq_true] at h1
      by_cases h2 : (ws.take f.1).all isName = true
      · rw [if_pos h2] at h
        by_cases h3 : badRef k f ws = true
        · rw [if_pos h3] at h
          exact absurd (congrArg Prod.snd h) (show ¬ (71 : Int) = 0 by decide)
        · rw [if_neg h3] at h
          by_cases h4 : errC k f ws ≠ 0
          · rw [if_pos h4] at h
            exact absurd (congrArg Prod.snd h) h4
          · rw [if_neg h4] at h
            by_cases h5 : (valC f ws).1 = 0 ∧ zeroK k = true
            · rw [if_pos h5] at h
              exact absurd (congrArg Prod.snd h) (show ¬ (11 : Int) = 0 by decide)
            · rw [if_neg h5] at h
              by_cases h6 : srcC k = true ∧ waveOk (wvC k f ws) = false
              · rw [if_pos h6] at h
                exact absurd (congrArg Prod.snd h) (show ¬ (40 : Int) = 0 by decide)
              · rw [if_neg h6] at h
                exact ⟨h1.1, h1.2, h2, by simpa using h3, by simpa using h4, h5, fun q => by
                  cases hw : waveOk (wvC k f ws)
                  · exact absurd ⟨q, hw⟩ h6
                  · rfl, (congrArg Prod.fst h).symm⟩
      · rw [if_neg h2] at h
        exact absurd (congrArg Prod.snd h) (show ¬ (71 : Int) = 0 by decide)
    · rw [if_neg h1] at h
      exact absurd (congrArg Prod.snd h) (show ¬ (70 : Int) = 0 by decide)
  · rintro ⟨h1, h2, h3, h4, h5, h6, h7, rfl⟩
    rw [if_pos (by rw [h1, h2]; rfl), if_pos h3, if_neg (by rw [h4]; decide), if_neg (by simpa using h5), if_neg h6, if_neg fun q => by
      have := h7 q.1
      rw [q.2] at this
      cases this]
theorem src_not (k : Nat) (h : srcC k = true) : shapeK k = (2, false, false) ∧ k ≠ 120 ∧ zeroK k = false := by
  unfold srcC at h
  rw [decide_eq_true_iff] at h
  rcases h with rfl | rfl <;> refine ⟨rfl, by decide, rfl⟩
theorem x_form (n : Nat) : formOf 120 n = (n - 2, true, false) := rfl
theorem form_ne (k n : Nat) (h : k ≠ 120) : formOf k n = shapeK k := if_neg h
theorem read_right (w0 : Str) (ws : List Str) (c : Crd) (h : readC (w0 :: ws) = (c, 0)) : rightC c = true ∧ c.name = w0 := by
  rw [read_eq, readB_ok] at h
  obtain ⟨h1, h2, h3, h4, h5, h6, h7, rfl⟩ := h
  refine ⟨?_, rfl⟩
  unfold rightC
  rw [h1, Bool.true_and]
  simp only
  generalize hk : w0.getD 0 0 = k at *
  have hnl : (ws.take (formOf k (ws.length + 1)).1).length = (formOf k (ws.length + 1)).1 ∧ (k = 120 → 1 ≤ (formOf k (ws.length + 1)).1 ∧ (formOf k (ws.length + 1)).1 ≤ 8) := by
    rw [List.length_take]
    unfold counted at h2
    by_cases kx : k = 120
    · subst kx
      rw [if_pos rfl, decide_eq_true_iff, List.length_cons] at h2
      rw [x_form]
      simp only
      omega
    · rw [if_neg kx] at h2
      rw [form_ne _ _ kx]
      refine ⟨?_, fun q => absurd q kx⟩
      by_cases ks : k = 118 ∨ k = 105
      · rw [if_pos ks, Bool.and_eq_true, decide_eq_true_iff, List.length_cons] at h2
        rw [(src_not k (by unfold srcC; rw [decide_eq_true_iff]; exact ks)).1]
        have := h2.1
        simp only
        omega
      · rw [if_neg ks, decide_eq_true_iff, List.length_cons] at h2
        unfold want at h2
        omega
  have hf : (if k = 120 then ((ws.take (formOf k (ws.length + 1)).1).length, true, false) else shapeK k) = formOf k (ws.length + 1) := by
    by_cases kx : k = 120
    · rw [if_pos kx, hnl.1]
      subst kx
      rfl
    · rw [if_neg kx, form_ne _ _ kx]
  rw [hf]
  have hsf : srcC k = true → (formOf k (ws.length + 1)).2.1 = false ∧ (formOf k (ws.length + 1)).2.2 = false := fun q => by
    obtain ⟨q1, q2, _⟩ := src_not k q
    rw [form_ne _ _ q2, q1]
    exact ⟨rfl, rfl⟩
  have hfh : k = 102 ∨ k = 104 → (formOf k (ws.length + 1)).2.1 = true := fun q => by
    rcases q with rfl | rfl <;> rfl
  have hz : zeroK k = true → (formOf k (ws.length + 1)).2.2 = true := fun q => by
    unfold zeroK at q
    rw [decide_eq_true_iff] at q
    rcases q with rfl | rfl | rfl <;> rfl
  obtain ⟨hn1, hn2⟩ := hnl
  generalize formOf k (ws.length + 1) = f at *
  unfold rightF
  simp only [Bool.and_eq_true]
  refine ⟨⟨⟨⟨⟨⟨⟨?_, ?_⟩, ?_⟩, ?_⟩, h3⟩, ?_⟩, ?_⟩, ?_⟩
  · cases hzk : zeroK k
    · rfl
    · simp only [Bool.not_true, Bool.false_or, decide_eq_true_eq]
      exact fun q => h6 ⟨q, hzk⟩
  · by_cases q : k = 102 ∨ k = 104
    · have hr := hfh q
      unfold badRef at h4
      rw [hr, decide_eq_true q] at h4
      simp only [Bool.true_and, Bool.or_eq_false_iff, decide_eq_false_iff_not, Decidable.not_not] at h4
      rw [decide_eq_true q, decide_eq_true h4.2]
      rfl
    · rw [decide_eq_false q]
      rfl
  · by_cases q : k = 120
    · have := hn2 q
      rw [decide_eq_true q, decide_eq_true (by rw [hn1]; exact this)]
      rfl
    · rw [decide_eq_false q]
      rfl
  · rw [decide_eq_true_iff]; exact hn1
  · cases hr : f.2.1
    · simp only [Bool.false_eq_true, if_false, decide_eq_true_eq]
      unfold refC
      rw [hr]
      rfl
    · simp only [if_true]
      unfold badRef at h4
      rw [hr] at h4
      simp only [Bool.true_and, Bool.or_eq_false_iff, Bool.not_eq_false'] at h4
      exact h4.1
  · cases hv : f.2.2
    · simp only [Bool.false_eq_true, if_false, decide_eq_true_eq]
      unfold valC
      rw [hv]
      rfl
    · simp only [if_true]
      have hns : srcC k = false := by
        cases hs : srcC k
        · rfl
        · have := (hsf hs).2
          rw [hv] at this
          cases this
      unfold errC at h5
      rw [hns] at h5
      simp only [Bool.false_eq_true, if_false] at h5
      unfold errV at h5
      rw [hv] at h5
      unfold valC
      rw [hv]
      exact num_valid _ h5
  · cases hs : srcC k
    · simp only [Bool.false_eq_true, if_false, decide_eq_true_eq]
      unfold wvC
      rw [hs]
      exact ⟨rfl, rfl, rfl⟩
    · simp only [if_true]
      exact h7 hs
theorem words_f (c : Crd) (k : Nat) (hk : c.name.getD 0 0 = k) (f : Nat × Bool × Bool) (hf : f = if k = 120 then (c.nodes.length, true, false) else shapeK k) :
    wordsC c = c.name :: (c.nodes ++ ((if f.2.1 = true then [c.ref] else []) ++ ((if f.2.2 = true then [textN c.value] else []) ++ (if srcC k = true then waveT c.wave else [])))) := by
  unfold wordsC
  simp only [hk]
  by_cases kx : k = 120
  · subst kx
    rw [hf]
    simp [srcC]
  · rw [hf, if_neg kx]
    simp only [kx, or_false, ne_eq, not_false_eq_true, and_true, List.append_assoc, List.cons_append]
    unfold srcC
    simp only [decide_eq_true_eq]
theorem waveT_ne (w : Wv) (h : waveWords (waveT w) = true) : 1 ≤ (waveT w).length := by
  cases hw : waveT w with
  | nil => rw [hw] at h; cases h
  | cons a l => simp
theorem right_read (c : Crd) (h : rightC c = true) : readC (wordsC c) = (c, 0) := by
  unfold rightC at h
  rw [Bool.and_eq_true] at h
  obtain ⟨hd, h⟩ := h
  generalize hk : c.name.getD 0 0 = k at *
  generalize hf : (if k = 120 then (c.nodes.length, true, false) else shapeK k) = f at *
  have hw := words_f c k hk f hf.symm
  unfold rightF at h
  simp only [Bool.and_eq_true] at h
  obtain ⟨⟨⟨⟨⟨⟨⟨h1, h2⟩, h3⟩, h4⟩, h5⟩, h6⟩, h7⟩, h8⟩ := h
  rw [decide_eq_true_iff] at h4
  have hsrc : srcC k = true → f = (2, false, false) := fun q => by
    obtain ⟨q1, q2, _⟩ := src_not k q
    rw [← hf, if_neg q2, q1]
  have hwv : srcC k = true → waveOk c.wave = true := fun q => by rw [if_pos q] at h8; exact h8
  generalize hR : (if f.2.1 = true then [c.ref] else []) ++ ((if f.2.2 = true then [textN c.value] else []) ++ (if srcC k = true then waveT c.wave else [])) = R at hw
  have hlen : R.length = (if f.2.1 = true then 1 else 0) + (if f.2.2 = true then 1 else 0) + (if srcC k = true then (waveT c.wave).length else 0) := by
    rw [← hR, List.length_append, List.length_append]
    cases f.2.1 <;> cases f.2.2 <;> cases srcC k <;> simp <;> omega
  have hform : formOf k ((c.nodes ++ R).length + 1) = f := by
    by_cases kx : k = 120
    · have : f = (c.nodes.length, true, false) := by rw [← hf, if_pos kx]
      subst kx
      rw [x_form, this]
      rw [this] at hlen
      rw [List.length_append, hlen]
      simp [srcC]
    · rw [form_ne _ _ kx, ← hf, if_neg kx]
  rw [hw, read_eq, hk, hform, readB_ok]
  have htake : (c.nodes ++ R).take f.1 = c.nodes := by rw [← h4, List.take_left']; rfl
  have hdrop : (c.nodes ++ R).drop f.1 = R := by rw [← h4, List.drop_left']; rfl
  have href : refC f (c.nodes ++ R) = c.ref := by
    unfold refC
    rw [hdrop, ← hR]
    cases hr : f.2.1
    · rw [hr] at h6
      simp only [Bool.false_eq_true, if_false, decide_eq_true_eq] at h6
      rw [h6]
      rfl
    · simp
  have hrest : restC f (c.nodes ++ R) = (if f.2.2 = true then [textN c.value] else []) ++ (if srcC k = true then waveT c.wave else []) := by
    unfold restC
    rw [hdrop, ← hR]
    cases f.2.1 <;> simp
  have hval : valC f (c.nodes ++ R) = c.value ∧ errV f (c.nodes ++ R) = 0 := by
    unfold valC errV
    rw [hrest]
    cases hv : f.2.2
    · rw [hv] at h7
      simp only [Bool.false_eq_true, if_false, decide_eq_true_eq] at h7
      exact ⟨h7.symm, rfl⟩
    · rw [hv, if_pos rfl] at h7
      obtain ⟨q1, q2⟩ := text_read c.value h7
      simp [q1, q2]
  have hwave : wvC k f (c.nodes ++ R) = c.wave ∧ errC k f (c.nodes ++ R) = 0 := by
    unfold wvC errC
    rw [hval.2, hrest]
    cases hs : srcC k
    · rw [hs] at h8
      simp only [Bool.false_eq_true, if_false, decide_eq_true_eq] at h8
      obtain ⟨a1, a2, a3⟩ := h8
      refine ⟨?_, rfl⟩
      obtain ⟨n, ns, r, v, ⟨wk, wvs, ws⟩⟩ := c
      simp only at a1 a2 a3
      subst a1 a2 a3
      rfl
    · rw [hsrc hs]
      obtain ⟨q1, _⟩ := wave_back c.wave (hwv hs) 0
      simp [q1]
  refine ⟨hd, ?_, by rw [htake]; exact h5, ?_, hwave.2, ?_, fun q => by rw [hwave.1]; exact hwv q, ?_⟩
  · unfold counted
    by_cases kx : k = 120
    · subst kx
      have : f = (c.nodes.length, true, false) := by rw [← hf, if_pos rfl]
      rw [this] at hlen
      simp only [if_true, Bool.false_eq_true, if_false, srcC] at hlen
      rw [if_pos rfl, decide_eq_true_iff, List.length_cons, List.length_append]
      simp at h3 hlen
      omega
    · rw [if_neg kx]
      by_cases ks : k = 118 ∨ k = 105
      · have hs : srcC k = true := by unfold srcC; rw [decide_eq_true_iff]; exact ks
        obtain ⟨_, q2⟩ := wave_back c.wave (hwv hs) 0
        have hf2 := hsrc hs
        rw [hf2] at h4 hlen hR
        rw [hs] at hlen hR
        simp only [Bool.false_eq_true, if_false, if_true, List.nil_append] at hR hlen h4
        rw [if_pos ks]
        have e3 : (c.name :: (c.nodes ++ R)).drop 3 = waveT c.wave := by
          rw [List.drop_succ_cons, ← h4, List.drop_left', hR]
          rfl
        rw [e3, q2, Bool.and_true, decide_eq_true_iff, List.length_cons, List.length_append]
        have := waveT_ne _ q2
        omega
      · rw [if_neg ks, decide_eq_true_iff, List.length_cons, List.length_append, hlen]
        have hs : srcC k = false := by unfold srcC; rw [decide_eq_false_iff_not]; exact ks
        have hf2 : f = shapeK k := by rw [← hf, if_neg kx]
        rw [hs]
        unfold want
        rw [← hf2, h4]
        simp only [Bool.false_eq_true, if_false]
        omega
  · unfold badRef
    rw [href]
    cases hr : f.2.1
    · rfl
    · rw [hr, if_pos rfl] at h6
      rw [h6]
      cases hq : decide (k = 102 ∨ k = 104)
      · rfl
      · rw [hq] at h2
        simp only [Bool.not_true, Bool.false_or, decide_eq_true_eq] at h2
        rw [h2]
        rfl
  · rintro ⟨q1, q2⟩
    rw [hval.1] at q1
    rw [q2] at h1
    simp [q1] at h1
  · rw [htake, href, hval.1, hwave.1]
theorem nodes_le (c : Crd) (h : rightC c = true) : isDev c.name = true ∧ c.nodes.length ≤ 8 ∧ c.wave.vals.length ≤ 16 ∧ c.wave.steps.length ≤ 16 := by
  unfold rightC rightF at h
  simp only [Bool.and_eq_true] at h
  obtain ⟨hd, ⟨⟨⟨⟨⟨⟨h1, h2⟩, h3⟩, h4⟩, h5⟩, h6⟩, h7⟩, h8⟩ := h
  refine ⟨hd, ?_, ?_⟩
  · rw [decide_eq_true_iff] at h4
    by_cases kx : c.name.getD 0 0 = 120
    · rw [decide_eq_true kx] at h3
      simp only [Bool.not_true, Bool.false_or, decide_eq_true_eq] at h3
      exact h3.2
    · rw [if_neg kx] at h4
      have := shape_le (c.name.getD 0 0)
      omega
  · cases hs : srcC (c.name.getD 0 0)
    · rw [hs] at h8
      simp only [Bool.false_eq_true, if_false, decide_eq_true_eq] at h8
      rw [h8.2.1, h8.2.2]
      simp
    · rw [hs, if_pos rfl] at h8
      unfold waveOk at h8
      simp only [Bool.and_eq_true] at h8
      obtain ⟨_, h8⟩ := h8
      by_cases k1 : c.wave.kind = 1
      · rw [if_pos k1, decide_eq_true_iff] at h8
        omega
      · rw [if_neg k1] at h8
        by_cases k2 : c.wave.kind = 2
        · rw [if_pos k2, decide_eq_true_iff] at h8
          omega
        · rw [if_neg k2] at h8
          by_cases k3 : c.wave.kind = 3
          · rw [if_pos k3, Bool.and_eq_true, decide_eq_true_iff] at h8
            omega
          · rw [if_neg k3] at h8
            by_cases k4 : c.wave.kind = 4
            · rw [if_pos k4, decide_eq_true_iff] at h8
              omega
            · rw [if_neg k4] at h8
              cases h8
theorem write_right (c : Crd) : writeC c = if rightC c = true then (wordsC c, 0) else ([], 70) := by
  unfold writeC
  by_cases h : rightC c = true
  · rw [if_pos h, if_pos (nodes_le c h)]
    simp only [right_read c h]
    rw [if_pos ⟨trivial, trivial, trivial, trivial, by unfold sameW; simp⟩]
  · rw [if_neg h]
    split
    · simp only
      rw [if_neg]
      rintro ⟨a1, a2, a3, a4, a5⟩
      apply h
      obtain ⟨d, hd⟩ : ∃ d, readC (wordsC c) = (d, 0) := ⟨_, Prod.ext rfl a1⟩
      rw [hd] at a2 a3 a4 a5
      obtain ⟨ws, hw⟩ : ∃ ws, wordsC c = c.name :: ws := ⟨_, rfl⟩
      rw [hw] at hd
      obtain ⟨b1, b2⟩ := read_right c.name ws d hd
      have : d = c := by
        obtain ⟨dn, dns, dr, dv, ⟨dk, dvs, dss⟩⟩ := d
        obtain ⟨cn, cns, cr, cv, ⟨ck, cvs, css⟩⟩ := c
        unfold sameW at a5
        simp only [decide_eq_true_eq] at a5
        simp only at a2 a3 a4 b2
        obtain ⟨q1, q2, q3⟩ := a5
        subst a2 a3 a4 b2 q1 q2 q3
        rfl
      rw [← this]
      exact b1
    · rfl
end Go.Proofs.YtfjelkjlfcafgaaGreatDoor.CardP
end
section
/- Cards: what the library answers: Atoi, Itoa, Clone, Equal. -/
namespace Go.Proofs.YtfjelkjlfcafgaaGreatDoor.CardD
open Go Go.RowKit Go.Proofs.YtfjelkjlfcafgaaGreatDoor.Ax Go.Proofs.YtfjelkjlfcafgaaGreatDoor.Ti Go.Proofs.YtfjelkjlfcafgaaGreatDoor.NumS Go.Proofs.YtfjelkjlfcafgaaGreatDoor.NumT Go.Proofs.YtfjelkjlfcafgaaGreatDoor.CardS Go.Proofs.YtfjelkjlfcafgaaGreatDoor.CardP Go.Proofs.YtfjelkjlfcafgaaGreatDoor.CardA Go.Proofs.YtfjelkjlfcafgaaGreatDoor.CardB Go.Proofs.YtfjelkjlfcafgaaGreatDoor.CardC
set_option linter.unusedSimpArgs false
set_option linter.unusedVariables false
set_option maxRecDepth 4000
set_option maxHeartbeats 2000000
theorem rTI : type_of% (cj @ti3 (cj @ti4 (cj @ti9 (cj @ti5 (cj @ti36 (cj @Nat.zero_add (cj @tz0 (cj @tz1 (cj @tz3 (cj @Nat.mul_one @Int.toNat_natCast)))))))))) := cj @ti3 (cj @ti4 (cj @ti9 (cj @ti5 (cj @ti36 (cj @Nat.zero_add (cj @tz0 (cj @tz1 (cj @tz3 (cj @Nat.mul_one @Int.toNat_natCast)))))))))

theorem acall_any {f : FuncId} {us : List Value} {s : St} {R : AV → Prop} (hen : Enters Tryz.prog f)
    (h : ∀ w, Tabs w.cell? → TabSize w → Calls Tryz.prog f us.toArray w fun en w' => ∃ v r, en = .returned v ∧ Below w.heap.size w w' ∧ R r ∧ ∀ k, Rel k r v) : ACall Tryz.prog f (us.map .v) s fun r s' => R r ∧ s' = s := by
  refine ⟨hen, fun w0 k w vs hs hv => ?_⟩
  have : vs = us := by
    apply List.ext_getElem
    · simpa using hv.1
    · intro j h1 h2
      have := hv.2 j (.v us[j]) vs[j] (by simp [h2]) (by simp [h1])
      exact this.v_eq
  subst this
  refine (h w (k.tab.mono hs.fz) (hs.shp.tz hs.tz)).mono ?_
  rintro en w' ⟨v, r, rfl, hb, hR, hr⟩
  exact ⟨v, r, s, k, rfl, ⟨hR, rfl⟩, hs.below hb, hr k, KW.le_refl (by rw [hs.m]; exact Nat.le_refl _)⟩
theorem tup2 (a b : Value) (k : KW) : Rel k (.tp [.v a, .v b]) (.tuple #[a, b]) := .tp _ [_, _] rfl fun j z u hz hu => by
  match j with
  | 0 => simp at hz hu; subst hz hu; exact .v _
  | 1 => simp at hz hu; subst hz hu; exact .v _
  | j + 2 => simp at hz
theorem itoa_ax (z : Int) (h0 : -9223372036854775808 ≤ z) (h1 : z ≤ 9223372036854775807) : PCall Tryz.prog 64 [.v (.int .i64 z)] (SV (decS z)) := by
  refine pcall_lift_tab (us := [.int .i64 z]) (enters_of Tryz.func64 rfl rfl) (fun k => .v _) fun w ht hz => ?_
  refine (Tryz.strconv_Itoa z h0 h1 w (NumLaid.tabIs ht hz)).mono ?_
  rintro en w' ⟨rfl, k, os, rfl⟩
  rw [NumG.itoa_eq]
  exact ⟨rfl, ⟨rfl, rfl, rfl, by simp [Sort.grow, World.drewN], fun i hi => by simp [Sort.grow, World.drewN, Array.getElem?_append, hi]⟩⟩
def AtoiR (w : Str) (r : AV) : Prop := ∃ (z : Int) (e : Value), r = .tp [.v (.int .i64 z), .v e] ∧ -9223372036854775808 ≤ z ∧ z ≤ 9223372036854775807 ∧ ((e = .nilIface ∧ (∀ n, stepS w = some n → z = n)) ∨ ((∃ t p, e = .iface t p) ∧ stepS w = none))
theorem atoi_step (w : Str) (n : Int) (h : stepS w = some n) : (∀ c ∈ w, isD c = true) ∧ w ≠ [] ∧ w.length ≤ 18 ∧ digV w = n.toNat ∧ 0 ≤ n := by
  unfold stepS at h
  split at h
  · rename_i hc
    injection h with h
    obtain ⟨h1, h2, h3, h4⟩ := decP_spec (digV w) (by omega)
    rw [hc.1] at h1 h2 h4
    exact ⟨h1, h2, by omega, by omega, by omega⟩
  · cases h
theorem atoi_any (w : Str) (hl : w.length ≤ 281474976710656) (s : St) : ACall Tryz.prog 102 [SV w] s fun r s' => AtoiR w r ∧ s' = s := by
  cases hs : stepS w with
  | some n =>
    obtain ⟨h1, h2, h3, h4, h5⟩ := atoi_step w n hs
    refine ((NumL.atoi_ax w h1 h2 h3) s).mono ?_
    rintro r s' ⟨rfl, rfl⟩
    have hb : n ≤ 1000000000 := (step_le w n hs).2.1
    refine ⟨⟨(digV w : Nat), .nilIface, rfl, by omega, by omega, .inl ⟨rfl, fun m hm => ?_⟩⟩, rfl⟩
    rw [hs] at hm
    injection hm with hm
    omega
  | none =>
    refine acall_any (us := [.string (bs w)]) (enters_of Tryz.func102 rfl rfl) fun W ht hz => ?_
    have hsz : (bs w).size ≤ 281474976710656 := by rw [bs_size]; exact hl
    obtain ⟨_, ⟨t2, p2, c2⟩, ⟨t3, p3, c3⟩, _⟩ := ht
    rcases ha : Lib.atoiAll (bs w).data.toList with v | _ | _
    · have hb := Lib.atoiAll_bounds ha
      refine (Tryz.strconv_Atoi_ok (bs w) (by omega) v ha W).mono ?_
      rintro en w' ⟨rfl, q⟩
      refine ⟨_, _, rfl, ?_, ⟨v, .nilIface, rfl, hb.1, hb.2, .inl ⟨rfl, fun n hn => by rw [hs] at hn; cases hn⟩⟩, tup2 _ _⟩
      rcases q with rfl | ⟨t, rfl⟩
      · exact Below.refl _ _
      · exact Lib.bytesWorld_below _ _ _
    · refine (Tryz.strconv_Atoi_syntax (bs w) hsz ⟨fun q => (by rw [ha] at q; cases q), fun v q => (by rw [ha] at q; cases q)⟩ _ W c2 (.inr ⟨_, _, rfl⟩)).mono ?_
      rintro en w' ⟨N, rfl, _, _, hb⟩
      exact ⟨_, _, rfl, hb, ⟨0, _, rfl, by decide, by decide, .inr ⟨⟨_, _, rfl⟩, hs⟩⟩, tup2 _ _⟩
    · have hb := Lib.atoiSat_bounds (bs w).data.toList
      refine (Tryz.strconv_Atoi_range (bs w) hsz ha _ W c3 (.inr ⟨_, _, rfl⟩)).mono ?_
      rintro en w' ⟨N, rfl, _, _, hb'⟩
      exact ⟨_, _, rfl, hb', ⟨_, _, rfl, hb.1, hb.2, .inr ⟨⟨_, _, rfl⟩, hs⟩⟩, tup2 _ _⟩
end Go.Proofs.YtfjelkjlfcafgaaGreatDoor.CardD
end
section
/- Cards: slices.Equal at three types, slices.Clone. (Made by gen_carde.py.) -/
namespace Go.Proofs.YtfjelkjlfcafgaaGreatDoor.CardE
open Go Go.RowKit Go.Proofs.YtfjelkjlfcafgaaGreatDoor.Ax Go.Proofs.YtfjelkjlfcafgaaGreatDoor.Ti Go.Proofs.YtfjelkjlfcafgaaGreatDoor.NumS Go.Proofs.YtfjelkjlfcafgaaGreatDoor.NumT Go.Proofs.YtfjelkjlfcafgaaGreatDoor.CardS Go.Proofs.YtfjelkjlfcafgaaGreatDoor.CardP Go.Proofs.YtfjelkjlfcafgaaGreatDoor.CardA Go.Proofs.YtfjelkjlfcafgaaGreatDoor.CardB Go.Proofs.YtfjelkjlfcafgaaGreatDoor.CardC Go.Proofs.YtfjelkjlfcafgaaGreatDoor.CardD
set_option linter.unusedSimpArgs false
set_option linter.unusedVariables false
set_option maxRecDepth 4000
set_option maxHeartbeats 2000000
theorem rTI : type_of% (cj @ti3 (cj @ti4 (cj @ti9 (cj @ti5 (cj @ti36 (cj @ti63 (cj @ti62 (cj @ti24 (cj @Nat.zero_add (cj @tz0 (cj @tz1 (cj @tz3 (cj @Nat.mul_one @Int.toNat_natCast))))))))))))) := cj @ti3 (cj @ti4 (cj @ti9 (cj @ti5 (cj @ti36 (cj @ti63 (cj @ti62 (cj @ti24 (cj @Nat.zero_add (cj @tz0 (cj @tz1 (cj @tz3 (cj @Nat.mul_one @Int.toNat_natCast))))))))))))

def iv (z : Int) : AV := .v (.int .i64 z)
def IL (l : List Int) : List AV := l.map iv
def NC (l : List Num) : List AV := l.flatMap fun n => [iv n.1, iv n.2]
def IV (l : List Int) : AV := .sl l.length (IL l)
def NV (l : List Num) : AV := .sl l.length (NC l)
theorem nc_len (l : List Num) : (NC l).length = l.length * 2 := by
  induction l with
  | nil => rfl
  | cons a l ih => simp [NC, List.flatMap_cons] at ih ⊢; omega
theorem nc_at : ∀ (l : List Num) (k : Nat), k < l.length → ((NC l).drop (k * 2)).take 2 = [iv (l.getD k (0, 0)).1, iv (l.getD k (0, 0)).2]
  | [], k, h => absurd h (Nat.not_lt_zero _)
  | a :: l, 0, h => rfl
  | a :: l, k + 1, h => by
    have := nc_at l k (Nat.lt_of_succ_lt_succ h)
    rw [List.getD_cons_succ, ← this]
    show ((iv a.1 :: iv a.2 :: NC l).drop ((k + 1) * 2)).take 2 = _
    rw [show (k + 1) * 2 = k * 2 + 1 + 1 by omega]
    rfl
theorem hd_IL (l : List Int) (k : Nat) (h : k < l.length) : ((IL l).drop k).head? = some (iv (l.getD k 0)) := by
  rw [List.head?_drop]
  simp [IL, List.getElem?_eq_getElem h, List.getD]
theorem take_eq {α : Type} {a b : List α} {d : α} {k : Nat} (hl : a.length = b.length) (hk : k < a.length) (h : a.take k = b.take k) (e : a.getD k d = b.getD k d) : a.take (k + 1) = b.take (k + 1) := by
  rw [List.getD_eq_getElem?_getD, List.getD_eq_getElem?_getD, List.getElem?_eq_getElem hk, List.getElem?_eq_getElem (hl ▸ hk)] at e
  rw [List.take_succ_eq_append_getElem hk, List.take_succ_eq_append_getElem (hl ▸ hk), h]
  simp only [Option.getD_some] at e
  rw [e]
theorem bl_at (l : List Str) (h : BL l) (k : Nat) : By (l.getD k []) := by
  rw [List.getD_eq_getElem?_getD]
  cases q : l[k]? with
  | none => exact fun c hc => by cases hc
  | some x => exact h x (List.mem_of_getElem? q)
theorem ne_at {α : Type} {a b : List α} {d : α} {k : Nat} (e : a.getD k d ≠ b.getD k d) : a ≠ b := fun h => e (by rw [h])
theorem equalS_ax (a b : List Str) (ga : BL a) (gb : BL b) (ha : a.length ≤ 9223372036854775807) (hb' : b.length ≤ 9223372036854775807) : PCall Tryz.prog 84 [TV a, TV b] (.v (.bool (decide (a = b)))) := by
  refine pcall_of fun s => ?_
  unfold TV
  by_cases hl : a.length = b.length
  · refine acall_of Tryz.func84 rfl rfl (by simp [Tryz.ntmps84]) ?_; rw [Tryz.ntmps84, Tryz.results84]
    refine go (cj rTI @hl) ?_
    refine ifs ?_ ?_ <;> first | exact nope | intro hb
    refine go (cj rTI @hl) ?_
    refine aw_loop (fun m e s' => ∃ k, m = b.length - k ∧ k ≤ b.length ∧ e.n = 26 ∧ e.m 0 = .sl b.length (SL a) ∧ e.m 1 = .sl b.length (SL b) ∧ e.m 12 = .v (.int .i64 b.length) ∧ e.m 13 = .v (.int .i64 (k : Nat)) ∧ a.take k = b.take k ∧ s' = s) b.length ?_ ?_
    · refine ⟨0, by omega, by omega, ?_⟩
      (repeat' refine And.intro ?_ ?_) <;> first | exact rfl | exact fnz (cj rTI @hl) | skip
    · rintro m e s' ⟨k, rfl, hk, h1, k0, k1, k12, k13, ht, rfl⟩
      by_cases hk2 : k < b.length
      · have ha2 : k < a.length := by omega
        have f1 := hd_SL a k ha2
        have f2 := hd_SL b k hk2
        have f3 := str_ne (a.getD k []) (b.getD k []) (bl_at a ga k) (bl_at b gb k)
        unfold SV at f1 f2
        refine go (cj rTI (cj @h1 (cj @k12 @k13))) ?_
        refine ifs ?_ ?_ <;> first | exact nope | intro hb
        refine aw_skip ?_
        refine aw_seq ?_
        refine aw_block ?_
        refine aw_seq ?_
        refine aw_reg fun K hK => ?_; refine rn (cj rTI (cj @h1 @k13)) ?_; refine hK _ _ ?_; clear hK K
        refine aw_seq ?_
        refine aw_drw (.take 0 (.take 1 (.take 2 (.take 3 (.take 4 (.take 5 (.take 6 (.take 7 (.take 8 (.done)))))))))) [] (by kernel_rfl) (by kernel_rfl) fun K hK => ?_; refine dr (cj rTI (cj @h1 (cj @k0 (cj @k1 (cj @k13 (cj @f1 (cj @f2 @f3))))))) ?_; refine hK _ _ ?_; clear hK K
        by_cases q : a.getD k [] = b.getD k []
        · have ht2 := take_eq hl ha2 ht q
          rw [decide_eq_true q]
          refine ifs ?_ ?_ <;> first | exact nope | intro hb
          refine go (cj rTI (cj @h1 @k13)) ?_
          simp only [block_normal, loop_normal]
          refine ⟨b.length - (k + 1), by omega, k + 1, rfl, by omega, ?_, ?_, ?_, ?_, ?_, ht2, trivial⟩
          all_goals ((first | refine rn (cj @h1 (cj @k0 (cj @k1 (cj @k12 @k13)))) ?_ | exact rn0 (cj @h1 (cj @k0 (cj @k1 (cj @k12 @k13))))))
          all_goals rfl
        · rw [decide_eq_false (ne_at q)]
          rw [decide_eq_false q]
          refine ifs ?_ ?_ <;> first | exact nope | intro hb
          exact go0 (cj rTI @h1)
      · obtain rfl : k = b.length := by omega
        rw [List.take_length, ← hl, List.take_length] at ht
        rw [decide_eq_true ht]
        refine go (cj rTI (cj @h1 (cj @k12 @k13))) ?_
        refine ifs ?_ ?_ <;> first | exact nope | intro hb
        exact go0 (cj rTI @h1)
  · rw [decide_eq_false fun h => hl (by rw [h])]
    have hl2 : ¬ ((a.length : Int) = (b.length : Int)) := by omega
    refine acall_of Tryz.func84 rfl rfl (by simp [Tryz.ntmps84]) ?_; rw [Tryz.ntmps84, Tryz.results84]
    refine go rTI ?_
    refine ifs ?_ ?_ <;> first | exact nope | intro hb
    exact go0 rTI
theorem equalI_ax (a b : List Int) (ha : a.length ≤ 9223372036854775807) (hb' : b.length ≤ 9223372036854775807) : PCall Tryz.prog 140 [IV a, IV b] (.v (.bool (decide (a = b)))) := by
  refine pcall_of fun s => ?_
  unfold IV
  by_cases hl : a.length = b.length
  · refine acall_of Tryz.func140 rfl rfl (by simp [Tryz.ntmps140]) ?_; rw [Tryz.ntmps140, Tryz.results140]
    refine go (cj rTI @hl) ?_
    refine ifs ?_ ?_ <;> first | exact nope | intro hb
    refine go (cj rTI @hl) ?_
    refine aw_loop (fun m e s' => ∃ k, m = b.length - k ∧ k ≤ b.length ∧ e.n = 26 ∧ e.m 0 = .sl b.length (IL a) ∧ e.m 1 = .sl b.length (IL b) ∧ e.m 12 = .v (.int .i64 b.length) ∧ e.m 13 = .v (.int .i64 (k : Nat)) ∧ a.take k = b.take k ∧ s' = s) b.length ?_ ?_
    · refine ⟨0, by omega, by omega, ?_⟩
      (repeat' refine And.intro ?_ ?_) <;> first | exact rfl | exact fnz (cj rTI @hl) | skip
    · rintro m e s' ⟨k, rfl, hk, h1, k0, k1, k12, k13, ht, rfl⟩
      by_cases hk2 : k < b.length
      · have ha2 : k < a.length := by omega
        have f1 := hd_IL a k ha2
        have f2 := hd_IL b k hk2
        unfold iv at f1 f2
        refine go (cj rTI (cj @h1 (cj @k12 @k13))) ?_
        refine ifs ?_ ?_ <;> first | exact nope | intro hb
        refine aw_skip ?_
        refine aw_seq ?_
        refine aw_block ?_
        refine aw_seq ?_
        refine aw_reg fun K hK => ?_; refine rn (cj rTI (cj @h1 @k13)) ?_; refine hK _ _ ?_; clear hK K
        refine aw_seq ?_
        refine aw_drw (.take 0 (.take 1 (.take 2 (.take 3 (.take 4 (.take 5 (.take 6 (.take 7 (.take 8 (.done)))))))))) [] (by kernel_rfl) (by kernel_rfl) fun K hK => ?_; refine dr (cj rTI (cj @h1 (cj @k0 (cj @k1 (cj @k13 (cj @f1 @f2)))))) ?_; refine hK _ _ ?_; clear hK K
        by_cases q : a.getD k 0 = b.getD k 0
        · have ht2 := take_eq hl ha2 ht q
          
          refine ifs ?_ ?_ <;> first | exact nope | intro hb
          refine go (cj rTI (cj @h1 @k13)) ?_
          simp only [block_normal, loop_normal]
          refine ⟨b.length - (k + 1), by omega, k + 1, rfl, by omega, ?_, ?_, ?_, ?_, ?_, ht2, trivial⟩
          all_goals ((first | refine rn (cj @h1 (cj @k0 (cj @k1 (cj @k12 @k13)))) ?_ | exact rn0 (cj @h1 (cj @k0 (cj @k1 (cj @k12 @k13))))))
          all_goals rfl
        · rw [decide_eq_false (ne_at q)]
          
          refine ifs ?_ ?_ <;> first | exact nope | intro hb
          exact go0 (cj rTI @h1)
      · obtain rfl : k = b.length := by omega
        rw [List.take_length, ← hl, List.take_length] at ht
        rw [decide_eq_true ht]
        refine go (cj rTI (cj @h1 (cj @k12 @k13))) ?_
        refine ifs ?_ ?_ <;> first | exact nope | intro hb
        exact go0 (cj rTI @h1)
  · rw [decide_eq_false fun h => hl (by rw [h])]
    have hl2 : ¬ ((a.length : Int) = (b.length : Int)) := by omega
    refine acall_of Tryz.func140 rfl rfl (by simp [Tryz.ntmps140]) ?_; rw [Tryz.ntmps140, Tryz.results140]
    refine go rTI ?_
    refine ifs ?_ ?_ <;> first | exact nope | intro hb
    exact go0 rTI
theorem equalN_ax (a b : List Num) (ha : a.length ≤ 9223372036854775807) (hb' : b.length ≤ 9223372036854775807) : PCall Tryz.prog 139 [NV a, NV b] (.v (.bool (decide (a = b)))) := by
  refine pcall_of fun s => ?_
  unfold NV
  by_cases hl : a.length = b.length
  · refine acall_of Tryz.func139 rfl rfl (by simp [Tryz.ntmps139]) ?_; rw [Tryz.ntmps139, Tryz.results139]
    refine go (cj rTI @hl) ?_
    refine ifs ?_ ?_ <;> first | exact nope | intro hb
    refine go (cj rTI @hl) ?_
    refine aw_loop (fun m e s' => ∃ k, m = b.length - k ∧ k ≤ b.length ∧ e.n = 26 ∧ e.m 0 = .sl b.length (NC a) ∧ e.m 1 = .sl b.length (NC b) ∧ e.m 12 = .v (.int .i64 b.length) ∧ e.m 13 = .v (.int .i64 (k : Nat)) ∧ a.take k = b.take k ∧ s' = s) b.length ?_ ?_
    · refine ⟨0, by omega, by omega, ?_⟩
      (repeat' refine And.intro ?_ ?_) <;> first | exact rfl | exact fnz (cj rTI @hl) | skip
    · rintro m e s' ⟨k, rfl, hk, h1, k0, k1, k12, k13, ht, rfl⟩
      by_cases hk2 : k < b.length
      · have ha2 : k < a.length := by omega
        have f1 := nc_at a k ha2
        have f2 := nc_at b k hk2
        have f3 : 2 ≤ ((NC a).drop (k * 2)).length := by rw [List.length_drop, nc_len]; omega
        have f4 : 2 ≤ ((NC b).drop (k * 2)).length := by rw [List.length_drop, nc_len]; omega
        unfold iv at f1 f2
        have f5 : eqOk Tryz.prog 24 = true := by kernel_rfl
        have f6 : ((a.getD k (0, 0)).1 == (b.getD k (0, 0)).1 && (a.getD k (0, 0)).2 == (b.getD k (0, 0)).2) = decide (a.getD k (0, 0) = b.getD k (0, 0)) := by rw [Bool.eq_iff_iff, decide_eq_true_eq, Prod.ext_iff]; simp
        refine go (cj rTI (cj @h1 (cj @k12 @k13))) ?_
        refine ifs ?_ ?_ <;> first | exact nope | intro hb
        refine aw_skip ?_
        refine aw_seq ?_
        refine aw_block ?_
        refine aw_seq ?_
        refine aw_reg fun K hK => ?_; refine rn (cj rTI (cj @h1 @k13)) ?_; refine hK _ _ ?_; clear hK K
        refine aw_seq ?_
        refine aw_drw (.take 0 (.take 1 (.take 2 (.take 3 (.take 4 (.take 5 (.take 6 (.take 7 (.take 8 (.done)))))))))) [] (by kernel_rfl) (by kernel_rfl) fun K hK => ?_; refine dr (cj rTI (cj @h1 (cj @k0 (cj @k1 (cj @k13 (cj @f1 (cj @f2 (cj @f3 (cj @f4 (cj @f5 @f6)))))))))) ?_; refine hK _ _ ?_; clear hK K
        by_cases q : a.getD k (0, 0) = b.getD k (0, 0)
        · have ht2 := take_eq hl ha2 ht q
          rw [decide_eq_true q]
          refine ifs ?_ ?_ <;> first | exact nope | intro hb
          refine go (cj rTI (cj @h1 @k13)) ?_
          simp only [block_normal, loop_normal]
          refine ⟨b.length - (k + 1), by omega, k + 1, rfl, by omega, ?_, ?_, ?_, ?_, ?_, ht2, trivial⟩
          all_goals ((first | refine rn (cj @h1 (cj @k0 (cj @k1 (cj @k12 @k13)))) ?_ | exact rn0 (cj @h1 (cj @k0 (cj @k1 (cj @k12 @k13))))))
          all_goals rfl
        · rw [decide_eq_false (ne_at q)]
          rw [decide_eq_false q]
          refine ifs ?_ ?_ <;> first | exact nope | intro hb
          exact go0 (cj rTI @h1)
      · obtain rfl : k = b.length := by omega
        rw [List.take_length, ← hl, List.take_length] at ht
        rw [decide_eq_true ht]
        refine go (cj rTI (cj @h1 (cj @k12 @k13))) ?_
        refine ifs ?_ ?_ <;> first | exact nope | intro hb
        exact go0 (cj rTI @h1)
  · rw [decide_eq_false fun h => hl (by rw [h])]
    have hl2 : ¬ ((a.length : Int) = (b.length : Int)) := by omega
    refine acall_of Tryz.func139 rfl rfl (by simp [Tryz.ntmps139]) ?_; rw [Tryz.ntmps139, Tryz.results139]
    refine go rTI ?_
    refine ifs ?_ ?_ <;> first | exact nope | intro hb
    exact go0 rTI
theorem pcall_nil {f : FuncId} {r : AV} (h : ∀ (a : Option Addr) (cap : Nat), PCall Tryz.prog f [.v (.slice a 0 cap)] r) : PCall Tryz.prog f [.sl 0 []] r := fun s =>
  ⟨(h none 0 s).1, fun w0 k w vs hs hv => by
    match vs, hv with
    | [u], hv =>
      have hr := hv.2 0 _ u rfl rfl
      cases hr with
      | sl _ cap _ a us hn h1 h2 => exact (h (some a) cap s).2 w0 k w _ hs ⟨rfl, fun j z u hz hu => by
          match j with
          | 0 => simp at hz hu; subst hz hu; exact .v _
          | j + 1 => simp at hz⟩
      | sl0 a cap => exact (h a cap s).2 w0 k w _ hs ⟨rfl, fun j z u hz hu => by
          match j with
          | 0 => simp at hz hu; subst hz hu; exact .v _
          | j + 1 => simp at hz⟩
    | [], hv => simp [RelL] at hv
    | _ :: _ :: _, hv => simp [RelL] at hv⟩
theorem sl_len (l : List Str) : (SL l).length = l.length := by simp [SL]
theorem sl_take (l : List Str) : (SL l).take (l.length * 1) = SL l := by rw [Nat.mul_one, ← sl_len, List.take_length]
theorem sl_one (l : List Str) : (SL l).all AV.one = true := by
  rw [List.all_eq_true]
  intro z hz
  obtain ⟨x, _, rfl⟩ := List.mem_map.1 hz
  rfl
theorem sl_idf (l : List Str) : idf.idfL (SL l) = true := (idfL_iff _).2 fun z hz => by
  obtain ⟨x, _, rfl⟩ := List.mem_map.1 hz
  rfl
theorem tv_idf (l : List Str) : idf (TV l) = true := sl_idf l
theorem clone_ax (l : List Str) (hl : l.length ≤ 100000) : PCall Tryz.prog 92 [TV l] (TV l) := by
  cases l with
  | nil =>
    refine pcall_nil fun a cap => ?_
    cases a with
    | none =>
      refine pcall_le fun s => ?_
      refine acall_of Tryz.func92 rfl rfl (by simp [Tryz.ntmps92]) ?_; rw [Tryz.ntmps92, Tryz.results92]
      refine go rTI ?_
      refine ifs ?_ ?_ <;> first | exact nope | intro hb
      refine go rTI ?_
      exact ⟨Le.nil 0 0 rfl, rfl⟩
    | some a =>
      refine pcall_own rfl fun s => ?_
      refine acall_of Tryz.func92 rfl rfl (by simp [Tryz.ntmps92]) ?_; rw [Tryz.ntmps92, Tryz.results92]
      refine go rTI ?_
      refine ifs ?_ ?_ <;> first | exact nope | intro hb
      refine go rTI ?_
      exact ⟨s.nx + 1, _, by omega, if_pos rfl, by simp [frz, TV, SL], fun j hj => by rw [if_neg (by omega), if_neg (by omega)]⟩
  | cons x r =>
    generalize hy : x :: r = y at *
    have h0 : 0 < y.length := by rw [← hy]; exact Nat.succ_pos _
    clear hy
    have e1 := sl_len y
    have e2 := sl_take y
    have e3 := sl_one y
    unfold TV
    refine pcall_own (sl_idf y) fun s => ?_
    refine acall_of Tryz.func92 rfl rfl (by simp [Tryz.ntmps92]) ?_; rw [Tryz.ntmps92, Tryz.results92]
    refine go rTI ?_
    refine ifs ?_ ?_ <;> first | exact nope | intro hb
    refine go (cj rTI (cj @e1 (cj @e2 @e3))) ?_
    exact ⟨s.nx + 1, _, by omega, if_pos rfl, by rw [frz_own, List.nil_append, List.drop_zero, e2], fun j hj => by rw [if_neg (by omega), if_neg (by omega)]⟩
end Go.Proofs.YtfjelkjlfcafgaaGreatDoor.CardE
end
section
/- Cards: the reader: next, num, step. -/
namespace Go.Proofs.YtfjelkjlfcafgaaGreatDoor.CardF
open Go Go.RowKit Go.Proofs.YtfjelkjlfcafgaaGreatDoor.Ax Go.Proofs.YtfjelkjlfcafgaaGreatDoor.Ti Go.Proofs.YtfjelkjlfcafgaaGreatDoor.NumS Go.Proofs.YtfjelkjlfcafgaaGreatDoor.NumT Go.Proofs.YtfjelkjlfcafgaaGreatDoor.CardS Go.Proofs.YtfjelkjlfcafgaaGreatDoor.CardP Go.Proofs.YtfjelkjlfcafgaaGreatDoor.CardA Go.Proofs.YtfjelkjlfcafgaaGreatDoor.CardB Go.Proofs.YtfjelkjlfcafgaaGreatDoor.CardC Go.Proofs.YtfjelkjlfcafgaaGreatDoor.CardD Go.Proofs.YtfjelkjlfcafgaaGreatDoor.CardE
open Go.Proofs.YtfjelkjlfcafgaaGreatDoor.NumA (NM)
open Go.Proofs.YtfjelkjlfcafgaaGreatDoor.NumW (parseV)
set_option linter.unusedSimpArgs false
set_option linter.unusedVariables false
set_option maxRecDepth 4000
set_option maxHeartbeats 2000000
theorem rTI : type_of% (cj @ti3 (cj @ti4 (cj @ti9 (cj @ti5 (cj @ti36 (cj @ti63 (cj @ti62 (cj @ti24 (cj @ti25 (cj @ti144 (cj @ti101 (cj @ti146 (cj @Nat.zero_add (cj @tz0 (cj @tz1 (cj @tz3 (cj @Nat.mul_one @Int.toNat_natCast))))))))))))))))) := cj @ti3 (cj @ti4 (cj @ti9 (cj @ti5 (cj @ti36 (cj @ti63 (cj @ti62 (cj @ti24 (cj @ti25 (cj @ti144 (cj @ti101 (cj @ti146 (cj @Nat.zero_add (cj @tz0 (cj @tz1 (cj @tz3 (cj @Nat.mul_one @Int.toNat_natCast))))))))))))))))
variable {P : Program}
theorem acall_upd {f : FuncId} {zs : List AV} {s : St} {R : AV → Prop} (id : Nat) (c : List AV) (hid : id < s.nx) (hc : idf.idfL c = true)
    (h : ACall P f zs s fun r s' => R r ∧ idf r = true ∧ s'.get id = some c ∧ ∀ i, i < s.nx → i ≠ id → s'.get i = s.get i) : ACall P f zs s fun r s' => R r ∧ s' = s.set id c := by
  refine ⟨h.1, fun w0 k w vs hs hv => (h.2 w0 k w vs hs hv).mono ?_⟩
  rintro en w' ⟨v, r, s', k', rfl, ⟨hR, hf, hgi, hg⟩, hs', hr, hk⟩
  refine ⟨v, r, s.set id c, ⟨k'.φ, s.nx, k'.S, k'.tab⟩, rfl, ⟨hR, rfl⟩, ⟨rfl, hs'.fz, ?_, ?_, ?_, hs'.shp, hs.tz⟩, rel_free hr (fun _ _ h => h) hf, ⟨Nat.le_refl _, hk.2.1, hk.2.2⟩⟩
  · intro i d hi
    by_cases e : i = id
    · subst e; exact hid
    · rw [St.set_ne _ _ _ _ e] at hi
      exact hs.lt i d hi
  · intro i d hi
    by_cases e : i = id
    · subst e
      rw [St.set_same] at hi
      injection hi with hi
      subst hi
      obtain ⟨h1, h2⟩ := hs'.box i c hgi
      refine ⟨h1, fun j hj => ?_⟩
      obtain ⟨u, q1, q2, q3, q4⟩ := h2 j hj
      exact ⟨u, q1, q2, q3, fun z hz => rel_free (q4 z hz) (fun _ _ h => h) ((idfL_iff c).1 hc z (List.mem_of_getElem? hz))⟩
    · rw [St.set_ne _ _ _ _ e] at hi
      have hlt := hs.lt i d hi
      obtain ⟨h1, h2⟩ := hs'.box i d ((hg i hlt e).trans hi)
      obtain ⟨o1, o2⟩ := hs.box i d hi
      refine ⟨h1, fun j hj => ?_⟩
      obtain ⟨u, q1, q2, q3, q4⟩ := h2 j hj
      refine ⟨u, q1, q2, q3, fun z hz => ?_⟩
      obtain ⟨u0, _, _, _, p4⟩ := o2 j (by
        have := (List.getElem?_eq_some_iff.1 hz).1
        omega)
      have := rel_cut (p4 z hz) (q4 z hz)
      rwa [hs.m] at this
  · intro i j d d' hi hj
    have key : ∀ i d, (s.set id c).get i = some d → ∃ d', s'.get i = some d' := fun i d hi => by
      by_cases e : i = id
      · subst e; exact ⟨c, hgi⟩
      · rw [St.set_ne _ _ _ _ e] at hi
        exact ⟨d, (hg i (hs.lt i d hi) e).trans hi⟩
    obtain ⟨d1, h1⟩ := key i d hi
    obtain ⟨d2, h2⟩ := key j d' hj
    exact hs'.sep i j d1 d2 h1 h2
def rdr (ws : List Str) (e : Int) : List AV := [TV ws, iv e]
theorem rdr_idf (ws : List Str) (e : Int) : idf.idfL (rdr ws e) = true := by
  show (idf (TV ws) && true) = true
  rw [tv_idf]
  rfl
theorem next_ax (s : St) (id : Nat) (w : Str) (r : List Str) (e : Int) (hi : s.get id = some (rdr (w :: r) e)) (hid : id < s.nx) (hl : r.length < 9223372036854775807) :
    ACall Tryz.prog 93 [.ptr id 0] s fun x s' => x = SV w ∧ s' = s.set id (rdr r e) := by
  refine acall_upd id _ hid (rdr_idf _ _) ?_
  have hD := TV_drop (w :: r) 1
  rw [List.drop_succ_cons, List.drop_zero] at hD
  have hn : ((w :: r).length : Int) = (r.length : Int) + 1 := rfl
  have hl2 : (w :: r).length = r.length + 1 := rfl
  have hd : (SL (w :: r)).head? = some (.v (.string (bs w))) := rfl
  rw [show (List.drop 1 (SL (w :: r))) = SL r from rfl] at hD
  unfold rdr TV iv at hi
  unfold rdr iv SV
  refine acall_of Tryz.func93 rfl rfl (by simp [Tryz.ntmps93]) ?_; rw [Tryz.ntmps93, Tryz.results93]
  refine go (cj rTI (cj @hi (cj @hd (cj @hn @hl2)))) ?_
  exact ⟨by rw [← hD]; rfl, fun i _ h => if_neg h⟩
theorem decS_by (z : Int) : By (decS z) := by
  intro c hc
  unfold decS at hc
  split at hc
  · simp at hc; omega
  · rcases List.mem_append.1 hc with hc | hc
    · split at hc
      · simp at hc; omega
      · cases hc
    · have := (isD_iff c).1 (decN_isD _ c hc)
      omega
theorem num_ax (s : St) (id : Nat) (w : Str) (r : List Str) (e : Int) (hw : By w) (hi : s.get id = some (rdr (w :: r) e)) (hid : id < s.nx) (hl : r.length < 9223372036854775807) :
    ACall Tryz.prog 94 [.ptr id 0] s fun x s' => x = NM (numV w).1 (numV w).2 ∧ s' = s.set id (rdr r (numE w e)) := by
  refine acall_upd id _ hid (rdr_idf _ _) ?_
  have hp := NumE.parse_any w hw
  unfold numV numE
  unfold parseV at hp
  generalize parseS w = p at *
  obtain ⟨m, x, e2⟩ := p
  simp only at hp ⊢
  have hnx : ∀ zc, ACall Tryz.prog 93 [.ptr id 0] (s.push zc) fun x s' => x = SV w ∧ s' = (s.push zc).set id (rdr r e) := fun zc => next_ax _ id w r e (by rw [St.push_ne _ _ _ (by omega)]; exact hi) (by rw [St.nx_push]; omega) hl
  have hid2 : id ≠ s.nx := by omega
  have hid3 : id ≠ s.nx + 1 := by omega
  unfold NM at hp ⊢
  unfold rdr iv at hnx ⊢
  clear hi
  by_cases he : e = 0
  · rw [if_pos he]
    subst he
    refine acall_of Tryz.func94 rfl rfl (by simp [Tryz.ntmps94]) ?_; rw [Tryz.ntmps94, Tryz.results94]
    refine go rTI ?_
    refine aw_reg fun K hK => ?_; refine rn rTI ?_; refine cont_go (hnx _) ?_; rintro _ s1 ⟨rfl, rfl⟩; refine rn rTI ?_; refine cont_pure hp ?_; refine rn rTI ?_; refine hK _ _ ?_; clear hK K
    refine go rTI ?_
    refine ifs ?_ ?_ <;> first | exact nope | intro hb
    refine go rTI ?_
    exact fun i h1 h2 => by rw [if_neg (by omega), if_neg (by omega), if_neg (by omega)]
  · rw [if_neg he]
    refine acall_of Tryz.func94 rfl rfl (by simp [Tryz.ntmps94]) ?_; rw [Tryz.ntmps94, Tryz.results94]
    refine go rTI ?_
    refine aw_reg fun K hK => ?_; refine rn rTI ?_; refine cont_go (hnx _) ?_; rintro _ s1 ⟨rfl, rfl⟩; refine rn rTI ?_; refine cont_pure hp ?_; refine rn rTI ?_; refine hK _ _ ?_; clear hK K
    refine go rTI ?_
    refine ifs ?_ ?_ <;> first | exact nope | intro hb
    refine go rTI ?_
    exact fun i h1 h2 => by rw [if_neg (by omega), if_neg (by omega), if_neg (by omega)]
theorem step_none (w : Str) (z : Int) (hz : ∀ n, stepS w = some n → z = n) (h : decS z ≠ w ∨ z < 0 ∨ 1000000000 < z) : stepS w = none := by
  cases hs : stepS w with
  | none => rfl
  | some n =>
    have := hz n hs
    obtain ⟨h1, h2, h3⟩ := step_le w n hs
    subst this
    rcases h with h | h | h
    · exact absurd h3 h
    · omega
    · omega
theorem step_ax (s : St) (id : Nat) (w : Str) (r : List Str) (e : Int) (hw : By w) (hwl : w.length ≤ 281474976710656) (hi : s.get id = some (rdr (w :: r) e)) (hid : id < s.nx) (hl : r.length < 9223372036854775807) :
    ACall Tryz.prog 144 [.ptr id 0] s fun x s' => (∃ n, x = iv n ∧ (stepE w e = 0 → n = stepV w)) ∧ s' = s.set id (rdr r (stepE w e)) := by
  refine acall_upd id _ hid (rdr_idf _ _) ?_
  have hnx := next_ax s id w r e hi hid hl
  have hat := atoi_any w hwl
  unfold rdr iv at hnx ⊢
  unfold SV at hnx hat
  clear hi
  refine acall_of Tryz.func144 rfl rfl (by simp [Tryz.ntmps144]) ?_; rw [Tryz.ntmps144, Tryz.results144]
  refine go rTI ?_
  refine aw_reg fun K hK => ?_; refine rn rTI ?_; refine cont_go hnx ?_; rintro _ s1 ⟨rfl, rfl⟩; refine rn rTI ?_; refine hK _ _ ?_; clear hK K
  refine go rTI ?_
  refine aw_reg fun K hK => ?_; refine rn rTI ?_; refine cont_go (hat _) ?_; rintro x s1 ⟨⟨z, v, rfl, z0, z1, hv⟩, rfl⟩; refine rn rTI ?_; refine hK _ _ ?_; clear hK K
  have hit := itoa_ax z z0 z1
  unfold SV at hit
  have hne := str_ne (decS z) w (decS_by z) hw
  have hx : ∀ b, stepE w b = if b = 0 then (if (stepS w).isSome then 0 else 3) else b := fun _ => rfl
  have hy : stepV w = (stepS w).getD 0 := rfl
  rw [hx, hy]
  by_cases he : e = 0
  · subst he
    rw [if_pos rfl]
    rcases hv with ⟨rfl, hz⟩ | ⟨⟨t, p, rfl⟩, hn⟩
    · have hc : ∀ b, (!decide (decS z = w)) = b → b = true → stepS w = none := fun b h1 h2 => by
        subst h1
        exact step_none w z hz (.inl (by simpa using h2))
      generalize hq : (!decide (decS z = w)) = b1 at *
      by_cases q2 : b1 = true ∨ z < 0 ∨ 1000000000 < z
      · have hn : stepS w = none := by
          rcases q2 with q2 | q2
          · exact hc b1 rfl q2
          · exact step_none w z hz (.inr q2)
        rw [hn]
        clear hz hc hq hn
        cases b1 with
        | true =>
          clear q2
          rw [then_normal]
          refine aw_seq ?_
          refine aw_seq ?_
          refine aw_reg fun K hK => ?_; refine rn (cj rTI @hne) ?_; refine cont_pure hit ?_; refine rn (cj rTI @hne) ?_; refine hK _ _ ?_; clear hK K
          refine ifs ?_ ?_ <;> first | exact nope | intro hb
          refine go rTI ?_
          exact ⟨⟨z, rfl, fun h => by simp at h⟩, rfl, fun i h1 h2 => if_neg h2⟩
        | false =>
          have q3 : z < 0 ∨ 1000000000 < z := by
            rcases q2 with q2 | q2
            · cases q2
            · exact q2
          clear q2
          rw [then_normal]
          refine aw_seq ?_
          refine aw_seq ?_
          rcases q3 with q3 | q3
          · refine aw_reg fun K hK => ?_; refine rn (cj rTI @hne) ?_; refine cont_pure hit ?_; refine rn (cj rTI @hne) ?_; refine hK _ _ ?_; clear hK K
            refine ifs ?_ ?_ <;> first | exact nope | intro hb
            refine go rTI ?_
            exact ⟨⟨z, rfl, fun h => by simp at h⟩, rfl, fun i h1 h2 => if_neg h2⟩
          · have q4 : ¬ z < 0 := by omega
            refine aw_reg fun K hK => ?_; refine rn (cj rTI @hne) ?_; refine cont_pure hit ?_; refine rn (cj rTI @hne) ?_; refine hK _ _ ?_; clear hK K
            refine ifs ?_ ?_ <;> first | exact nope | intro hb
            refine go rTI ?_
            exact ⟨⟨z, rfl, fun h => by simp at h⟩, rfl, fun i h1 h2 => if_neg h2⟩
      · have q3 : b1 = false := by
          cases b1
          · rfl
          · exact absurd (.inl rfl) q2
        subst q3
        have q4 : decS z = w := by simpa using hq
        have hn := dec_step z (by omega) (by omega)
        rw [q4] at hn
        rw [hn]
        clear hz hc hq hn
        rw [then_normal]
        refine aw_seq ?_
        refine aw_seq ?_
        refine aw_reg fun K hK => ?_; refine rn (cj rTI @hne) ?_; refine cont_pure hit ?_; refine rn (cj rTI @hne) ?_; refine hK _ _ ?_; clear hK K
        refine ifs ?_ ?_ <;> first | exact nope | intro hb
        refine go rTI ?_
        exact ⟨⟨z, rfl, fun _ => rfl⟩, rfl, fun i h1 h2 => if_neg h2⟩
    · rw [hn]
      refine go rTI ?_
      refine ifs ?_ ?_ <;> first | exact nope | intro hb
      refine go rTI ?_
      exact ⟨⟨z, rfl, fun h => by simp at h⟩, rfl, fun i h1 h2 => if_neg h2⟩
  · rw [if_neg he]
    refine go rTI ?_
    refine ifs ?_ ?_ <;> first | exact nope | intro hb
    refine go rTI ?_
    exact ⟨⟨z, rfl, fun h => absurd h he⟩, fun i h1 h2 => if_neg h2⟩
end Go.Proofs.YtfjelkjlfcafgaaGreatDoor.CardF
end
section
/- Cards: the reader: wave. -/
namespace Go.Proofs.YtfjelkjlfcafgaaGreatDoor.CardG
open Go Go.RowKit Go.Proofs.YtfjelkjlfcafgaaGreatDoor.Ax Go.Proofs.YtfjelkjlfcafgaaGreatDoor.Ti Go.Proofs.YtfjelkjlfcafgaaGreatDoor.NumS Go.Proofs.YtfjelkjlfcafgaaGreatDoor.NumT Go.Proofs.YtfjelkjlfcafgaaGreatDoor.CardS Go.Proofs.YtfjelkjlfcafgaaGreatDoor.CardP Go.Proofs.YtfjelkjlfcafgaaGreatDoor.CardA Go.Proofs.YtfjelkjlfcafgaaGreatDoor.CardB Go.Proofs.YtfjelkjlfcafgaaGreatDoor.CardC Go.Proofs.YtfjelkjlfcafgaaGreatDoor.CardD Go.Proofs.YtfjelkjlfcafgaaGreatDoor.CardE Go.Proofs.YtfjelkjlfcafgaaGreatDoor.CardF
open Go.Proofs.YtfjelkjlfcafgaaGreatDoor.NumA (NM)
set_option linter.unusedSimpArgs false
set_option linter.unusedVariables false
set_option maxRecDepth 4000
set_option maxHeartbeats 2000000
theorem rTI : type_of% (cj @ti3 (cj @ti4 (cj @ti9 (cj @ti5 (cj @ti36 (cj @ti63 (cj @ti62 (cj @ti24 (cj @ti65 (cj @ti25 (cj @ti144 (cj @ti146 (cj @Nat.zero_add (cj @tz0 (cj @tz1 (cj @tz3 (cj @Nat.mul_one @Int.toNat_natCast))))))))))))))))) := cj @ti3 (cj @ti4 (cj @ti9 (cj @ti5 (cj @ti36 (cj @ti63 (cj @ti62 (cj @ti24 (cj @ti65 (cj @ti25 (cj @ti144 (cj @ti146 (cj @Nat.zero_add (cj @tz0 (cj @tz1 (cj @tz3 (cj @Nat.mul_one @Int.toNat_natCast))))))))))))))))
def WA (w : Wv) : AV := .ag [iv w.kind, NV w.vals, IV w.steps]
theorem il_idf (l : List Int) : idf.idfL (IL l) = true := (idfL_iff _).2 fun z hz => by
  obtain ⟨x, _, rfl⟩ := List.mem_map.1 hz
  rfl
theorem nc_idf (l : List Num) : idf.idfL (NC l) = true := (idfL_iff _).2 fun z hz => by
  obtain ⟨x, _, hz⟩ := List.mem_flatMap.1 hz
  rcases List.mem_cons.1 hz with rfl | hz
  · rfl
  · rcases List.mem_cons.1 hz with rfl | hz
    · rfl
    · cases hz
theorem wa_idf (w : Wv) : idf (WA w) = true := by
  show (idf (iv w.kind) && (idf.idfL (NC w.vals) && (idf.idfL (IL w.steps) && true))) = true
  rw [nc_idf, il_idf]
  rfl
theorem il_len (l : List Int) : (IL l).length = l.length := by simp [IL]
theorem wv_lay {P : Program} {f : FuncId} {zs : List AV} {s : St} (id : Nat) (c : List AV) (R : Wv → Prop) (hid : id < s.nx) (hc : idf.idfL c = true)
    (h : ACall P f zs s fun x s' => ∃ W i j, R W ∧ x = .ag [iv W.kind, .own i 0 W.vals.length 2, .own j 0 W.steps.length 1] ∧ s.nx ≤ i ∧ s.nx ≤ j ∧ i ≠ j ∧ s'.get i = some (NC W.vals) ∧ s'.get j = some (IL W.steps) ∧ s'.get id = some c ∧ ∀ k, k < s.nx → k ≠ id → s'.get k = s.get k) :
    ACall P f zs s fun x s' => (∃ W, R W ∧ x = WA W) ∧ s' = s.set id c := by
  refine acall_upd id c hid hc (acall_lay (acall_lay (h.mono ?_)))
  rintro x s' ⟨W, i, j, hR, rfl, h1, h2, h3, h4, h5, h6, h7⟩
  have e1 : (NC W.vals).take (W.vals.length * 2) = NC W.vals := by rw [← nc_len, List.take_length]
  have e2 : (IL W.steps).take (W.steps.length * 1) = IL W.steps := by rw [Nat.mul_one, ← il_len, List.take_length]
  have e3 : frz.frzL j (IL W.steps) (NC W.vals) = NC W.vals := by
    apply List.ext_getElem?
    intro q
    rw [frzL_get]
    cases h : (NC W.vals)[q]? with
    | none => rfl
    | some z =>
      rw [Option.map_some, frz_idf]
      exact (idfL_iff _).1 (nc_idf W.vals) z (List.mem_of_getElem? h)
  have key : frz j (IL W.steps) (frz i (NC W.vals) (.ag [iv W.kind, .own i 0 W.vals.length 2, .own j 0 W.steps.length 1])) = WA W := by
    have e4 : ¬ j = i := fun h => h3 h.symm
    simp only [frz, frz.frzL, iv, if_true, if_neg e4, List.drop_zero, e1, e2, e3]
    rfl
  refine ⟨i, NC W.vals, fun _ => false, h4, j, IL W.steps, fun _ => false, by rw [frz_false _ _ _ _ (by omega)]; exact h5, ⟨W, hR, key⟩, ?_, ?_, fun k hk hk2 => ?_⟩
  · rw [key]; exact wa_idf W
  · rw [frz_false _ _ _ _ (by omega), frz_false _ _ _ _ (by omega)]
    exact h6
  · rw [frz_false _ _ _ _ (by omega), frz_false _ _ _ _ (by omega)]
    exact h7 k hk hk2
theorem zr2 (x y : Value) : zrow [x, y] 2 = [.v x, .v y] := by simp [zrow, List.range_succ]
theorem zr4 (x y : Value) : zrow [x, y] 4 = [.v x, .v y, .v x, .v y] := by simp [zrow, List.range_succ]
structure WI (s s' : St) (id bw iV iS : Nat) (kd : Int) (V : List Num) (S : List Int) (ws : List Str) (e : Int) : Prop where
  r : s'.get id = some (rdr ws e)
  b : s'.get bw = some [iv kd, .own iV 0 V.length 2, .own iS 0 S.length 1]
  v : s'.get iV = some (NC V)
  t : s'.get iS = some (IL S)
  o : s.nx < bw ∧ s.nx < iV ∧ s.nx < iS ∧ bw < s'.nx ∧ iV < s'.nx ∧ iS < s'.nx ∧ bw ≠ iV ∧ bw ≠ iS ∧ iV ≠ iS
  z : s'.get s.nx = some [.v (.int .i64 0), .v (.slice none 0 0), .v (.slice none 0 0)]
  fr : ∀ k, k < s.nx → k ≠ id → s'.get k = s.get k
theorem WI.num {s s' : St} {id bw iV iS : Nat} {kd : Int} {V : List Num} {S : List Int} {ws : List Str} {e : Int} (h : WI s s' id bw iV iS kd V S ws e) (hid : id < s.nx) (n : Num) (ws2 : List Str) (e2 : Int) :
    WI s (((((s'.set id (rdr ws2 e2)).push [iv n.1, iv n.2]).kill iV).push (NC V ++ [iv n.1, iv n.2])).set bw [iv kd, .own (s'.nx + 1) 0 (V.length + 1) 2, .own iS 0 S.length 1]) id bw (s'.nx + 1) iS kd (V ++ [n]) S ws2 e2 := by
  obtain ⟨o1, o2, o3, o4, o5, o6, o7, o8, o9⟩ := h.o
  have hn : (((((s'.set id (rdr ws2 e2)).push [iv n.1, iv n.2]).kill iV).push (NC V ++ [iv n.1, iv n.2])).set bw [iv kd, .own (s'.nx + 1) 0 (V.length + 1) 2, .own iS 0 S.length 1]).nx = s'.nx + 2 := rfl
  have hg : ∀ k c, k ≠ bw → k ≠ s'.nx + 1 → k ≠ iV → k ≠ s'.nx → k ≠ id → s'.get k = c → (((((s'.set id (rdr ws2 e2)).push [iv n.1, iv n.2]).kill iV).push (NC V ++ [iv n.1, iv n.2])).set bw [iv kd, .own (s'.nx + 1) 0 (V.length + 1) 2, .own iS 0 S.length 1]).get k = c := fun k c h1 h2 h3 h4 h5 h6 => by
    rw [St.set_ne _ _ _ _ h1, St.push_ne _ _ _ h2, St.kill_ne _ _ _ h3, St.push_ne (s'.set id _) _ _ h4, St.set_ne _ _ _ _ h5]
    exact h6
  refine ⟨?_, ?_, ?_, hg _ _ (by omega) (by omega) (by omega) (by omega) (by omega) h.t, ⟨o1, by omega, o3, by omega, by omega, by omega, by omega, o8, by omega⟩, hg _ _ (by omega) (by omega) (by omega) (by omega) (by omega) h.z, fun k h1 h2 => hg _ _ (by omega) (by omega) (by omega) (by omega) h2 (h.fr k h1 h2)⟩
  · rw [St.set_ne _ _ _ _ (by omega), St.push_ne _ _ _ (show id ≠ s'.nx + 1 by omega), St.kill_ne _ _ _ (by omega), St.push_ne (s'.set id _) _ _ (show id ≠ s'.nx by omega)]
    exact St.set_same _ _ _
  · rw [St.set_same, List.length_append]
    rfl
  · rw [St.set_ne _ _ _ _ (by omega)]
    have : NC (V ++ [n]) = NC V ++ [iv n.1, iv n.2] := by simp [NC]
    rw [this]
    exact St.push_same _ _
theorem WI.step {s s' : St} {id bw iV iS : Nat} {kd : Int} {V : List Num} {S : List Int} {ws : List Str} {e : Int} (h : WI s s' id bw iV iS kd V S ws e) (hid : id < s.nx) (n : Int) (ws2 : List Str) (e2 : Int) :
    WI s (((((s'.set id (rdr ws2 e2)).push [iv n]).kill iS).push (IL S ++ [iv n])).set bw [iv kd, .own iV 0 V.length 2, .own (s'.nx + 1) 0 (S.length + 1) 1]) id bw iV (s'.nx + 1) kd V (S ++ [n]) ws2 e2 := by
  obtain ⟨o1, o2, o3, o4, o5, o6, o7, o8, o9⟩ := h.o
  have hg : ∀ k c, k ≠ bw → k ≠ s'.nx + 1 → k ≠ iS → k ≠ s'.nx → k ≠ id → s'.get k = c → (((((s'.set id (rdr ws2 e2)).push [iv n]).kill iS).push (IL S ++ [iv n])).set bw [iv kd, .own iV 0 V.length 2, .own (s'.nx + 1) 0 (S.length + 1) 1]).get k = c := fun k c h1 h2 h3 h4 h5 h6 => by
    rw [St.set_ne _ _ _ _ h1, St.push_ne _ _ _ h2, St.kill_ne _ _ _ h3, St.push_ne (s'.set id _) _ _ h4, St.set_ne _ _ _ _ h5]
    exact h6
  have hn : (((((s'.set id (rdr ws2 e2)).push [iv n]).kill iS).push (IL S ++ [iv n])).set bw [iv kd, .own iV 0 V.length 2, .own (s'.nx + 1) 0 (S.length + 1) 1]).nx = s'.nx + 2 := rfl
  refine ⟨?_, ?_, hg _ _ (by omega) (by omega) (by omega) (by omega) (by omega) h.v, ?_, ⟨o1, o2, by omega, by omega, by omega, by omega, o7, by omega, by omega⟩, hg _ _ (by omega) (by omega) (by omega) (by omega) (by omega) h.z, fun k h1 h2 => hg _ _ (by omega) (by omega) (by omega) (by omega) h2 (h.fr k h1 h2)⟩
  · rw [St.set_ne _ _ _ _ (by omega), St.push_ne _ _ _ (show id ≠ s'.nx + 1 by omega), St.kill_ne _ _ _ (by omega), St.push_ne (s'.set id _) _ _ (show id ≠ s'.nx by omega)]
    exact St.set_same _ _ _
  · rw [St.set_same, List.length_append]
    rfl
  · rw [St.set_ne _ _ _ _ (by omega)]
    have : IL (S ++ [n]) = IL S ++ [iv n] := by simp [IL]
    rw [this]
    exact St.push_same _ _
def nilS : AV := .v (.slice none 0 0)
def wz : List AV := [.v (.int .i64 0), .v (.slice none 0 0), .v (.slice none 0 0)]
theorem WI.init (s : St) (id : Nat) (hid : id < s.nx) (kd : Int) (r : List Str) (e : Int) (s0 s1 s2 : St) (h0 : s0 = (((s.push wz).set id (rdr r e)).push wz).set (s.nx + 1) [iv kd, nilS, nilS])
    (h1 : s1 = (s0.push []).set (s.nx + 1) ([iv kd, nilS, nilS].set 1 (.own s0.nx 0 0 2))) (h2 : s2 = (s1.push []).set (s.nx + 1) (([iv kd, nilS, nilS].set 1 (.own s0.nx 0 0 2)).set 2 (.own s1.nx 0 0 1))) :
    WI s s2 id (s.nx + 1) (s.nx + 2) (s.nx + 3) kd [] [] r e := by
  have n0 : s0.nx = s.nx + 2 := by rw [h0]; rfl
  have n1 : s1.nx = s.nx + 3 := by rw [h1]; show s0.nx + 1 = _; omega
  have n2 : s2.nx = s.nx + 4 := by rw [h2]; show s1.nx + 1 = _; omega
  have hg : ∀ k c, k ≠ s.nx + 1 → k ≠ s.nx + 2 → k ≠ s.nx + 3 → ((s.push wz).set id (rdr r e)).get k = c → s2.get k = c := fun k c q1 q2 q3 q4 => by
    rw [h2, St.set_ne _ _ _ _ q1, St.push_ne s1 _ _ (by omega), h1, St.set_ne _ _ _ _ q1, St.push_ne s0 _ _ (by omega), h0, St.set_ne _ _ _ _ q1, St.push_ne ((s.push wz).set id _) _ _ (by rw [St.nx_set, St.nx_push]; omega)]
    exact q4
  refine ⟨hg _ _ (by omega) (by omega) (by omega) (St.set_same _ _ _), ?_, ?_, ?_, ⟨by omega, by omega, by omega, by omega, by omega, by omega, by omega, by omega, by omega⟩, hg _ _ (by omega) (by omega) (by omega) ?_, fun k q1 q2 => hg _ _ (by omega) (by omega) (by omega) ?_⟩
  · rw [h2, St.set_same, n0, n1]
    rfl
  · rw [h2, St.set_ne _ _ _ _ (by omega), St.push_ne s1 _ _ (by omega), h1, St.set_ne _ _ _ _ (by omega)]
    have := St.push_same s0 []
    rw [n0] at this
    exact this
  · rw [h2, St.set_ne _ _ _ _ (by omega)]
    have := St.push_same s1 []
    rw [n1] at this
    exact this
  · rw [St.set_ne _ _ _ _ (by omega)]
    exact St.push_same s wz
  · rw [St.set_ne _ _ _ _ q2, St.push_ne s _ _ (by omega)]
theorem numE_le (w : Str) (e : Int) (h : numE w e = 0) : e = 0 := by
  unfold numE at h
  split at h
  · assumption
  · exact h
theorem steps_le (l : List Str) : ∀ e, stepsE l e = 0 → e = 0 := by
  induction l with
  | nil => exact fun e h => h
  | cons a l ih => exact fun e h => stepE_le a e (ih _ h)
theorem pairs_le : ∀ (l : List Str) (e : Int), pairsE l e = 0 → e = 0
  | [], e, h => h
  | [_], e, h => h
  | a :: b :: l, e, h => stepE_le a e (numE_le b _ (pairs_le l _ h))
theorem WI.init2 (s s0 s1 s2 : St) (id : Nat) (hid : id < s.nx) (kd : Int) (V : List Num) (c : List AV) (r : List Str) (e : Int) (n0 : s0.nx = s.nx + 1) (g0 : s0.get id = some (rdr r e)) (z0 : s0.get s.nx = some wz) (f0 : ∀ k, k < s.nx → k ≠ id → s0.get k = s.get k) (hc : c = NC V)
    (h1 : s1 = ((s0.push c).push wz).set (s.nx + 2) [iv kd, .own (s.nx + 1) 0 V.length 2, nilS]) (h2 : s2 = (s1.push []).set (s.nx + 2) ([iv kd, .own (s.nx + 1) 0 V.length 2, nilS].set 2 (.own s1.nx 0 0 1))) :
    WI s s2 id (s.nx + 2) (s.nx + 1) (s.nx + 3) kd V [] r e := by
  have n1 : s1.nx = s.nx + 3 := by rw [h1]; show s0.nx + 1 + 1 = _; omega
  have n2 : s2.nx = s.nx + 4 := by rw [h2]; show s1.nx + 1 = _; omega
  have hg : ∀ k c, k ≠ s.nx + 1 → k ≠ s.nx + 2 → k ≠ s.nx + 3 → s0.get k = c → s2.get k = c := fun k c q1 q2 q3 q4 => by
    rw [h2, St.set_ne _ _ _ _ q2, St.push_ne s1 _ _ (by omega), h1, St.set_ne _ _ _ _ q2, St.push_ne (s0.push _) _ _ (by rw [St.nx_push]; omega), St.push_ne s0 _ _ (by omega)]
    exact q4
  refine ⟨hg _ _ (by omega) (by omega) (by omega) g0, ?_, ?_, ?_, ⟨by omega, by omega, by omega, by omega, by omega, by omega, by omega, by omega, by omega⟩, hg _ _ (by omega) (by omega) (by omega) z0, fun k q1 q2 => hg _ _ (by omega) (by omega) (by omega) (f0 k q1 q2)⟩
  · rw [h2, St.set_same, n1]
    rfl
  · rw [h2, St.set_ne _ _ _ _ (by omega), St.push_ne s1 _ _ (by omega), h1, St.set_ne _ _ _ _ (by omega), St.push_ne (s0.push _) _ _ (by rw [St.nx_push]; omega), hc]
    have := St.push_same s0 (NC V)
    rw [n0] at this
    exact this
  · rw [h2, St.set_ne _ _ _ _ (by omega)]
    have := St.push_same s1 []
    rw [n1] at this
    exact this
theorem wave_ax (s : St) (id : Nat) (ws : List Str) (e : Int) (hw : BL ws) (hwl : ∀ w ∈ ws, w.length ≤ 281474976710656) (hi : s.get id = some (rdr ws e)) (hid : id < s.nx) (hl : ws.length ≤ 10000) (hv : waveWords ws = true) :
    ACall Tryz.prog 95 [.ptr id 0] s fun x s' => (∃ W, ((waveR ws e).2 = 0 → W = (waveR ws e).1) ∧ x = WA W) ∧ s' = s.set id (rdr [] (waveR ws e).2) := by
  refine wv_lay id _ _ hid (rdr_idf _ _) ?_
  cases ws with
  | nil => cases hv
  | cons kw r =>
    have hk : By kw := hw kw (List.mem_cons_self ..)
    have e1 := str_eq kw sDc hk (by_lit _ rfl)
    have e2 := str_eq kw sPulse hk (by_lit _ rfl)
    have e3 := str_eq kw sPwl hk (by_lit _ rfl)
    have e4 := str_eq kw sTable hk (by_lit _ rfl)
    rw [show bs sDc = ByteArray.mk #[100, 99] from rfl] at e1
    rw [show bs sPulse = ByteArray.mk #[112, 117, 108, 115, 101] from rfl] at e2
    rw [show bs sPwl = ByteArray.mk #[112, 119, 108] from rfl] at e3
    rw [show bs sTable = ByteArray.mk #[116, 97, 98, 108, 101] from rfl] at e4
    have hd : (SL (kw :: r)).head? = some (.v (.string (bs kw))) := rfl
    have hi2 : s.get id = some [.sl (r.length + 1) (SL (kw :: r)), .v (.int .i64 e)] := hi
    have hnx : ∀ zc, ACall Tryz.prog 93 [.ptr id 0] (s.push zc) fun x s' => x = SV kw ∧ s' = (s.push zc).set id (rdr r e) := fun zc => next_ax _ id kw r e (by rw [St.push_ne _ _ _ (by omega)]; exact hi) (by rw [St.nx_push]; omega) (by rw [List.length_cons] at hl; omega)
    have hid2 : id ≠ s.nx := by omega
    refine acall_of Tryz.func95 rfl rfl (by simp [Tryz.ntmps95]) ?_; rw [Tryz.ntmps95, Tryz.results95]
    refine go (cj rTI (cj @hi2 (cj @hd @e2))) ?_
    by_cases q1 : kw = sPulse
    · have hw1 : waveWords (kw :: r) = decide (r.length = 7) := by
        show (if kw = sDc then _ else if kw = sPulse then _ else if kw = sPwl then _ else if kw = sTable then _ else _) = _
        rw [q1, if_neg (by decide), if_pos rfl]
      have hr1 : waveR (kw :: r) e = (⟨2, (r.take 2).map numV, (r.drop 2).map stepV⟩, stepsE (r.drop 2) (numsE (r.take 2) e)) := by
        show (if kw = sPulse then _ else if kw = sPwl then _ else if kw = sTable then _ else _) = _
        rw [if_pos q1]
      rw [hr1, decide_eq_true q1]
      rw [hw1, decide_eq_true_eq] at hv
      clear e1 e2 e3 e4 hr1 hw1
      match r, hv with
      | a :: b :: r, hv =>
        rw [List.length_cons, List.length_cons] at hv
        have ha : By a := hw a (by simp)
        have hb2 : By b := hw b (by simp)
        have hr5 : r.length = 5 := by omega
        rw [show List.take 2 (a :: b :: r) = [a, b] from rfl, show List.drop 2 (a :: b :: r) = r from rfl, show List.map numV [a, b] = [numV a, numV b] from rfl, show numsE [a, b] e = numE b (numE a e) from rfl]
        have hn1 := fun zc => num_ax ((s.push zc).set id (rdr (a :: b :: r) e)) id a (b :: r) e ha (St.set_same _ _ _) (by rw [St.nx_set, St.nx_push]; omega) (by rw [List.length_cons]; omega)
        have hn2 := fun zc => num_ax (((s.push zc).set id (rdr (a :: b :: r) e)).set id (rdr (b :: r) (numE a e))) id b r (numE a e) hb2 (St.set_same _ _ _) (by rw [St.nx_set, St.nx_set, St.nx_push]; omega) (by omega)
        generalize numE b (numE a e) = ef at *
        generalize numE a e = eg at *
        unfold NM at hn1 hn2
        generalize numV a = n1 at *
        generalize numV b = n2 at *
        refine ifs ?_ ?_ <;> first | exact nope | intro hb
        refine aw_seq ?_
        refine aw_reg fun K hK => ?_; refine rn rTI ?_; refine cont_go (hnx _) ?_; rintro _ s1 ⟨rfl, rfl⟩; refine rn rTI ?_; refine hK _ _ ?_; clear hK K
        refine go rTI ?_
        refine aw_reg fun K hK => ?_; refine rn (cj rTI @zr4) ?_; refine cont_go (hn1 _) ?_; rintro _ s1 ⟨rfl, rfl⟩; refine rn rTI ?_; refine cont_go (hn2 _) ?_; rintro _ s1 ⟨rfl, rfl⟩; refine rn (cj rTI @zr4) ?_; refine hK _ _ ?_; clear hK K
        refine go rTI ?_
        refine aw_nil_box (s.nx + 1 + 1) 2 1 _ (St.set_same _ _ _) rfl ?_
        have h0 := WI.init2 s ((((s.push wz).set id (rdr (a :: b :: r) e)).set id (rdr (b :: r) eg)).set id (rdr r ef)) _ _ id hid 2 [n1, n2] (NC [n1, n2]) r ef rfl (St.set_same _ _ _) (by rw [St.set_ne _ _ _ _ (by omega), St.set_ne _ _ _ _ (by omega), St.set_ne _ _ _ _ (by omega)]; exact St.push_same s wz) (fun k h1 h2 => by rw [St.set_ne _ _ _ _ h2, St.set_ne _ _ _ _ h2, St.set_ne _ _ _ _ h2, St.push_ne s _ _ (by omega)]) rfl rfl rfl
        clear hnx hn1 hn2 hi hi2 hd
        refine aw_loop (fun m e' s' => ∃ q e1 S iS, m = q.length ∧ e'.n = 86 ∧ e'.m 0 = .ptr id 0 ∧ e'.m 2 = .ptr s.nx 0 ∧ e'.m 3 = .ptr (s.nx + 1 + 1) 0 ∧ e'.m 22 = .v (.int .i64 (S.length : Nat)) ∧ WI s s' id (s.nx + 1 + 1) (s.nx + 1) iS 2 [n1, n2] S q e1 ∧ stepsE r ef = stepsE q e1 ∧ (stepsE r ef = 0 → r.map stepV = S ++ q.map stepV) ∧ S.length + q.length = 5 ∧ (∀ w ∈ q, w ∈ r)) r.length ?_ ?_
        · refine ⟨r, ef, [], s.nx + 3, rfl, ?_, ?_, ?_, ?_, ?_, h0, rfl, fun _ => rfl, by rw [List.length_nil]; omega, fun _ h => h⟩
          all_goals ((first | refine rn rTI ?_ | exact rn0 rTI))
          all_goals trivial
        · rintro m e' s' ⟨q, e1, S, iS, rfl, h1, k0, k2, k3, k22, hW, hE, hS, hsl, hm⟩
          have gb : s'.get (s.nx + 1 + 1) = some [.v (.int .i64 2), .own (s.nx + 1) 0 2 2, .own iS 0 S.length 1] := hW.b
          have gz := hW.z
          obtain ⟨o1, o2, o3, o4, o5, o6, o7, o8, o9⟩ := hW.o
          clear h0
          match q with
          | [] =>
            have h5 : (S.length : Int) = 5 := by rw [List.length_nil] at hsl; omega
            refine go (cj rTI (cj @h1 (cj @k22 @h5))) ?_
            refine ifs ?_ ?_ <;> first | exact nope | intro hb
            refine go (cj rTI (cj @h1 (cj @k0 (cj @k2 (cj @k3 (cj @gb @gz)))))) ?_
            rw [List.map_nil, List.append_nil] at hS
            have hE' : stepsE r ef = e1 := hE
            rw [hE'] at hS ⊢
            exact ⟨⟨2, [n1, n2], S⟩, s.nx + 1, iS, fun h => by rw [hS h], rfl, by omega, by omega, o9, by rw [if_neg (by omega)]; exact hW.v, by rw [if_neg (by omega)]; exact hW.t, hW.r, fun k h1 h2 => by rw [if_neg (by omega)]; exact hW.fr k h1 h2⟩
          | a' :: q =>
            rw [List.length_cons] at hsl
            have h5 : (S.length : Int) < 5 := by omega
            have ha2 : By a' := hw a' (by have := hm a' (by simp); simp [this])
            have hal := hwl a' (by have := hm a' (by simp); simp [this])
            have hst := step_ax s' id a' q e1 ha2 hal hW.r (by omega) (by omega)
            have gt := hW.t
            have nl := il_len S
            have hEE : stepsE (a' :: q) e1 = stepsE q (stepE a' e1) := rfl
            rw [hEE] at hE
            clear hEE
            unfold iv at hst
            refine go (cj rTI (cj @h1 @k22)) ?_
            refine ifs ?_ ?_ <;> first | exact nope | intro hb
            refine aw_skip ?_
            refine go rTI ?_
            refine aw_drwR (.take 0 (.take 1 (.take 2 (.one 3 (.one 4 (.one 5 (.done))))))) 6 [7] [s.nx + 1 + 1] (by kernel_rfl) (by kernel_rfl) fun K hK => ?_; refine dt (cj rTI (cj @h1 (cj @k0 (cj @k3 (cj @gb (cj @gt @nl)))))) ?_; refine cont_go hst ?_; rintro x s1 ⟨⟨n, rfl, hn⟩, rfl⟩; refine dt (cj rTI (cj @h1 (cj @k0 (cj @k3 (cj @gb (cj @gt @nl)))))) ?_; refine hK _ _ ?_; clear hK K
            refine go (cj rTI (cj @h1 @k22)) ?_
            simp only [block_normal, loop_normal]
            have hW2 := hW.step (by omega) n q (stepE a' e1)
            have hS2 : stepsE r ef = 0 → List.map stepV r = (S ++ [n]) ++ List.map stepV q := fun h => by
              rw [hS h]
              rw [hE] at h
              rw [hn (steps_le _ _ h)]
              simp
            refine ⟨q.length, by rw [List.length_cons]; omega, q, stepE a' e1, S ++ [n], s'.nx + 1, rfl, ?_, ?_, ?_, ?_, ?_, hW2, hE, hS2, by rw [List.length_append]; simp; omega, fun w hw => hm w (List.mem_cons_of_mem _ hw)⟩
            all_goals ((first | refine rn (cj @h1 (cj @k0 (cj @k2 @k3))) ?_ | exact rn0 (cj @h1 (cj @k0 (cj @k2 @k3)))))
            all_goals first | trivial | (rw [List.length_append]; rfl)
    rw [decide_eq_false q1]
    refine ifs ?_ ?_ <;> first | exact nope | intro hb
    refine go (cj rTI @e3) ?_
    by_cases q2 : kw = sPwl
    · have hw1 : waveWords (kw :: r) = decide (2 ≤ r.length ∧ r.length % 2 = 0 ∧ r.length ≤ 32) := by
        show (if kw = sDc then _ else if kw = sPulse then _ else if kw = sPwl then _ else if kw = sTable then _ else _) = _
        rw [q2, if_neg (by decide), if_neg (by decide), if_pos rfl]
      have hr1 : waveR (kw :: r) e = (⟨3, (odds r).map numV, (evens r).map stepV⟩, pairsE r e) := by
        show (if kw = sPulse then _ else if kw = sPwl then _ else if kw = sTable then _ else _) = _
        rw [if_neg q1, if_pos q2]
      rw [hr1, decide_eq_true q2]
      rw [hw1, decide_eq_true_eq] at hv
      obtain ⟨hv1, hv2, hv3⟩ := hv
      clear e1 e2 e3 e4 hr1 hw1
      refine ifs ?_ ?_ <;> first | exact nope | intro hb
      refine aw_seq ?_
      refine aw_reg fun K hK => ?_; refine rn rTI ?_; refine cont_go (hnx _) ?_; rintro _ s1 ⟨rfl, rfl⟩; refine rn rTI ?_; refine hK _ _ ?_; clear hK K
      refine go rTI ?_
      refine aw_nil_box (s.nx + 1) 1 2 _ (St.set_same _ _ _) rfl ?_
      refine aw_nil_box (s.nx + 1) 2 1 _ (St.set_same _ _ _) rfl ?_
      have h0 := WI.init s id hid 3 r e _ _ _ rfl rfl rfl
      refine aw_loop (fun m e' s' => ∃ q e1 V S iV iS, m = q.length ∧ e'.n = 86 ∧ e'.m 0 = .ptr id 0 ∧ e'.m 2 = .ptr s.nx 0 ∧ e'.m 4 = .ptr (s.nx + 1) 0 ∧ WI s s' id (s.nx + 1) iV iS 3 V S q e1 ∧ pairsE r e = pairsE q e1 ∧ (odds r).map numV = V ++ (odds q).map numV ∧ (pairsE r e = 0 → (evens r).map stepV = S ++ (evens q).map stepV) ∧ q.length % 2 = 0 ∧ V.length + q.length ≤ 32 ∧ S.length + q.length ≤ 32 ∧ (∀ w ∈ q, w ∈ r)) r.length ?_ ?_
      · refine ⟨r, e, [], [], s.nx + 2, s.nx + 3, rfl, ?_, ?_, ?_, ?_, h0, rfl, rfl, fun _ => rfl, hv2, by simp; omega, by simp; omega, fun _ h => h⟩
        all_goals (exact rn0 rTI)
        all_goals trivial
      · rintro m e' s' ⟨q, e1, V, S, iV, iS, rfl, h1, k0, k2, k4, hW, hE, hV, hS, hm2, hvl, hsl, hm⟩
        have hr : s'.get id = some [.sl q.length (SL q), .v (.int .i64 e1)] := hW.r
        have gb : s'.get (s.nx + 1) = some [.v (.int .i64 3), .own iV 0 V.length 2, .own iS 0 S.length 1] := hW.b
        have gz := hW.z
        obtain ⟨o1, o2, o3, o4, o5, o6, o7, o8, o9⟩ := hW.o
        clear h0 hi hi2 hd hnx
        match q with
        | [] =>
          refine go (cj rTI (cj @h1 (cj @k0 @hr))) ?_
          refine ifs ?_ ?_ <;> first | exact nope | intro hb
          refine go (cj rTI (cj @h1 (cj @k0 (cj @k2 (cj @k4 (cj @hr (cj @gb @gz))))))) ?_
          have hV' : List.map numV (odds r) = V := by rw [hV]; simp [odds]
          have hS' : pairsE r e = 0 → List.map stepV (evens r) = S := fun h => by rw [hS h]; simp [evens]
          rw [hV']
          have hE' : pairsE r e = e1 := hE
          rw [hE'] at hS' ⊢
          exact ⟨⟨3, V, S⟩, iV, iS, fun h => by rw [hS' h], rfl, by omega, by omega, o9, by rw [if_neg (by omega)]; exact hW.v, by rw [if_neg (by omega)]; exact hW.t, rfl, fun k h1 h2 => by rw [if_neg (by omega)]; exact hW.fr k h1 h2⟩
        | [x] => simp at hm2
        | a :: b :: q =>
          have ha : By a := hw a (List.mem_cons_of_mem _ (hm a (by simp)))
          have hal := hwl a (List.mem_cons_of_mem _ (hm a (by simp)))
          have hb2 : By b := hw b (List.mem_cons_of_mem _ (hm b (by simp)))
          rw [List.length_cons, List.length_cons] at hm2 hvl hsl
          have hst := step_ax s' id a (b :: q) e1 ha hal hW.r (by omega) (by rw [List.length_cons]; omega)
          have gt := hW.t
          have nl := il_len S
          have hEE : pairsE (a :: b :: q) e1 = pairsE q (numE b (stepE a e1)) := rfl
          rw [hEE] at hE
          clear hEE
          refine go (cj rTI (cj @h1 (cj @k0 @hr))) ?_
          refine ifs ?_ ?_ <;> first | exact nope | intro hb
          refine aw_skip ?_
          refine go rTI ?_
          refine aw_only (fun e'' s'' => ∃ n iS', e''.n = 86 ∧ e''.m 0 = .ptr id 0 ∧ e''.m 2 = .ptr s.nx 0 ∧ e''.m 4 = .ptr (s.nx + 1) 0 ∧ WI s s'' id (s.nx + 1) iV iS' 3 V (S ++ [n]) (b :: q) (stepE a e1) ∧ (stepE a e1 = 0 → n = stepV a)) ?_ ?_
          · unfold iv at hst
            refine aw_drwR (.take 0 (.take 1 (.take 2 (.one 3 (.one 4 (.one 5 (.done))))))) 6 [7] [s.nx + 1] (by kernel_rfl) (by kernel_rfl) fun K hK => ?_; refine dt (cj rTI (cj @h1 (cj @k0 (cj @k4 (cj @gb (cj @gt @nl)))))) ?_; refine cont_go hst ?_; rintro x s1 ⟨⟨n, rfl, hn⟩, rfl⟩; refine dt (cj rTI (cj @h1 (cj @k0 (cj @k4 (cj @gb (cj @gt @nl)))))) ?_; refine hK _ _ ?_; clear hK K
            refine ⟨rfl, n, s'.nx + 1, ?_, ?_, ?_, ?_, hW.step (by omega) n (b :: q) (stepE a e1), hn⟩
            all_goals (exact rn0 (cj @h1 (cj @k0 (cj @k2 @k4))))
            all_goals trivial
          · clear hW hst gt nl gb gz h1 k0 k2 k4 o1 o2 o3 o4 o5 o6 o7 o8 o9 hr
            rintro e'' s'' ⟨n, iS', h1, k0, k2, k4, hW, hn⟩
            rw [then_normal]
            have hr : s''.get id = some [.sl (q.length + 1) (SL (b :: q)), .v (.int .i64 (stepE a e1))] := hW.r
            have gb : s''.get (s.nx + 1) = some [.v (.int .i64 3), .own iV 0 V.length 2, .own iS' 0 (S ++ [n]).length 1] := hW.b
            have gv := hW.v
            have nl := nc_len V
            obtain ⟨o1, o2, o3, o4, o5, o6, o7, o8, o9⟩ := hW.o
            have hnu := num_ax s'' id b q (stepE a e1) hb2 hW.r (by omega) (by omega)
            have hW2 := hW.num hid (numV b) q (numE b (stepE a e1))
            unfold NM at hnu
            have hS2 : pairsE r e = 0 → List.map stepV (evens r) = (S ++ [n]) ++ List.map stepV (evens q) := fun h => by
              rw [hS h]
              rw [hE] at h
              rw [hn (numE_le _ _ (pairs_le _ _ h))]
              simp [evens]
            have hV2 : List.map numV (odds r) = (V ++ [numV b]) ++ List.map numV (odds q) := by rw [hV]; simp [odds]
            have hsl2 : (S ++ [n]).length + q.length ≤ 32 := by rw [List.length_append]; simp; omega
            have hvl2 : (V ++ [numV b]).length + q.length ≤ 32 := by rw [List.length_append]; simp; omega
            clear hn hS hV hsl
            generalize numE b (stepE a e1) = e2 at *
            generalize numV b = n2 at *
            generalize S ++ [n] = S2 at *
            refine aw_drwR (.take 0 (.take 1 (.take 2 (.one 3 (.one 4 (.one 5 (.done))))))) 6 [7] [s.nx + 1] (by kernel_rfl) (by kernel_rfl) fun K hK => ?_; refine dt (cj rTI (cj @h1 (cj @k0 (cj @k4 (cj @gb (cj @gv (cj @nl @zr2))))))) ?_; refine cont_go hnu ?_; rintro _ s1 ⟨rfl, rfl⟩; refine dt (cj rTI (cj @h1 (cj @k0 (cj @k4 (cj @gb (cj @gv (cj @nl @zr2))))))) ?_; refine hK _ _ ?_; clear hK K
            simp only [block_normal, loop_normal]
            refine ⟨q.length, by rw [List.length_cons, List.length_cons]; omega, q, e2, V ++ [n2], S2, s''.nx + 1, iS', rfl, ?_, ?_, ?_, ?_, hW2, hE, hV2, hS2, by omega, hvl2, hsl2, fun w hw => hm w (List.mem_cons_of_mem _ (List.mem_cons_of_mem _ hw))⟩
            all_goals (exact rn0 (cj @h1 (cj @k0 (cj @k2 @k4))))
            all_goals trivial
    rw [decide_eq_false q2]
    refine ifs ?_ ?_ <;> first | exact nope | intro hb
    refine go (cj rTI @e4) ?_
    by_cases q3 : kw = sTable
    · have hr1 : waveR (kw :: r) e = (⟨4, r.map numV, []⟩, numsE r e) := by
        show (if kw = sPulse then _ else if kw = sPwl then _ else if kw = sTable then _ else _) = _
        rw [if_neg q1, if_neg q2, if_pos q3]
      rw [hr1, decide_eq_true q3]
      clear e1 e2 e3 e4 hr1 hv
      refine ifs ?_ ?_ <;> first | exact nope | intro hb
      refine aw_seq ?_
      refine aw_reg fun K hK => ?_; refine rn rTI ?_; refine cont_go (hnx _) ?_; rintro _ s1 ⟨rfl, rfl⟩; refine rn rTI ?_; refine hK _ _ ?_; clear hK K
      refine go rTI ?_
      refine aw_nil_box (s.nx + 1) 1 2 _ (St.set_same _ _ _) rfl ?_
      refine aw_nil_box (s.nx + 1) 2 1 _ (St.set_same _ _ _) rfl ?_
      have h0 := WI.init s id hid 4 r e _ _ _ rfl rfl rfl
      refine aw_loop (fun m e' s' => ∃ q e1 V iV, m = q.length ∧ e'.n = 86 ∧ e'.m 0 = .ptr id 0 ∧ e'.m 2 = .ptr s.nx 0 ∧ e'.m 5 = .ptr (s.nx + 1) 0 ∧ WI s s' id (s.nx + 1) iV (s.nx + 3) 4 V [] q e1 ∧ numsE r e = numsE q e1 ∧ r.map numV = V ++ q.map numV ∧ (∀ w ∈ q, w ∈ r)) r.length ?_ ?_
      · refine ⟨r, e, [], s.nx + 2, rfl, ?_, ?_, ?_, ?_, h0, rfl, rfl, fun _ h => h⟩
        all_goals (exact rn0 rTI)
        all_goals trivial
      · rintro m e' s' ⟨q, e1, V, iV, rfl, h1, k0, k2, k5, hW, hE, hV, hm⟩
        have hr : s'.get id = some [.sl q.length (SL q), .v (.int .i64 e1)] := hW.r
        have gb : s'.get (s.nx + 1) = some [.v (.int .i64 4), .own iV 0 V.length 2, .own (s.nx + 3) 0 0 1] := hW.b
        have gz := hW.z
        obtain ⟨o1, o2, o3, o4, o5, o6, o7, o8, o9⟩ := hW.o
        cases q with
        | nil =>
          refine go (cj rTI (cj @h1 (cj @k0 @hr))) ?_
          refine ifs ?_ ?_ <;> first | exact nope | intro hb
          refine go (cj rTI (cj @h1 (cj @k0 (cj @k2 (cj @k5 (cj @hr (cj @gb @gz))))))) ?_
          rw [List.map_nil, List.append_nil] at hV
          rw [hV, hE]
          exact ⟨⟨4, V, []⟩, iV, s.nx + 3, fun _ => rfl, rfl, by omega, by omega, o9, by rw [if_neg (by omega)]; exact hW.v, by rw [if_neg (by omega)]; exact hW.t, rfl, fun k h1 h2 => by rw [if_neg (by omega)]; exact hW.fr k h1 h2⟩
        | cons a q =>
          have ha : By a := hw a (List.mem_cons_of_mem _ (hm a (List.mem_cons_self ..)))
          have hlen := congrArg List.length hV
          rw [List.length_map, List.length_append, List.length_map, List.length_cons] at hlen
          rw [List.length_cons] at hl
          have hvl : V.length ≤ 10000 := by omega
          have hq : q.length < 9223372036854775807 := by omega
          clear hlen
          have hnu := num_ax s' id a q e1 ha hW.r (by omega) hq
          have hW2 := hW.num hid (numV a) q (numE a e1)
          rw [show numsE (a :: q) e1 = numsE q (numE a e1) from rfl] at hE
          rw [List.map_cons] at hV
          have gv := hW.v
          have nl := nc_len V
          generalize numE a e1 = e2 at *
          unfold NM at hnu
          generalize numV a = n at *
          refine go (cj rTI (cj @h1 (cj @k0 @hr))) ?_
          refine ifs ?_ ?_ <;> first | exact nope | intro hb
          refine aw_skip ?_
          refine go rTI ?_
          refine aw_drwR (.take 0 (.take 1 (.take 2 (.one 3 (.one 4 (.one 5 (.done))))))) 6 [7] [s.nx + 1] (by kernel_rfl) (by kernel_rfl) fun K hK => ?_; refine dt (cj rTI (cj @h1 (cj @k0 (cj @k5 (cj @gb (cj @gv (cj @nl @zr2))))))) ?_; refine cont_go hnu ?_; rintro _ s1 ⟨rfl, rfl⟩; refine dt (cj rTI (cj @h1 (cj @k0 (cj @k5 (cj @gb (cj @gv (cj @nl @zr2))))))) ?_; refine hK _ _ ?_; clear hK K
          simp only [block_normal, loop_normal]
          refine ⟨q.length, by rw [List.length_cons]; omega, q, e2, V ++ [n], s'.nx + 1, rfl, ?_, ?_, ?_, ?_, hW2, hE, by rw [hV]; simp, fun w hw => hm w (List.mem_cons_of_mem _ hw)⟩
          all_goals (exact rn0 (cj @h1 (cj @k0 (cj @k2 @k5))))
          all_goals trivial
    rw [decide_eq_false q3]
    refine ifs ?_ ?_ <;> first | exact nope | intro hb
    refine go (cj rTI @e1) ?_
    have hw1 : waveWords (kw :: r) = if kw = sDc then decide (r.length = 1) else decide (r.length = 0) := by
      show (if kw = sDc then _ else if kw = sPulse then _ else if kw = sPwl then _ else if kw = sTable then _ else _) = _
      rw [if_neg q1, if_neg q2, if_neg q3]
    have hr1 : waveR (kw :: r) e = if kw = sDc then (⟨1, r.map numV, []⟩, numsE r e) else (⟨1, [numV kw], []⟩, numE kw e) := by
      show (if kw = sPulse then _ else if kw = sPwl then _ else if kw = sTable then _ else _) = _
      rw [if_neg q1, if_neg q2, if_neg q3]
    rw [hw1] at hv
    rw [hr1]
    clear hw1 hr1 e1 e2 e3 e4 q1 q2 q3
    by_cases q4 : kw = sDc
    · rw [if_pos q4, decide_eq_true_eq] at hv
      rw [if_pos q4, decide_eq_true q4]
      match r, hv with
      | [a], _ =>
        have ha : By a := hw a (by simp)
        have hnu := fun zc => num_ax ((s.push zc).set id (rdr [a] e)) id a [] e ha (St.set_same _ _ _) (by rw [St.nx_set, St.nx_push]; omega) (by decide)
        rw [show numsE [a] e = numE a e from rfl]
        generalize numE a e = e' at *
        unfold NM at hnu
        rw [show List.map numV [a] = [numV a] from rfl]
        generalize numV a = n at *
        refine ifs ?_ ?_ <;> first | exact nope | intro hb
        refine aw_reg fun K hK => ?_; refine rn rTI ?_; refine cont_go (hnx _) ?_; rintro _ s1 ⟨rfl, rfl⟩; refine rn rTI ?_; refine hK _ _ ?_; clear hK K
        refine go rTI ?_
        refine aw_reg fun K hK => ?_; refine rn (cj rTI @zr2) ?_; refine cont_go (hnu _) ?_; rintro _ s1 ⟨rfl, rfl⟩; refine rn (cj rTI @zr2) ?_; refine hK _ _ ?_; clear hK K
        rw [then_normal]
        refine aw_nil_box s.nx 2 1 _ (St.set_same _ _ _) rfl ?_
        refine go rTI ?_
        exact ⟨⟨1, [n], []⟩, s.nx + 1, s.nx + 1 + 1, fun _ => rfl, rfl, by omega, by omega, by omega, by rw [if_neg (by omega), if_neg (by omega), if_pos rfl]; rfl, by rw [if_neg (by omega), if_pos rfl]; rfl, fun k h1 h2 => by rw [if_neg (by omega), if_neg (by omega), if_neg (by omega), if_neg (by omega)]⟩
    · rw [if_neg q4, decide_eq_true_eq] at hv
      rw [if_neg q4, decide_eq_false q4]
      match r, hv with
      | [], _ =>
        have hnu := fun zc => num_ax (s.push zc) id kw [] e hk (by rw [St.push_ne _ _ _ (by omega)]; exact hi) (by rw [St.nx_push]; omega) (by decide)
        generalize numE kw e = e' at *
        unfold NM at hnu
        generalize numV kw = n at *
        refine ifs ?_ ?_ <;> first | exact nope | intro hb
        refine go rTI ?_
        refine aw_reg fun K hK => ?_; refine rn (cj rTI @zr2) ?_; refine cont_go (hnu _) ?_; rintro _ s1 ⟨rfl, rfl⟩; refine rn (cj rTI @zr2) ?_; refine hK _ _ ?_; clear hK K
        rw [then_normal]
        refine aw_nil_box s.nx 2 1 _ (St.set_same _ _ _) rfl ?_
        refine go rTI ?_
        exact ⟨⟨1, [n], []⟩, s.nx + 1, s.nx + 1 + 1, fun _ => rfl, rfl, by omega, by omega, by omega, by rw [if_neg (by omega), if_neg (by omega), if_pos rfl]; rfl, by rw [if_neg (by omega), if_pos rfl]; rfl, fun k h1 h2 => by rw [if_neg (by omega), if_neg (by omega), if_neg (by omega), if_neg (by omega)]⟩
end Go.Proofs.YtfjelkjlfcafgaaGreatDoor.CardG
end
section
/- Cards: wave.Valid. -/
namespace Go.Proofs.YtfjelkjlfcafgaaGreatDoor.CardH
open Go Go.RowKit Go.Proofs.YtfjelkjlfcafgaaGreatDoor.Ax Go.Proofs.YtfjelkjlfcafgaaGreatDoor.Ti Go.Proofs.YtfjelkjlfcafgaaGreatDoor.NumS Go.Proofs.YtfjelkjlfcafgaaGreatDoor.NumT Go.Proofs.YtfjelkjlfcafgaaGreatDoor.CardS Go.Proofs.YtfjelkjlfcafgaaGreatDoor.CardP Go.Proofs.YtfjelkjlfcafgaaGreatDoor.CardA Go.Proofs.YtfjelkjlfcafgaaGreatDoor.CardB Go.Proofs.YtfjelkjlfcafgaaGreatDoor.CardC Go.Proofs.YtfjelkjlfcafgaaGreatDoor.CardD Go.Proofs.YtfjelkjlfcafgaaGreatDoor.CardE Go.Proofs.YtfjelkjlfcafgaaGreatDoor.CardF Go.Proofs.YtfjelkjlfcafgaaGreatDoor.CardG
open Go.Proofs.YtfjelkjlfcafgaaGreatDoor.NumA (NM valid_ax)
open Go.Proofs.YtfjelkjlfcafgaaGreatDoor.RefM (validN)
set_option linter.unusedSimpArgs false
set_option linter.unusedVariables false
set_option maxRecDepth 4000
set_option maxHeartbeats 2000000
theorem rTI : type_of% (cj @ti3 (cj @ti4 (cj @ti9 (cj @ti5 (cj @ti36 (cj @ti63 (cj @ti62 (cj @ti24 (cj @ti65 (cj @Nat.zero_add (cj @tz0 (cj @tz1 (cj @tz3 (cj @Nat.mul_one @Int.toNat_natCast)))))))))))))) := cj @ti3 (cj @ti4 (cj @ti9 (cj @ti5 (cj @ti36 (cj @ti63 (cj @ti62 (cj @ti24 (cj @ti65 (cj @Nat.zero_add (cj @tz0 (cj @tz1 (cj @tz3 (cj @Nat.mul_one @Int.toNat_natCast)))))))))))))
def okS (s : Int) : Bool := decide (0 ≤ s ∧ s ≤ 1000000000)
def kindOk (kd : Int) (V : List Num) (S : List Int) : Bool :=
  if kd = 1 then decide (V.length = 1 ∧ S.length = 0)
  else if kd = 2 then decide (V.length = 2 ∧ S.length = 5 ∧ 1 ≤ S.getD 4 0 ∧ S.getD 1 0 + S.getD 2 0 + S.getD 3 0 ≤ S.getD 4 0)
  else if kd = 3 then rising S && decide (V.length = S.length ∧ 1 ≤ V.length ∧ V.length ≤ 16)
  else if kd = 4 then decide (1 ≤ V.length ∧ V.length ≤ 16 ∧ S.length = 0) else false
theorem waveOk_eq (kd : Int) (V : List Num) (S : List Int) : waveOk ⟨kd, V, S⟩ = (V.all valid && S.all okS && kindOk kd V S) := rfl
theorem rising_of : ∀ (S : List Int), (∀ i, i + 1 < S.length → S.getD i 0 < S.getD (i + 1) 0) → rising S = true
  | [], _ => rfl
  | [_], _ => rfl
  | a :: b :: r, h => by
    have h0 := h 0 (by simp)
    have h1 := rising_of (b :: r) fun i hi => by
      have := h (i + 1) (by simp at hi ⊢; omega)
      simpa using this
    show (decide (a < b) && rising (b :: r)) = true
    rw [h1, decide_eq_true (by simpa using h0)]
    rfl
theorem rising_not : ∀ (S : List Int) (i : Nat), i + 1 < S.length → ¬ S.getD i 0 < S.getD (i + 1) 0 → rising S = false
  | [], i, h, _ => by simp at h
  | [_], i, h, _ => by simp at h
  | a :: b :: r, 0, h, hn => by
    show (decide (a < b) && rising (b :: r)) = false
    rw [decide_eq_false (by simpa using hn)]
    rfl
  | a :: b :: r, i + 1, h, hn => by
    show (decide (a < b) && rising (b :: r)) = false
    rw [rising_not (b :: r) i (by simp at h ⊢; omega) (by simpa using hn), Bool.and_false]
theorem wvalid_ax (w : Wv) (hv : w.vals.length ≤ 9223372036854775807) (hs : w.steps.length ≤ 9223372036854775807) : PCall Tryz.prog 96 [WA w] (.v (.bool (waveOk w))) := by
  refine pcall_of fun s => ?_
  obtain ⟨kd, V, S⟩ := w
  rw [waveOk_eq]
  simp only at hv hs
  unfold WA NV IV iv
  simp only
  refine acall_of Tryz.func96 rfl rfl (by simp [Tryz.ntmps96]) ?_; rw [Tryz.ntmps96, Tryz.results96]
  refine go rTI ?_
  refine aw_loop (fun m e s' => ∃ k, m = V.length - k ∧ k ≤ V.length ∧ e.n = 145 ∧ e.m 1 = .ptr s.nx 0 ∧ e.m 9 = .sl V.length (NC V) ∧ e.m 10 = .v (.int .i64 V.length) ∧ e.m 11 = .v (.int .i64 (k : Nat)) ∧ (V.take k).all valid = true ∧ s.nx < s'.nx ∧ s'.get s.nx = some [.v (.int .i64 kd), .sl V.length (NC V), .sl S.length (IL S)] ∧ ∀ i, i < s.nx → s'.get i = s.get i) V.length ?_ ?_
  · refine ⟨0, by omega, by omega, ?_⟩
    (repeat' refine And.intro ?_ ?_) <;> first | exact rfl | exact fnz rTI | skip
    exact Nat.lt_succ_self _
  · rintro m e s' ⟨k, rfl, hk, h1, k1, k9, k10, k11, ha, hn, gb, fr⟩
    by_cases hk2 : k < V.length
    · have f1 := nc_at V k hk2
      have f2 : 2 ≤ ((NC V).drop (k * 2)).length := by rw [List.length_drop, nc_len]; omega
      have hp : PCall Tryz.prog 18 [NM (V.getD k (0, 0)).1 (V.getD k (0, 0)).2] (.v (.bool (valid (V.getD k (0, 0))))) := valid_ax _ _
      have ht := take_all valid V (0, 0) k hk2 ha
      have hf := all_not valid V (0, 0) k hk2
      unfold iv at f1
      unfold NM at hp
      generalize V.getD k (0, 0) = n at *
      refine go (cj rTI (cj @h1 (cj @k10 @k11))) ?_
      refine ifs ?_ ?_ <;> first | exact nope | intro hb
      refine aw_skip ?_
      refine go (cj rTI (cj @h1 (cj @k9 (cj @k11 (cj @f1 @f2))))) ?_
      refine aw_reg fun K hK => ?_; refine rn rTI ?_; refine cont_pure hp ?_; refine rn rTI ?_; refine hK _ _ ?_; clear hK K
      cases hc : valid n with
      | false =>
        rw [hf hc]
        rw [Bool.false_and, Bool.false_and]
        refine ifs ?_ ?_ <;> first | exact nope | intro hb
        refine go (cj rTI @h1) ?_
        exact fun i hi => by rw [if_neg (by omega)]; exact fr i hi
      | true =>
        rw [hc] at ht
        refine ifs ?_ ?_ <;> first | exact nope | intro hb
        refine go (cj rTI (cj @h1 @k11)) ?_
        simp only [block_normal, loop_normal]
        refine ⟨V.length - (k + 1), by omega, k + 1, rfl, by omega, ?_, ?_, ?_, ?_, ?_, ht, ?_, ?_, ?_⟩
        all_goals ((first | refine rn (cj rTI (cj @h1 (cj @k1 (cj @k9 (cj @k10 @k11))))) ?_ | exact rn0 (cj rTI (cj @h1 (cj @k1 (cj @k9 (cj @k10 @k11)))))))
        all_goals (first | rfl | trivial | (rw [St.nx_push]; omega) | omega | (intro i hi; rw [if_neg (by omega)]; exact fr i hi))
    · obtain rfl : k = V.length := by omega
      rw [List.take_length] at ha
      rw [ha, Bool.true_and]
      refine go (cj rTI (cj @h1 (cj @k1 (cj @k10 (cj @k11 @gb))))) ?_
      refine ifs ?_ ?_ <;> first | exact nope | intro hb
      refine go (cj rTI (cj @h1 (cj @k1 (cj @k10 (cj @k11 @gb))))) ?_
      clear ha hk hk2 k9 k10 k11
      refine aw_loop (fun m e' s'' => ∃ k, m = S.length - k ∧ k ≤ S.length ∧ e'.n = 145 ∧ e'.m 1 = .ptr s.nx 0 ∧ e'.m 20 = .sl S.length (IL S) ∧ e'.m 21 = .v (.int .i64 S.length) ∧ e'.m 22 = .v (.int .i64 (k : Nat)) ∧ (S.take k).all okS = true ∧ s'' = s') S.length ?_ ?_
      · refine ⟨0, by omega, by omega, ?_⟩
        (repeat' refine And.intro ?_ ?_) <;> first | exact rfl | exact fnz (cj rTI (cj @h1 @k1)) | skip
      · clear h1 k1
        rintro m e' s'' ⟨k, rfl, hk, h1, k1, k20, k21, k22, ha, rfl⟩
        by_cases hk2 : k < S.length
        · have f1 := hd_IL S k hk2
          have ht := take_all okS S 0 k hk2 ha
          have hf := all_not okS S 0 k hk2
          unfold iv at f1
          generalize S.getD k 0 = n at *
          have hn2 : okS n = (decide (0 ≤ n) && decide (n ≤ 1000000000)) := by unfold okS; rw [Bool.decide_and]
          refine go (cj rTI (cj @h1 (cj @k21 @k22))) ?_
          refine ifs ?_ ?_ <;> first | exact nope | intro hb
          refine aw_skip ?_
          by_cases c1 : 0 ≤ n
          · by_cases c2 : n ≤ 1000000000
            · refine go (cj rTI (cj @h1 (cj @k20 (cj @k22 @f1)))) ?_
              refine ifs ?_ ?_ <;> first | exact nope | intro hb
              rw [hn2, decide_eq_true c1, decide_eq_true c2] at ht
              refine go (cj rTI (cj @h1 @k22)) ?_
              simp only [block_normal, loop_normal]
              refine ⟨S.length - (k + 1), by omega, k + 1, rfl, by omega, ?_, ?_, ?_, ?_, ?_, ht, trivial⟩
              all_goals ((first | refine rn (cj rTI (cj @h1 (cj @k1 (cj @k20 (cj @k21 @k22))))) ?_ | exact rn0 (cj rTI (cj @h1 (cj @k1 (cj @k20 (cj @k21 @k22)))))))
              all_goals rfl
            · rw [hf (by rw [hn2, decide_eq_false c2, Bool.and_false]), Bool.false_and]
              refine go (cj rTI (cj @h1 (cj @k20 (cj @k22 @f1)))) ?_
              refine ifs ?_ ?_ <;> first | exact nope | intro hb
              refine go (cj rTI @h1) ?_
              exact fr
          · rw [hf (by rw [hn2, decide_eq_false c1, Bool.false_and]), Bool.false_and]
            refine go (cj rTI (cj @h1 (cj @k20 (cj @k22 @f1)))) ?_
            refine ifs ?_ ?_ <;> first | exact nope | intro hb
            refine go (cj rTI @h1) ?_
            exact fr
        · obtain rfl : k = S.length := by omega
          rw [List.take_length] at ha
          rw [ha, Bool.true_and]
          clear hk hk2
          unfold kindOk
          by_cases q1 : kd = 1
          · rw [if_pos q1]
            subst q1
            by_cases c1 : V.length = 1
            · by_cases c2 : S.length = 0
              · rw [decide_eq_true (by exact ⟨c1, c2⟩)]
                refine go (cj rTI (cj @h1 (cj @k1 (cj @k21 (cj @k22 @gb))))) ?_
                refine ifs ?_ ?_ <;> first | exact nope | intro hb
                refine go (cj rTI (cj @h1 (cj @k1 (cj @k21 (cj @k22 @gb))))) ?_
                refine ifs ?_ ?_ <;> first | exact nope | intro hb
                refine go (cj rTI (cj @h1 (cj @k1 @gb))) ?_
                exact fr
              · rw [decide_eq_false (fun x => c2 x.2)]
                refine go (cj rTI (cj @h1 (cj @k1 (cj @k21 (cj @k22 @gb))))) ?_
                refine ifs ?_ ?_ <;> first | exact nope | intro hb
                refine go (cj rTI (cj @h1 (cj @k1 (cj @k21 (cj @k22 @gb))))) ?_
                refine ifs ?_ ?_ <;> first | exact nope | intro hb
                refine go (cj rTI (cj @h1 (cj @k1 @gb))) ?_
                exact fr
            · rw [decide_eq_false (fun x => c1 x.1)]
              refine go (cj rTI (cj @h1 (cj @k1 (cj @k21 (cj @k22 @gb))))) ?_
              refine ifs ?_ ?_ <;> first | exact nope | intro hb
              refine go (cj rTI (cj @h1 (cj @k1 (cj @k21 (cj @k22 @gb))))) ?_
              refine ifs ?_ ?_ <;> first | exact nope | intro hb
              refine go (cj rTI (cj @h1 (cj @k1 @gb))) ?_
              exact fr
          rw [if_neg q1]
          by_cases q2 : kd = 2
          · rw [if_pos q2]
            subst q2
            refine go (cj rTI (cj @h1 (cj @k1 (cj @k21 (cj @k22 @gb))))) ?_
            refine ifs ?_ ?_ <;> first | exact nope | intro hb
            refine go (cj rTI (cj @h1 (cj @k1 (cj @k21 (cj @k22 @gb))))) ?_
            refine ifs ?_ ?_ <;> first | exact nope | intro hb
            refine go (cj rTI @h1) ?_
            refine ifs ?_ ?_ <;> first | exact nope | intro hb
            by_cases c1 : V.length = 2
            · by_cases c2 : S.length = 5
              · match S, c2 with
                | [a, b, c, d, f], _ =>
                  have hb5 : ∀ x ∈ [a, b, c, d, f], 0 ≤ x ∧ x ≤ 1000000000 := fun x hx => by
                    have := List.all_eq_true.1 ha x hx
                    unfold okS at this
                    exact of_decide_eq_true this
                  have bb := hb5 b (by simp)
                  have bc := hb5 c (by simp)
                  have bd := hb5 d (by simp)
                  have bf := hb5 f (by simp)
                  have e5 : ([a, b, c, d, f].length : Int) = 5 := rfl
                  have n5 : [a, b, c, d, f].length = 5 := rfl
                  have t1 : Int.toNat 4 = 4 := rfl
                  have t2 : Int.toNat 2 = 2 := rfl
                  have i4 : ((IL [a, b, c, d, f]).drop 4).head? = some (.v (.int .i64 f)) := rfl
                  have i1 : ((IL [a, b, c, d, f]).drop 1).head? = some (.v (.int .i64 b)) := rfl
                  have i2 : ((IL [a, b, c, d, f]).drop 2).head? = some (.v (.int .i64 c)) := rfl
                  have i3 : ((IL [a, b, c, d, f]).drop 3).head? = some (.v (.int .i64 d)) := rfl
                  have hd5 : decide (V.length = 2 ∧ [a, b, c, d, f].length = 5 ∧ 1 ≤ [a, b, c, d, f].getD 4 0 ∧ [a, b, c, d, f].getD 1 0 + [a, b, c, d, f].getD 2 0 + [a, b, c, d, f].getD 3 0 ≤ [a, b, c, d, f].getD 4 0) = (decide (1 ≤ f) && decide (b + c + d ≤ f)) := by
                    rw [Bool.eq_iff_iff]
                    simp [c1]
                  rw [hd5]
                  clear hb5 hd5 ha
                  generalize [a, b, c, d, f] = S' at *
                  refine aw_seq ?_
                  by_cases c3 : 1 ≤ f
                  · rw [decide_eq_true c3, Bool.true_and]
                    by_cases c4 : b + c + d ≤ f
                    · rw [decide_eq_true c4]
                      refine aw_drw (.take 0 (.take 1 (.take 2 (.take 3 (.take 4 (.take 5 (.take 6 (.take 7 (.take 8 (.take 9 (.take 10 (.take 11 (.take 12 (.take 13 (.take 14 (.take 15 (.take 16 (.take 17 (.take 18 (.take 19 (.take 20 (.take 21 (.take 22 (.take 23 (.take 24 (.take 25 (.take 26 (.take 27 (.take 28 (.take 29 (.take 30 (.take 31 (.take 32 (.take 33 (.take 34 (.take 35 (.take 36 (.take 37 (.take 38 (.done)))))))))))))))))))))))))))))))))))))))) [s.nx] (by kernel_rfl) (by kernel_rfl) fun K hK => ?_; refine dr (cj rTI (cj @h1 (cj @k1 (cj @gb (cj @c1 (cj @e5 (cj @n5 (cj @t1 (cj @t2 (cj @i1 (cj @i2 (cj @i3 @i4)))))))))))) ?_; refine hK _ _ ?_; clear hK K
                      refine go (cj rTI @h1) ?_
                      exact fr
                    · rw [decide_eq_false c4]
                      refine aw_drw (.take 0 (.take 1 (.take 2 (.take 3 (.take 4 (.take 5 (.take 6 (.take 7 (.take 8 (.take 9 (.take 10 (.take 11 (.take 12 (.take 13 (.take 14 (.take 15 (.take 16 (.take 17 (.take 18 (.take 19 (.take 20 (.take 21 (.take 22 (.take 23 (.take 24 (.take 25 (.take 26 (.take 27 (.take 28 (.take 29 (.take 30 (.take 31 (.take 32 (.take 33 (.take 34 (.take 35 (.take 36 (.take 37 (.take 38 (.done)))))))))))))))))))))))))))))))))))))))) [s.nx] (by kernel_rfl) (by kernel_rfl) fun K hK => ?_; refine dr (cj rTI (cj @h1 (cj @k1 (cj @gb (cj @c1 (cj @e5 (cj @n5 (cj @t1 (cj @t2 (cj @i1 (cj @i2 (cj @i3 @i4)))))))))))) ?_; refine hK _ _ ?_; clear hK K
                      refine go (cj rTI @h1) ?_
                      exact fr
                  · rw [decide_eq_false c3, Bool.false_and]
                    refine aw_drw (.take 0 (.take 1 (.take 2 (.take 3 (.take 4 (.take 5 (.take 6 (.take 7 (.take 8 (.take 9 (.take 10 (.take 11 (.take 12 (.take 13 (.take 14 (.take 15 (.take 16 (.take 17 (.take 18 (.take 19 (.take 20 (.take 21 (.take 22 (.take 23 (.take 24 (.take 25 (.take 26 (.take 27 (.take 28 (.take 29 (.take 30 (.take 31 (.take 32 (.take 33 (.take 34 (.take 35 (.take 36 (.take 37 (.take 38 (.done)))))))))))))))))))))))))))))))))))))))) [s.nx] (by kernel_rfl) (by kernel_rfl) fun K hK => ?_; refine dr (cj rTI (cj @h1 (cj @k1 (cj @gb (cj @c1 (cj @e5 (cj @n5 (cj @t1 (cj @t2 (cj @i1 (cj @i2 (cj @i3 @i4)))))))))))) ?_; refine hK _ _ ?_; clear hK K
                    refine go (cj rTI @h1) ?_
                    exact fr
              · rw [decide_eq_false (fun x => c2 x.2.1)]
                refine aw_seq ?_
                refine aw_drw (.take 0 (.take 1 (.take 2 (.take 3 (.take 4 (.take 5 (.take 6 (.take 7 (.take 8 (.take 9 (.take 10 (.take 11 (.take 12 (.take 13 (.take 14 (.take 15 (.take 16 (.take 17 (.take 18 (.take 19 (.take 20 (.take 21 (.take 22 (.take 23 (.take 24 (.take 25 (.take 26 (.take 27 (.take 28 (.take 29 (.take 30 (.take 31 (.take 32 (.take 33 (.take 34 (.take 35 (.take 36 (.take 37 (.take 38 (.done)))))))))))))))))))))))))))))))))))))))) [s.nx] (by kernel_rfl) (by kernel_rfl) fun K hK => ?_; refine dr (cj rTI (cj @h1 (cj @k1 (cj @gb @c1)))) ?_; refine hK _ _ ?_; clear hK K
                refine go (cj rTI @h1) ?_
                exact fr
            · rw [decide_eq_false (fun x => c1 x.1)]
              refine aw_seq ?_
              refine aw_drw (.take 0 (.take 1 (.take 2 (.take 3 (.take 4 (.take 5 (.take 6 (.take 7 (.take 8 (.take 9 (.take 10 (.take 11 (.take 12 (.take 13 (.take 14 (.take 15 (.take 16 (.take 17 (.take 18 (.take 19 (.take 20 (.take 21 (.take 22 (.take 23 (.take 24 (.take 25 (.take 26 (.take 27 (.take 28 (.take 29 (.take 30 (.take 31 (.take 32 (.take 33 (.take 34 (.take 35 (.take 36 (.take 37 (.take 38 (.done)))))))))))))))))))))))))))))))))))))))) [s.nx] (by kernel_rfl) (by kernel_rfl) fun K hK => ?_; refine dr (cj rTI (cj @h1 (cj @k1 @gb))) ?_; refine hK _ _ ?_; clear hK K
              refine go (cj rTI @h1) ?_
              exact fr
          rw [if_neg q2]
          by_cases q3 : kd = 3
          · rw [if_pos q3]
            subst q3
            refine go (cj rTI (cj @h1 (cj @k1 (cj @k21 (cj @k22 @gb))))) ?_
            refine ifs ?_ ?_ <;> first | exact nope | intro hb
            refine go (cj rTI (cj @h1 (cj @k1 (cj @k21 (cj @k22 @gb))))) ?_
            refine ifs ?_ ?_ <;> first | exact nope | intro hb
            refine go (cj rTI @h1) ?_
            refine ifs ?_ ?_ <;> first | exact nope | intro hb
            refine go (cj rTI @h1) ?_
            refine ifs ?_ ?_ <;> first | exact nope | intro hb
            refine go (cj rTI @h1) ?_
            refine aw_loop (fun m e2 s2 => ∃ j, m = S.length - j ∧ j ≤ S.length ∧ e2.n = 145 ∧ e2.m 1 = .ptr s.nx 0 ∧ e2.m 7 = .v (.int .i64 ((j : Int) + 1)) ∧ (∀ i, i < j → i + 1 < S.length → S.getD i 0 < S.getD (i + 1) 0) ∧ s2 = s'') S.length ?_ ?_
            · refine ⟨0, by omega, by omega, ?_, ?_, ?_, fun i hi => by omega, ?_⟩
              all_goals ((first | refine rn (cj rTI (cj @h1 @k1)) ?_ | exact rn0 (cj rTI (cj @h1 @k1))))
              all_goals (first | rfl | trivial)
            · clear h1 k1 k20 k21 k22
              rintro m e2 s2 ⟨j, rfl, hj, h1, k1, k7, hr, rfl⟩
              by_cases hj2 : j + 1 < S.length
              · have f1 := hd_IL S (j + 1) hj2
                have f2 := hd_IL S j (by omega)
                have hnr := rising_not S j hj2
                have hpr : S.getD j 0 < S.getD (j + 1) 0 → ∀ i, i < j + 1 → i + 1 < S.length → S.getD i 0 < S.getD (i + 1) 0 := fun h i hi hi2 => by
                  by_cases q : i = j
                  · subst q; exact h
                  · exact hr i (by omega) hi2
                clear hr
                unfold iv at f1 f2
                generalize S.getD (j + 1) 0 = x1 at *
                generalize S.getD j 0 = x0 at *
                have hj3 : (j : Int) + 1 - 1 = (j : Int) := by omega
                have hj4 : ((j : Int) + 1).toNat = j + 1 := by omega
                refine go (cj rTI (cj @h1 (cj @k1 (cj @k7 @gb)))) ?_
                refine ifs ?_ ?_ <;> first | exact nope | intro hb
                refine aw_skip ?_
                refine go rTI ?_
                refine aw_drw (.take 0 (.take 1 (.take 2 (.take 3 (.take 4 (.take 5 (.take 6 (.take 7 (.take 8 (.take 9 (.take 10 (.take 11 (.done))))))))))))) [s.nx] (by kernel_rfl) (by kernel_rfl) fun K hK => ?_; refine dr (cj rTI (cj @h1 (cj @k1 (cj @k7 (cj @gb (cj @f1 (cj @f2 (cj @hj3 @hj4)))))))) ?_; refine hK _ _ ?_; clear hK K
                by_cases c : x1 ≤ x0
                · refine ifs ?_ ?_ <;> first | exact nope | intro hb
                  rw [hnr (by omega), Bool.false_and]
                  refine go (cj rTI @h1) ?_
                  exact fr
                · refine ifs ?_ ?_ <;> first | exact nope | intro hb
                  have hp2 := hpr (by omega)
                  refine go (cj rTI (cj @h1 @k7)) ?_
                  try simp only [block_normal, loop_normal]
                  refine ⟨S.length - (j + 1), by omega, j + 1, rfl, by omega, ?_, ?_, ?_, hp2, ?_⟩
                  all_goals ((first | refine rn (cj rTI (cj @h1 (cj @k1 @k7))) ?_ | exact rn0 (cj rTI (cj @h1 (cj @k1 @k7)))))
                  all_goals (first | rfl | trivial)
              · have hR : rising S = true := rising_of S fun i hi => hr i (by omega) hi
                rw [hR, Bool.true_and]
                refine go (cj rTI (cj @h1 (cj @k1 (cj @k7 @gb)))) ?_
                refine ifs ?_ ?_ <;> first | exact nope | intro hb
                have hb4 : decide (V.length = S.length ∧ 1 ≤ V.length ∧ V.length ≤ 16) = (decide (V.length = S.length) && (decide (1 ≤ V.length) && decide (V.length ≤ 16))) := by rw [Bool.decide_and, Bool.decide_and]
                rw [hb4]
                rcases (by omega : ¬ V.length = S.length ∨ (V.length = S.length ∧ V.length < 1) ∨ (V.length = S.length ∧ 16 < V.length) ∨ (V.length = S.length ∧ 1 ≤ V.length ∧ V.length ≤ 16)) with c | ⟨c1, c2⟩ | ⟨c1, c2⟩ | ⟨c1, c2, c3⟩
                · rw [decide_eq_false c, Bool.false_and]
                  refine go (cj rTI (cj @h1 (cj @k1 @gb))) ?_
                  exact fr
                · rw [decide_eq_true c1, decide_eq_false (by omega : ¬ 1 ≤ V.length), Bool.false_and, Bool.and_false]
                  refine go (cj rTI (cj @h1 (cj @k1 @gb))) ?_
                  exact fr
                · rw [decide_eq_true c1, decide_eq_false (by omega : ¬ V.length ≤ 16), Bool.and_false, Bool.and_false]
                  refine go (cj rTI (cj @h1 (cj @k1 @gb))) ?_
                  exact fr
                · rw [decide_eq_true c1, decide_eq_true c2, decide_eq_true c3]
                  refine go (cj rTI (cj @h1 (cj @k1 @gb))) ?_
                  exact fr
          rw [if_neg q3]
          by_cases q4 : kd = 4
          · rw [if_pos q4]
            subst q4
            have hb4 : decide (1 ≤ V.length ∧ V.length ≤ 16 ∧ S.length = 0) = (decide (1 ≤ V.length) && (decide (V.length ≤ 16) && decide (S.length = 0))) := by rw [Bool.decide_and, Bool.decide_and]
            rw [hb4]
            rcases (by omega : V.length < 1 ∨ 16 < V.length ∨ (1 ≤ V.length ∧ V.length ≤ 16 ∧ S.length = 0) ∨ (1 ≤ V.length ∧ V.length ≤ 16 ∧ ¬ S.length = 0)) with c | c | ⟨c1, c2, c3⟩ | ⟨c1, c2, c3⟩
            · rw [decide_eq_false (by omega : ¬ 1 ≤ V.length), Bool.false_and]
              refine go (cj rTI (cj @h1 (cj @k1 (cj @k21 (cj @k22 @gb))))) ?_
              refine ifs ?_ ?_ <;> first | exact nope | intro hb
              refine go (cj rTI (cj @h1 (cj @k1 (cj @k21 (cj @k22 @gb))))) ?_
              refine ifs ?_ ?_ <;> first | exact nope | intro hb
              refine go (cj rTI @h1) ?_
              refine ifs ?_ ?_ <;> first | exact nope | intro hb
              refine go (cj rTI @h1) ?_
              refine ifs ?_ ?_ <;> first | exact nope | intro hb
              refine go (cj rTI @h1) ?_
              refine ifs ?_ ?_ <;> first | exact nope | intro hb
              refine go (cj rTI (cj @h1 (cj @k1 @gb))) ?_
              exact fr
            · rw [decide_eq_false (by omega : ¬ V.length ≤ 16), Bool.false_and, Bool.and_false]
              refine go (cj rTI (cj @h1 (cj @k1 (cj @k21 (cj @k22 @gb))))) ?_
              refine ifs ?_ ?_ <;> first | exact nope | intro hb
              refine go (cj rTI (cj @h1 (cj @k1 (cj @k21 (cj @k22 @gb))))) ?_
              refine ifs ?_ ?_ <;> first | exact nope | intro hb
              refine go (cj rTI @h1) ?_
              refine ifs ?_ ?_ <;> first | exact nope | intro hb
              refine go (cj rTI @h1) ?_
              refine ifs ?_ ?_ <;> first | exact nope | intro hb
              refine go (cj rTI @h1) ?_
              refine ifs ?_ ?_ <;> first | exact nope | intro hb
              refine go (cj rTI (cj @h1 (cj @k1 @gb))) ?_
              exact fr
            · rw [decide_eq_true c1, decide_eq_true c2, decide_eq_true c3]
              refine go (cj rTI (cj @h1 (cj @k1 (cj @k21 (cj @k22 @gb))))) ?_
              refine ifs ?_ ?_ <;> first | exact nope | intro hb
              refine go (cj rTI (cj @h1 (cj @k1 (cj @k21 (cj @k22 @gb))))) ?_
              refine ifs ?_ ?_ <;> first | exact nope | intro hb
              refine go (cj rTI @h1) ?_
              refine ifs ?_ ?_ <;> first | exact nope | intro hb
              refine go (cj rTI @h1) ?_
              refine ifs ?_ ?_ <;> first | exact nope | intro hb
              refine go (cj rTI @h1) ?_
              refine ifs ?_ ?_ <;> first | exact nope | intro hb
              refine go (cj rTI (cj @h1 (cj @k1 @gb))) ?_
              exact fr
            · rw [decide_eq_true c1, decide_eq_true c2, decide_eq_false c3]
              refine go (cj rTI (cj @h1 (cj @k1 (cj @k21 (cj @k22 @gb))))) ?_
              refine ifs ?_ ?_ <;> first | exact nope | intro hb
              refine go (cj rTI (cj @h1 (cj @k1 (cj @k21 (cj @k22 @gb))))) ?_
              refine ifs ?_ ?_ <;> first | exact nope | intro hb
              refine go (cj rTI @h1) ?_
              refine ifs ?_ ?_ <;> first | exact nope | intro hb
              refine go (cj rTI @h1) ?_
              refine ifs ?_ ?_ <;> first | exact nope | intro hb
              refine go (cj rTI @h1) ?_
              refine ifs ?_ ?_ <;> first | exact nope | intro hb
              refine go (cj rTI (cj @h1 (cj @k1 @gb))) ?_
              exact fr
          rw [if_neg q4]
          refine go (cj rTI (cj @h1 (cj @k1 (cj @k21 (cj @k22 @gb))))) ?_
          refine ifs ?_ ?_ <;> first | exact nope | intro hb
          refine go (cj rTI (cj @h1 (cj @k1 (cj @k21 (cj @k22 @gb))))) ?_
          refine ifs ?_ ?_ <;> first | exact nope | intro hb
          refine go (cj rTI @h1) ?_
          refine ifs ?_ ?_ <;> first | exact nope | intro hb
          refine go (cj rTI @h1) ?_
          refine ifs ?_ ?_ <;> first | exact nope | intro hb
          refine go (cj rTI @h1) ?_
          refine ifs ?_ ?_ <;> first | exact nope | intro hb
          refine go (cj rTI @h1) ?_
          exact fr
end Go.Proofs.YtfjelkjlfcafgaaGreatDoor.CardH
end
section
/- Cards: Read. -/
namespace Go.Proofs.YtfjelkjlfcafgaaGreatDoor.CardI
open Go Go.RowKit Go.Proofs.YtfjelkjlfcafgaaGreatDoor.Ax Go.Proofs.YtfjelkjlfcafgaaGreatDoor.Ti Go.Proofs.YtfjelkjlfcafgaaGreatDoor.NumS Go.Proofs.YtfjelkjlfcafgaaGreatDoor.NumT Go.Proofs.YtfjelkjlfcafgaaGreatDoor.CardS Go.Proofs.YtfjelkjlfcafgaaGreatDoor.CardP Go.Proofs.YtfjelkjlfcafgaaGreatDoor.CardA Go.Proofs.YtfjelkjlfcafgaaGreatDoor.CardB Go.Proofs.YtfjelkjlfcafgaaGreatDoor.CardC Go.Proofs.YtfjelkjlfcafgaaGreatDoor.CardD Go.Proofs.YtfjelkjlfcafgaaGreatDoor.CardE Go.Proofs.YtfjelkjlfcafgaaGreatDoor.CardF Go.Proofs.YtfjelkjlfcafgaaGreatDoor.CardG Go.Proofs.YtfjelkjlfcafgaaGreatDoor.CardH
open Go.Proofs.YtfjelkjlfcafgaaGreatDoor.NumA (NM)
set_option linter.unusedSimpArgs false
set_option linter.unusedVariables false
set_option maxRecDepth 4000
set_option maxHeartbeats 2000000
theorem rTI : type_of% (cj @ti3 (cj @ti4 (cj @ti9 (cj @ti5 (cj @ti2 (cj @ti36 (cj @ti63 (cj @ti62 (cj @ti24 (cj @ti65 (cj @ti67 (cj @ti25 (cj @ti144 (cj @ti146 (cj @Nat.zero_add (cj @tz0 (cj @tz1 (cj @tz3 (cj @Nat.mul_one @Int.toNat_natCast))))))))))))))))))) := cj @ti3 (cj @ti4 (cj @ti9 (cj @ti5 (cj @ti2 (cj @ti36 (cj @ti63 (cj @ti62 (cj @ti24 (cj @ti65 (cj @ti67 (cj @ti25 (cj @ti144 (cj @ti146 (cj @Nat.zero_add (cj @tz0 (cj @tz1 (cj @tz3 (cj @Nat.mul_one @Int.toNat_natCast))))))))))))))))))
def CA (c : Crd) : AV := .ag [SV c.name, TV c.nodes, SV c.ref, iv c.value.1, iv c.value.2, iv c.wave.kind, NV c.wave.vals, IV c.wave.steps]
def RA (p : Crd × Int) : AV := .tp [CA p.1, iv p.2]
theorem ca_idf (c : Crd) : idf (CA c) = true := by
  show (true && (idf (TV c.nodes) && (true && (true && (true && (true && (idf.idfL (NC c.wave.vals) && (idf.idfL (IL c.wave.steps) && true)))))))) = true
  rw [nc_idf, il_idf, tv_idf]
  rfl
theorem ra_idf (p : Crd × Int) : idf (RA p) = true := by
  show (idf (CA p.1) && (true && true)) = true
  rw [ca_idf]
  rfl
def cz : List AV := [.v (.string ByteArray.empty), nilS, .v (.string ByteArray.empty), .v (.int .i64 0), .v (.int .i64 0), .v (.int .i64 0), nilS, nilS]
theorem ra_err (e : Int) : Le (.tp [.ag cz, .v (.int .i64 e)]) (RA (crd0, e)) := by
  refine Le.tp rfl fun j x y hx hy => ?_
  match j with
  | 0 =>
    simp at hx hy; subst hx hy
    refine Le.ag rfl fun j x y hx hy => ?_
    match j with
    | 0 => simp [cz] at hx hy; subst hx hy; exact Le.refl _
    | 1 => simp [cz, nilS] at hx hy; subst hx hy; exact Le.nil 0 0 rfl
    | 2 => simp [cz] at hx hy; subst hx hy; exact Le.refl _
    | 3 => simp [cz] at hx hy; subst hx hy; exact Le.refl _
    | 4 => simp [cz] at hx hy; subst hx hy; exact Le.refl _
    | 5 => simp [cz] at hx hy; subst hx hy; exact Le.refl _
    | 6 => simp [cz, nilS] at hx hy; subst hx hy; exact Le.nil 0 0 rfl
    | 7 => simp [cz, nilS] at hx hy; subst hx hy; exact Le.nil 0 0 rfl
    | j + 8 => simp [cz] at hx
  | 1 => simp at hx hy; subst hx hy; exact Le.refl _
  | j + 2 => simp at hx
theorem ra_le (c : Crd) (X Y : AV) (hX : Le X (NV c.wave.vals)) (hY : Le Y (IV c.wave.steps)) :
    Le (.tp [.ag [SV c.name, TV c.nodes, SV c.ref, .v (.int .i64 c.value.1), .v (.int .i64 c.value.2), .v (.int .i64 c.wave.kind), X, Y], .v (.int .i64 0)]) (RA (c, 0)) := by
  refine Le.tp rfl fun j x y hx hy => ?_
  match j with
  | 0 =>
    simp at hx hy; subst hx hy
    refine Le.ag rfl fun j x y hx hy => ?_
    match j with
    | 0 => simp at hx hy; subst hx hy; exact Le.refl _
    | 1 => simp at hx hy; subst hx hy; exact Le.refl _
    | 2 => simp at hx hy; subst hx hy; exact Le.refl _
    | 3 => simp at hx hy; subst hx hy; exact Le.refl _
    | 4 => simp at hx hy; subst hx hy; exact Le.refl _
    | 5 => simp at hx hy; subst hx hy; exact Le.refl _
    | 6 => simp at hx hy; subst hx hy; exact hX
    | 7 => simp at hx hy; subst hx hy; exact hY
    | j + 8 => simp at hx
  | 1 => simp at hx hy; subst hx hy; exact Le.refl _
  | j + 2 => simp at hx
theorem odds_len : ∀ (l : List Str), (odds l).length ≤ l.length
  | [] => Nat.le_refl _
  | [_] => Nat.zero_le _
  | _ :: b :: r => by
    show (b :: odds r).length ≤ _
    have := odds_len r
    rw [List.length_cons, List.length_cons, List.length_cons]
    omega
theorem evens_len : ∀ (l : List Str), (evens l).length ≤ l.length
  | [] => Nat.le_refl _
  | [_] => Nat.le_refl _
  | a :: _ :: r => by
    show (a :: evens r).length ≤ _
    have := evens_len r
    rw [List.length_cons, List.length_cons, List.length_cons]
    omega
theorem wave_len (ws : List Str) (e : Int) : (waveR ws e).1.vals.length ≤ ws.length + 1 ∧ (waveR ws e).1.steps.length ≤ ws.length := by
  cases ws with
  | nil => exact ⟨Nat.zero_le _, Nat.le_refl _⟩
  | cons k r =>
    have h1 := odds_len r
    have h2 := evens_len r
    unfold waveR
    simp only
    (repeat' split) <;> simp only [List.length_map, List.length_take, List.length_drop, List.length_cons, List.length_nil] <;> omega
structure CI (s s' : St) (c : List AV) : Prop where
  z : s'.get s.nx = some cz
  c : s'.get (s.nx + 1) = some c
  n : s.nx + 2 ≤ s'.nx
  fr : ∀ i, i < s.nx → s'.get i = s.get i
theorem ci_new (s : St) (z c : List AV) : CI s (((s.push cz).push z).set (s.nx + 1) c) c := by
  refine ⟨?_, St.set_same _ _ _, Nat.le_refl _, fun i hi => ?_⟩
  · rw [St.set_ne _ _ _ _ (by omega), St.push_ne (s.push cz) _ _ (by rw [St.nx_push]; omega)]
    exact St.push_same s cz
  · rw [St.set_ne _ _ _ _ (by omega), St.push_ne (s.push cz) _ _ (by rw [St.nx_push]; omega), St.push_ne s _ _ (by omega)]
structure CR (s s' : St) (b : Nat) (c : List AV) (ws : List Str) (e : Int) : Prop where
  z : s'.get s.nx = some cz
  c : s'.get (s.nx + 1) = some c
  r : s'.get b = some (rdr ws e)
  o : s.nx + 2 ≤ b ∧ b < s'.nx
  fr : ∀ i, i < s.nx → s'.get i = s.get i
theorem CR.of {s s' : St} {c : List AV} (h : CI s s' c) (ws : List Str) (e : Int) : CR s (s'.push (rdr ws e)) s'.nx c ws e := by
  have := h.n
  refine ⟨?_, ?_, St.push_same _ _, ⟨h.n, Nat.lt_succ_self _⟩, fun i hi => ?_⟩
  · rw [St.push_ne _ _ _ (by omega)]; exact h.z
  · rw [St.push_ne _ _ _ (by omega)]; exact h.c
  · rw [St.push_ne _ _ _ (by omega)]; exact h.fr i hi
theorem CR.upd {s s' : St} {b : Nat} {c : List AV} {ws : List Str} {e : Int} (h : CR s s' b c ws e) (ws2 : List Str) (e2 : Int) : CR s (s'.set b (rdr ws2 e2)) b c ws2 e2 := by
  have := h.o
  refine ⟨?_, ?_, St.set_same _ _ _, ⟨h.o.1, h.o.2⟩, fun i hi => ?_⟩
  · rw [St.set_ne _ _ _ _ (by omega)]; exact h.z
  · rw [St.set_ne _ _ _ _ (by omega)]; exact h.c
  · rw [St.set_ne _ _ _ _ (by omega)]; exact h.fr i hi
theorem CR.put {s s' : St} {b : Nat} {c : List AV} {ws : List Str} {e : Int} (h : CR s s' b c ws e) (c2 : List AV) : CR s (s'.set (s.nx + 1) c2) b c2 ws e := by
  have := h.o
  refine ⟨?_, St.set_same _ _ _, ?_, ⟨h.o.1, h.o.2⟩, fun i hi => ?_⟩
  · rw [St.set_ne _ _ _ _ (by omega)]; exact h.z
  · rw [St.set_ne _ _ _ _ (by omega)]; exact h.r
  · rw [St.set_ne _ _ _ _ (by omega)]; exact h.fr i hi
theorem shape_few (k : Nat) : (shapeK k).1 ≤ 4 := by unfold shapeK; (repeat' split) <;> decide
theorem counted_form (k : Nat) (w0 : Str) (r : List Str) (h : counted k (w0 :: r) = true) :
    (formOf k (r.length + 1)).1 + (if (formOf k (r.length + 1)).2.1 = true then 1 else 0) + (if (formOf k (r.length + 1)).2.2 = true then 1 else 0) ≤ r.length ∧ (formOf k (r.length + 1)).1 ≤ 8 ∧
    (srcC k = true → formOf k (r.length + 1) = (2, false, false) ∧ waveWords (r.drop 2) = true) := by
  unfold counted at h
  unfold formOf
  by_cases h1 : k = 120
  · rw [if_pos h1, decide_eq_true_eq, List.length_cons] at h
    rw [if_pos h1]
    refine ⟨by simp; omega, by simp; omega, fun hs => ?_⟩
    subst h1
    cases hs
  · rw [if_neg h1] at h
    rw [if_neg h1]
    by_cases h2 : k = 118 ∨ k = 105
    · rw [if_pos h2, Bool.and_eq_true, decide_eq_true_eq, List.length_cons] at h
      have hs : shapeK k = (2, false, false) := by rcases h2 with rfl | rfl <;> rfl
      rw [hs]
      exact ⟨by simp; omega, by decide, fun _ => ⟨rfl, h.2⟩⟩
    · rw [if_neg h2, decide_eq_true_eq, List.length_cons] at h
      have := shape_few k
      unfold want at h
      refine ⟨by omega, by omega, fun hs => ?_⟩
      unfold srcC at hs
      exact absurd (of_decide_eq_true hs) h2
theorem read_ax (ws : List Str) (hw : BL ws) (hwl : ∀ w ∈ ws, w.length ≤ 281474976710656) (hl : ws.length ≤ 10000) : PCall Tryz.prog 40 [TV ws] (RA (readC ws)) := by
  refine pcall_le fun s => ?_
  cases ws with
  | nil =>
    rw [show readC [] = (crd0, 70) from rfl]
    unfold TV
    refine acall_of Tryz.func40 rfl rfl (by simp [Tryz.ntmps40]) ?_; rw [Tryz.ntmps40, Tryz.results40]
    refine go rTI ?_
    refine ifs ?_ ?_ <;> first | exact nope | intro hb
    refine go rTI ?_
    exact ⟨ra_err 70, ra_idf _, fun i hi => if_neg (by omega)⟩
  | cons w0 r =>
    rw [show readC (w0 :: r) = readB w0 r (w0.getD 0 0) (formOf (w0.getD 0 0) (r.length + 1)) from rfl]
    have b0 : By w0 := hw w0 (List.mem_cons_self ..)
    have hd := dev_ax w0 b0 (by have := hwl w0 (List.mem_cons_self ..); omega)
    have hd0 : (SL (w0 :: r)).head? = some (.v (.string (bs w0))) := rfl
    have lS := bs_size w0
    have hg := bs_get w0 b0 0
    have hct := counted_ax (w0.getD 0 0) (w0 :: r) hw (by omega)
    have hz : (((r.length + 1 : Nat) : Int) == 0) = false := by simp; omega
    unfold TV SV at *
    rw [List.length_cons] at hct ⊢
    unfold readB
    cases hv : isDev w0 with
    | false =>
      rw [hv] at hd
      rw [Bool.false_and, if_neg Bool.false_ne_true]
      refine acall_of Tryz.func40 rfl rfl (by simp [Tryz.ntmps40]) ?_; rw [Tryz.ntmps40, Tryz.results40]
      refine go rTI ?_
      refine aw_reg fun K hK => ?_; refine rn (cj rTI (cj @hz @hd0)) ?_; refine cont_pure hd ?_; refine rn (cj rTI (cj @hz @hd0)) ?_; refine hK _ _ ?_; clear hK K
      refine ifs ?_ ?_ <;> first | exact nope | intro hb
      refine go rTI ?_
      exact ⟨ra_err 70, ra_idf _, fun i hi => if_neg (by omega)⟩
    | true =>
      rw [hv] at hd
      have hp : 0 < w0.length := name_pos w0 (by unfold isDev at hv; rw [Bool.and_eq_true] at hv; exact hv.1)
      cases hv2 : counted (w0.getD 0 0) (w0 :: r) with
      | false =>
        rw [hv2] at hct
        rw [Bool.and_false, if_neg Bool.false_ne_true]
        generalize w0.getD 0 0 = k at *
        refine acall_of Tryz.func40 rfl rfl (by simp [Tryz.ntmps40]) ?_; rw [Tryz.ntmps40, Tryz.results40]
        refine go rTI ?_
        refine aw_reg fun K hK => ?_; refine rn (cj rTI (cj @hz (cj @hd0 (cj @lS @hg)))) ?_; refine cont_pure hd ?_; refine rn (cj rTI (cj @hz (cj @hd0 (cj @lS @hg)))) ?_; refine cont_pure hct ?_; refine rn (cj rTI (cj @hz (cj @hd0 (cj @lS @hg)))) ?_; refine hK _ _ ?_; clear hK K
        refine ifs ?_ ?_ <;> first | exact nope | intro hb
        refine go rTI ?_
        exact ⟨ra_err 70, ra_idf _, fun i hi => if_neg (by omega)⟩
      | true =>
        rw [hv2] at hct
        rw [Bool.and_true, if_pos rfl]
        refine acall_of Tryz.func40 rfl rfl (by simp [Tryz.ntmps40]) ?_; rw [Tryz.ntmps40, Tryz.results40]
        refine go rTI ?_
        refine aw_reg fun K hK => ?_; refine rn (cj rTI (cj @hz (cj @hd0 (cj @lS @hg)))) ?_; refine cont_pure hd ?_; refine rn (cj rTI (cj @hz (cj @hd0 (cj @lS @hg)))) ?_; refine cont_pure hct ?_; refine rn (cj rTI (cj @hz (cj @hd0 (cj @lS @hg)))) ?_; refine hK _ _ ?_; clear hK K
        refine ifs ?_ ?_ <;> first | exact nope | intro hb
        refine go (cj rTI (cj @hd0 (cj @lS @hg))) ?_
        have hsh := shape_ax (w0.getD 0 0)
        unfold shapeV at hsh
        generalize w0.getD 0 0 = k at *
        refine aw_reg fun K hK => ?_; refine rn rTI ?_; refine cont_pure hsh ?_; refine rn rTI ?_; refine hK _ _ ?_; clear hK K
        refine go rTI ?_
        have hf : formOf k (r.length + 1) = if k = 120 then (r.length + 1 - 2, true, false) else shapeK k := rfl
        have h3 : k = 120 → 3 ≤ r.length + 1 := fun h => by
          unfold counted at hv2
          rw [if_pos h, decide_eq_true_eq] at hv2
          exact hv2.1
        have hcf := counted_form k w0 r hv2
        generalize formOf k (r.length + 1) = f at *
        obtain ⟨fa, fb, fc⟩ := f
        simp only at hcf
        refine aw_only (fun e' s' => e'.n = 151 ∧ e'.m 0 = .sl (r.length + 1) (SL (w0 :: r)) ∧ e'.m 2 = .ptr s.nx 0 ∧ e'.m 4 = .v (.int .u8 (k : Nat)) ∧ e'.m 5 = .v (.int .i64 (fa : Nat)) ∧ e'.m 6 = .v (.bool fb) ∧ e'.m 7 = .v (.bool fc) ∧ s' = s.push cz) ?_ ?_
        · by_cases hk : k = 120
          · rw [if_pos hk] at hf
            simp only [Prod.mk.injEq] at hf
            obtain ⟨rfl, rfl, rfl⟩ := hf
            subst hk
            have h4 := h3 rfl
            have e2 : ((r.length + 1 : Nat) : Int) - 2 = ((r.length + 1 - 2 : Nat) : Int) := by omega
            refine ifs ?_ ?_ <;> first | exact nope | intro hb
            refine go (cj rTI @e2) ?_
            (repeat' refine And.intro ?_ ?_) <;> first | exact rfl | exact fnz (cj rTI @e2) | skip
            all_goals (first | rfl | skip)
          · rw [if_neg hk] at hf
            rw [← hf] at hsh
            have hk2 : ¬ (k : Int) = 120 := by omega
            refine ifs ?_ ?_ <;> first | exact nope | intro hb
            refine go rTI ?_
            rw [← hf]
            exact ⟨rfl, rfl, rfl, rfl⟩
        · rintro e' s' ⟨h1, k0, k2, k4, k5, k6, k7, rfl⟩
          rw [then_normal]
          clear hsh hf h3 hd hct
          obtain ⟨c1, c2, c3⟩ := hcf
          have hcl3 := c1
          have hfa : fa ≤ r.length := by omega
          have hcl0 := clone_ax (r.take fa) (by rw [List.length_take]; omega)
          have htk : AV.sl fa ((SL r).take fa) = TV (r.take fa) := by
            unfold TV SL
            rw [← List.map_take, List.length_take, Nat.min_eq_left hfa]
          have hcl : PCall Tryz.prog 92 [AV.sl (fa + 1 - 1) ((SL r).take (fa + 1 - 1))] (.sl fa ((SL r).take fa)) := by
            rw [Nat.add_sub_cancel, htk]
            exact hcl0
          have hi1 : ((1 : Int) + (fa : Int)) = ((fa + 1 : Nat) : Int) := by omega
          have hdr : (SL (w0 :: r)).drop 1 = SL r := rfl
          refine aw_seq ?_
          refine aw_only (fun e2 s2 => e2.n = 151 ∧ e2.m 0 = .sl (r.length + 1) (SL (w0 :: r)) ∧ e2.m 2 = .ptr s.nx 0 ∧ e2.m 4 = .v (.int .u8 (k : Nat)) ∧ e2.m 5 = .v (.int .i64 (fa : Nat)) ∧ e2.m 6 = .v (.bool fb) ∧ e2.m 7 = .v (.bool fc) ∧ e2.m 8 = .ptr (s.nx + 1) 0 ∧ CI s s2 [.v (.string (bs w0)), .sl fa ((SL r).take fa), .v (.string ByteArray.empty), .v (.int .i64 0), .v (.int .i64 0), .v (.int .i64 0), nilS, nilS]) ?_ ?_
          · refine aw_drw (.take 0 (.take 1 (.take 2 (.take 3 (.take 4 (.take 5 (.take 6 (.two 7 (.take 8 (.one 9 (.one 10 (.done)))) 9 (.one 7 (.take 8 (.one 10 (.done)))))))))))) [] (by kernel_rfl) (by kernel_rfl) fun K hK => ?_; refine dr (cj rTI (cj @h1 (cj @k0 (cj @k5 (cj @hd0 (cj @hi1 @hdr)))))) ?_; refine ⟨cont_pure hcl ?_, cont_pure hcl ?_⟩; all_goals (refine dr (cj rTI (cj @h1 (cj @k0 (cj @k5 (cj @hd0 (cj @hi1 @hdr)))))) ?_; refine hK _ _ ⟨rfl, ?_, ?_, ?_, ?_, ?_, ?_, ?_, ?_, ?_⟩); all_goals (first | exact ci_new s _ _ | skip)
            all_goals (exact rn0 (cj @h1 (cj @k0 (cj @k2 (cj @k4 (cj @k5 (cj @k6 @k7)))))))
            all_goals trivial
          clear h1 k0 k2 k4 k5 k6 k7 hcl hcl0 hi1 hdr hd0 hg lS
          rintro e2 s2 ⟨h1, k0, k2, k4, k5, k6, k7, k8, hC⟩
          rw [then_normal]
          have gc := hC.c
          have gz : s2.get s.nx = some [.v (.string ByteArray.empty), .v (.slice none 0 0), .v (.string ByteArray.empty), .v (.int .i64 0), .v (.int .i64 0), .v (.int .i64 0), .v (.slice none 0 0), .v (.slice none 0 0)] := hC.z
          refine go (cj rTI (cj @h1 (cj @k8 @gc))) ?_
          refine aw_loop (fun m e3 s3 => ∃ j, m = fa - j ∧ j ≤ fa ∧ e3.n = 151 ∧ e3.m 0 = .sl (r.length + 1) (SL (w0 :: r)) ∧ e3.m 2 = .ptr s.nx 0 ∧ e3.m 4 = .v (.int .u8 (k : Nat)) ∧ e3.m 5 = .v (.int .i64 (fa : Nat)) ∧ e3.m 6 = .v (.bool fb) ∧ e3.m 7 = .v (.bool fc) ∧ e3.m 8 = .ptr (s.nx + 1) 0 ∧ e3.m 58 = .sl fa ((SL r).take fa) ∧ e3.m 59 = .v (.int .i64 (fa : Nat)) ∧ e3.m 60 = .v (.int .i64 (j : Nat)) ∧ ((r.take fa).take j).all isName = true ∧ s3 = s2) fa ?_ ?_
          · refine ⟨0, by omega, by omega, ?_⟩
            (repeat' refine And.intro ?_ ?_) <;> first | exact rfl | exact fnz (cj rTI (cj @h1 (cj @k0 (cj @k2 (cj @k4 (cj @k5 (cj @k6 (cj @k7 @k8)))))))) | skip
          · clear h1 k0 k2 k4 k5 k6 k7 k8
            rintro m e3 s3 ⟨j, rfl, hj, h1, k0, k2, k4, k5, k6, k7, k8, k58, k59, k60, ha, rfl⟩
            have hlt : (r.take fa).length = fa := by rw [List.length_take]; omega
            by_cases hj2 : j < fa
            · have f1 := hd_SL (r.take fa) j (by omega)
              rw [show SL (r.take fa) = (SL r).take fa from by unfold SL; rw [List.map_take]] at f1
              have hx : (r.take fa).getD j [] ∈ r := by
                rw [List.getD_eq_getElem?_getD, List.getElem?_eq_getElem (by omega)]
                exact List.mem_of_mem_take (List.getElem_mem _)
              have hnm := cname_ax ((r.take fa).getD j []) (hw _ (List.mem_cons_of_mem _ hx)) (by have := hwl _ (List.mem_cons_of_mem _ hx); omega)
              have ht := take_all isName (r.take fa) [] j (by omega) ha
              have hf := all_not isName (r.take fa) [] j (by omega)
              unfold SV at f1 hnm
              generalize (r.take fa).getD j [] = x at *
              refine go (cj rTI (cj @h1 (cj @k59 @k60))) ?_
              refine ifs ?_ ?_ <;> first | exact nope | intro hb
              refine aw_skip ?_
              refine go (cj rTI (cj @h1 (cj @k58 (cj @k60 @f1)))) ?_
              refine aw_reg fun K hK => ?_; refine rn rTI ?_; refine cont_pure hnm ?_; refine rn rTI ?_; refine hK _ _ ?_; clear hK K
              cases hc : isName x with
              | false =>
                rw [if_neg (by rw [hf hc]; exact Bool.false_ne_true)]
                refine ifs ?_ ?_ <;> first | exact nope | intro hb
                refine go (cj rTI (cj @h1 (cj @k2 @gz))) ?_
                exact ⟨ra_err 71, ra_idf _, fun i hi => by rw [if_neg (by omega)]; exact hC.fr i hi⟩
              | true =>
                rw [hc] at ht
                refine ifs ?_ ?_ <;> first | exact nope | intro hb
                refine go (cj rTI (cj @h1 @k60)) ?_
                simp only [block_normal, loop_normal]
                refine ⟨fa - (j + 1), by omega, j + 1, rfl, by omega, ?_, ?_, ?_, ?_, ?_, ?_, ?_, ?_, ?_, ?_, ?_, ht, trivial⟩
                all_goals ((first | refine rn (cj rTI (cj @h1 (cj @k0 (cj @k2 (cj @k4 (cj @k5 (cj @k6 (cj @k7 (cj @k8 (cj @k58 (cj @k59 @k60))))))))))) ?_ | exact rn0 (cj rTI (cj @h1 (cj @k0 (cj @k2 (cj @k4 (cj @k5 (cj @k6 (cj @k7 (cj @k8 (cj @k58 (cj @k59 @k60)))))))))))))
                all_goals (first | rfl | trivial)
            · obtain rfl : fa = j := by omega
              rw [List.take_of_length_le (by omega)] at ha
              rw [if_pos ha]
              refine go (cj rTI (cj @h1 (cj @k59 @k60))) ?_
              refine ifs ?_ ?_ <;> first | exact nope | intro hb
              clear hj hj2 k58 k59 k60 gc gz c1
              have htd : AV.sl (r.length + 1 - (1 + (fa : Int)).toNat) (((SL (w0 :: r)).drop (1 + (fa : Int)).toNat).take (r.length + 1 - (1 + (fa : Int)).toNat)) = TV (r.drop fa) := by
                have := TV_drop (w0 :: r) (fa + 1)
                rw [List.drop_succ_cons] at this
                rw [show (1 + (fa : Int)).toNat = fa + 1 by omega]
                exact this
              have hsrc : srcC k = true → fb = false ∧ fc = false ∧ waveWords (r.drop fa) = true := fun h => by
                obtain ⟨q1, q2⟩ := c3 h
                simp only [Prod.mk.injEq] at q1
                obtain ⟨rfl, rfl, rfl⟩ := q1
                exact ⟨rfl, rfl, q2⟩
              have hN : (SL r).take fa = SL (r.take fa) := by unfold SL; rw [List.map_take]
              have hNl : (r.take fa).length = fa := by rw [List.length_take]; omega
              have hbd : BL (r.drop fa) := fun w h => hw w (List.mem_cons_of_mem _ (List.mem_of_mem_drop h))
              have hbl : ∀ w ∈ r.drop fa, w.length ≤ 281474976710656 := fun w h => hwl w (List.mem_cons_of_mem _ (List.mem_of_mem_drop h))
              have hDl : (r.drop fa).length = r.length - fa := List.length_drop
              have hDn : (if fb = true then 1 else 0) + (if fc = true then 1 else 0) ≤ (r.drop fa).length := by rw [hDl]; omega
              have hDm : (r.drop fa).length ≤ 10000 := by rw [hDl]; rw [List.length_cons] at hl; omega
              have hR := CR.of hC (r.drop fa) 0
              unfold badRef errC wvC errV valC refC restC
              simp only
              rw [hN] at hR
              unfold rdr iv TV at hR
              unfold TV at htd
              refine go (cj rTI (cj @h1 (cj @k0 (cj @k5 (cj @k6 @htd))))) ?_
              clear htd hC
              generalize r.drop fa = D at *
              generalize r.take fa = N at *
              rw [then_normal]
              have hNN : AV.sl fa (SL N) = TV N := by unfold TV; rw [hNl]
              clear htk hlt hN hNl hDl
              generalize s3.push [AV.sl D.length (SL D), AV.v (.int .i64 0)] = s4 at *
              generalize s3.nx = b at *
              obtain ⟨ob1, ob2⟩ := hR.o
              have ob3 : s.nx + 1 ≠ b := by omega
              have ob4 : s.nx ≠ b := by omega
              generalize hrf : (if fb = true then D.headD [] else []) = rf
              generalize hD2 : (if fb = true then D.drop 1 else D) = D2
              generalize hbad : (fb && (!isName rf || decide (k = 102 ∨ k = 104) && decide (rf.getD 0 0 ≠ 118))) = bad
              refine aw_way (fun e4 s5 => e4.n = 151 ∧ e4.m 2 = .ptr s.nx 0 ∧ e4.m 4 = .v (.int .u8 (k : Nat)) ∧ e4.m 7 = .v (.bool fc) ∧ e4.m 8 = .ptr (s.nx + 1) 0 ∧ e4.m 11 = .ptr b 0 ∧ bad = false ∧ CR s s5 b [.v (.string (bs w0)), .sl fa (SL N), .v (.string (bs rf)), .v (.int .i64 0), .v (.int .i64 0), .v (.int .i64 0), nilS, nilS] D2 0) ?_ ?_
              · cases fb with
                | false =>
                  rw [if_neg Bool.false_ne_true] at hrf hD2
                  subst hrf hD2
                  refine ifs ?_ ?_ <;> first | exact nope | intro hb
                  refine aw_skip ?_
                  refine .inl ⟨rfl, ?_, ?_, ?_, ?_, ?_, ?_, hbad.symm, hR⟩
                  all_goals (exact rn0 (cj rTI (cj @h1 (cj @k2 (cj @k4 (cj @k7 @k8))))))
                  all_goals trivial
                | true =>
                  rw [if_pos rfl] at hrf hD2
                  rw [if_pos rfl] at hDn
                  match D, hDn with
                  | [], q => simp at q
                  | w :: D', hDn =>
                    have hwB : By w := hbd w (List.mem_cons_self ..)
                    have hnx := next_ax s4 b w D' 0 hR.r ob2 (by rw [List.length_cons] at hDm; omega)
                    have hnm := cname_ax w hwB (by have := hbl w (List.mem_cons_self ..); omega)
                    have gc := hR.c
                    have lS := bs_size w
                    have hg := bs_get w hwB 0
                    rw [show (w :: D').headD [] = w from rfl] at hrf
                    rw [show (w :: D').drop 1 = D' from rfl] at hD2
                    subst hrf hD2
                    have hR2 := (hR.upd D' 0).put [.v (.string (bs w0)), .sl fa (SL N), .v (.string (bs w)), .v (.int .i64 0), .v (.int .i64 0), .v (.int .i64 0), nilS, nilS]
                    have gz := hR.z
                    unfold cz at gz
                    unfold rdr iv TV at hnx hR2
                    unfold SV at hnx hnm
                    unfold nilS at *
                    rw [Bool.true_and] at hbad
                    cases hn : isName w with
                    | false =>
                      rw [hn, Bool.not_false, Bool.true_or] at hbad
                      rw [hn] at hnm
                      subst hbad
                      rw [if_pos rfl]
                      refine ifs ?_ ?_ <;> first | exact nope | intro hb
                      refine aw_seq ?_
                      refine aw_reg fun K hK => ?_; refine rn (cj rTI (cj @k8 @gc)) ?_; refine cont_go hnx ?_; rintro _ s5 ⟨rfl, rfl⟩; refine rn (cj rTI (cj @k8 @gc)) ?_; refine hK _ _ ?_; clear hK K
                      refine go (cj rTI (cj @k8 @gc)) ?_
                      refine aw_reg fun K hK => ?_; refine rn (cj rTI (cj @k4 (cj @k8 (cj @ob3 (cj @ob4 @gc))))) ?_; refine cont_pure hnm ?_; refine rn (cj rTI (cj @k4 (cj @k8 (cj @ob3 (cj @ob4 @gc))))) ?_; refine hK _ _ ?_; clear hK K
                      refine ifs ?_ ?_ <;> first | exact nope | intro hb
                      refine go (cj rTI (cj @h1 (cj @k2 (cj @k8 (cj @ob3 (cj @ob4 (cj @gc @gz))))))) ?_
                      exact .inr ⟨ra_err 71, ra_idf _, fun i hi => by rw [if_neg (by omega), if_neg (by omega), if_neg (by omega)]; exact hR.fr i hi⟩
                    | true =>
                      rw [hn, Bool.not_true, Bool.false_or] at hbad
                      rw [hn] at hnm
                      have hp2 := name_pos w hn
                      have hw1 : w.getD 0 0 < 256 := by_at w hwB 0 hp2
                      by_cases q1 : k = 102 ∨ k = 104
                      · rw [decide_eq_true q1, Bool.true_and] at hbad
                        by_cases q2 : w.getD 0 0 = 118
                        · have q3 : ((w.getD 0 0 : Nat) : Int) = 118 := by omega
                          rw [q2] at hbad
                          rcases q1 with rfl | rfl
                          · refine ifs ?_ ?_ <;> first | exact nope | intro hb
                            refine aw_seq ?_
                            refine aw_reg fun K hK => ?_; refine rn (cj rTI (cj @k8 @gc)) ?_; refine cont_go hnx ?_; rintro _ s5 ⟨rfl, rfl⟩; refine rn (cj rTI (cj @k8 @gc)) ?_; refine hK _ _ ?_; clear hK K
                            refine go (cj rTI (cj @k8 @gc)) ?_
                            refine aw_reg fun K hK => ?_; refine rn (cj rTI (cj @k4 (cj @k8 (cj @ob3 (cj @ob4 (cj @gc (cj @lS (cj @hg @q3)))))))) ?_; refine cont_pure hnm ?_; refine rn (cj rTI (cj @k4 (cj @k8 (cj @ob3 (cj @ob4 (cj @gc (cj @lS (cj @hg @q3)))))))) ?_; refine hK _ _ ?_; clear hK K
                            refine ifs ?_ ?_ <;> first | exact nope | intro hb
                            refine aw_skip ?_
                            refine .inl ⟨rfl, ?_, ?_, ?_, ?_, ?_, ?_, hbad.symm, hR2⟩
                            all_goals (exact rn0 (cj rTI (cj @h1 (cj @k2 (cj @k4 (cj @k7 @k8))))))
                            all_goals trivial
                          · refine ifs ?_ ?_ <;> first | exact nope | intro hb
                            refine aw_seq ?_
                            refine aw_reg fun K hK => ?_; refine rn (cj rTI (cj @k8 @gc)) ?_; refine cont_go hnx ?_; rintro _ s5 ⟨rfl, rfl⟩; refine rn (cj rTI (cj @k8 @gc)) ?_; refine hK _ _ ?_; clear hK K
                            refine go (cj rTI (cj @k8 @gc)) ?_
                            refine aw_reg fun K hK => ?_; refine rn (cj rTI (cj @k4 (cj @k8 (cj @ob3 (cj @ob4 (cj @gc (cj @lS (cj @hg @q3)))))))) ?_; refine cont_pure hnm ?_; refine rn (cj rTI (cj @k4 (cj @k8 (cj @ob3 (cj @ob4 (cj @gc (cj @lS (cj @hg @q3)))))))) ?_; refine hK _ _ ?_; clear hK K
                            refine ifs ?_ ?_ <;> first | exact nope | intro hb
                            refine aw_skip ?_
                            refine .inl ⟨rfl, ?_, ?_, ?_, ?_, ?_, ?_, hbad.symm, hR2⟩
                            all_goals (exact rn0 (cj rTI (cj @h1 (cj @k2 (cj @k4 (cj @k7 @k8))))))
                            all_goals trivial
                        · have q3 : ¬ ((w.getD 0 0 : Nat) : Int) = 118 := by omega
                          rw [decide_eq_true q2] at hbad
                          subst hbad
                          rw [if_pos rfl]
                          rcases q1 with rfl | rfl
                          · refine ifs ?_ ?_ <;> first | exact nope | intro hb
                            refine aw_seq ?_
                            refine aw_reg fun K hK => ?_; refine rn (cj rTI (cj @k8 @gc)) ?_; refine cont_go hnx ?_; rintro _ s5 ⟨rfl, rfl⟩; refine rn (cj rTI (cj @k8 @gc)) ?_; refine hK _ _ ?_; clear hK K
                            refine go (cj rTI (cj @k8 @gc)) ?_
                            refine aw_reg fun K hK => ?_; refine rn (cj rTI (cj @k4 (cj @k8 (cj @ob3 (cj @ob4 (cj @gc (cj @lS (cj @hg @q3)))))))) ?_; refine cont_pure hnm ?_; refine rn (cj rTI (cj @k4 (cj @k8 (cj @ob3 (cj @ob4 (cj @gc (cj @lS (cj @hg @q3)))))))) ?_; refine hK _ _ ?_; clear hK K
                            refine ifs ?_ ?_ <;> first | exact nope | intro hb
                            refine go (cj rTI (cj @h1 (cj @k2 (cj @k8 (cj @ob3 (cj @ob4 (cj @gc @gz))))))) ?_
                            exact .inr ⟨ra_err 71, ra_idf _, fun i hi => by rw [if_neg (by omega), if_neg (by omega), if_neg (by omega)]; exact hR.fr i hi⟩
                          · refine ifs ?_ ?_ <;> first | exact nope | intro hb
                            refine aw_seq ?_
                            refine aw_reg fun K hK => ?_; refine rn (cj rTI (cj @k8 @gc)) ?_; refine cont_go hnx ?_; rintro _ s5 ⟨rfl, rfl⟩; refine rn (cj rTI (cj @k8 @gc)) ?_; refine hK _ _ ?_; clear hK K
                            refine go (cj rTI (cj @k8 @gc)) ?_
                            refine aw_reg fun K hK => ?_; refine rn (cj rTI (cj @k4 (cj @k8 (cj @ob3 (cj @ob4 (cj @gc (cj @lS (cj @hg @q3)))))))) ?_; refine cont_pure hnm ?_; refine rn (cj rTI (cj @k4 (cj @k8 (cj @ob3 (cj @ob4 (cj @gc (cj @lS (cj @hg @q3)))))))) ?_; refine hK _ _ ?_; clear hK K
                            refine ifs ?_ ?_ <;> first | exact nope | intro hb
                            refine go (cj rTI (cj @h1 (cj @k2 (cj @k8 (cj @ob3 (cj @ob4 (cj @gc @gz))))))) ?_
                            exact .inr ⟨ra_err 71, ra_idf _, fun i hi => by rw [if_neg (by omega), if_neg (by omega), if_neg (by omega)]; exact hR.fr i hi⟩
                      · rw [decide_eq_false q1, Bool.false_and] at hbad
                        have q3 : ¬ (k : Int) = 102 := by omega
                        have q4 : ¬ (k : Int) = 104 := by omega
                        refine ifs ?_ ?_ <;> first | exact nope | intro hb
                        refine aw_seq ?_
                        refine aw_reg fun K hK => ?_; refine rn (cj rTI (cj @k8 @gc)) ?_; refine cont_go hnx ?_; rintro _ s5 ⟨rfl, rfl⟩; refine rn (cj rTI (cj @k8 @gc)) ?_; refine hK _ _ ?_; clear hK K
                        refine go (cj rTI (cj @k8 @gc)) ?_
                        refine aw_reg fun K hK => ?_; refine rn (cj rTI (cj @k4 (cj @k8 (cj @ob3 (cj @ob4 (cj @gc (cj @q3 @q4))))))) ?_; refine cont_pure hnm ?_; refine rn (cj rTI (cj @k4 (cj @k8 (cj @ob3 (cj @ob4 (cj @gc (cj @q3 @q4))))))) ?_; refine hK _ _ ?_; clear hK K
                        refine ifs ?_ ?_ <;> first | exact nope | intro hb
                        refine aw_skip ?_
                        refine .inl ⟨rfl, ?_, ?_, ?_, ?_, ?_, ?_, hbad.symm, hR2⟩
                        all_goals (exact rn0 (cj rTI (cj @h1 (cj @k2 (cj @k4 (cj @k7 @k8))))))
                        all_goals trivial
              · have hB2 : BL D2 := fun w h => by
                  rw [← hD2] at h
                  cases fb with
                  | false => exact hbd w h
                  | true => exact hbd w (List.mem_of_mem_drop h)
                have hbl2 : ∀ w ∈ D2, w.length ≤ 281474976710656 := fun w h => by
                  rw [← hD2] at h
                  cases fb with
                  | false => exact hbl w h
                  | true => exact hbl w (List.mem_of_mem_drop h)
                have hDl2 : (if fc = true then 1 else 0) ≤ D2.length ∧ D2.length ≤ 10000 := by
                  rw [← hD2]
                  cases fb with
                  | false => rw [if_neg Bool.false_ne_true] at hDn ⊢; omega
                  | true => rw [if_pos rfl] at hDn ⊢; rw [List.length_drop]; omega
                have hsrc2 : srcC k = true → fc = false ∧ waveWords D2 = true := fun h => by
                  obtain ⟨rfl, q1, q2⟩ := hsrc h
                  rw [if_neg Bool.false_ne_true] at hD2
                  rw [← hD2]
                  exact ⟨q1, q2⟩
                clear hsrc hbd hbl hDn hDm hrf hD2 h1 k2 k4 k5 k6 k7 k8 hR ob3 ob4
                rintro e4 s5 ⟨h1, k2, k4, k7, k8, k11, hb0, hR⟩
                rw [hb0, if_neg Bool.false_ne_true]
                clear hbad hb0
                rw [then_normal]
                refine aw_seq ?_
                refine go (cj rTI (cj @h1 @k7)) ?_
                generalize hval : (if fc = true then numV (D2.headD []) else (0, 0)) = val
                generalize hev : (if fc = true then numE (D2.headD []) 0 else 0) = ev
                refine aw_only (fun e5 s6 => e5.n = 151 ∧ e5.m 2 = .ptr s.nx 0 ∧ e5.m 4 = .v (.int .u8 (k : Nat)) ∧ e5.m 8 = .ptr (s.nx + 1) 0 ∧ e5.m 11 = .ptr b 0 ∧ ∃ ws2, (srcC k = true → ws2 = D2) ∧ CR s s6 b [.v (.string (bs w0)), .sl fa (SL N), .v (.string (bs rf)), .v (.int .i64 val.1), .v (.int .i64 val.2), .v (.int .i64 0), nilS, nilS] ws2 ev) ?_ ?_
                · obtain ⟨ob1, ob2⟩ := hR.o
                  have ob3 : s.nx + 1 ≠ b := by omega
                  cases fc with
                  | false =>
                    rw [if_neg Bool.false_ne_true] at hval hev
                    subst hval hev
                    refine ifs ?_ ?_ <;> first | exact nope | intro hb
                    refine aw_skip ?_
                    refine ⟨rfl, ?_, ?_, ?_, ?_, ?_, D2, fun _ => rfl, hR⟩
                    all_goals (exact rn0 (cj rTI (cj @h1 (cj @k2 (cj @k4 (cj @k8 @k11))))))
                    all_goals trivial
                  | true =>
                    rw [if_pos rfl] at hval hev hDl2
                    match D2, hDl2 with
                    | [], q => simp at q
                    | w :: D', hDl2 =>
                      rw [show (w :: D').headD [] = w from rfl] at hval hev
                      have hnu := num_ax s5 b w D' 0 (hB2 w (List.mem_cons_self ..)) hR.r ob2 (by rw [List.length_cons] at hDl2; omega)
                      subst hval hev
                      have gc := hR.c
                      have hR2 := (hR.upd D' (numE w 0)).put [.v (.string (bs w0)), .sl fa (SL N), .v (.string (bs rf)), .v (.int .i64 (numV w).1), .v (.int .i64 (numV w).2), .v (.int .i64 0), nilS, nilS]
                      unfold rdr iv TV at hnu hR2
                      unfold NM at hnu
                      unfold nilS at *
                      refine ifs ?_ ?_ <;> first | exact nope | intro hb
                      refine aw_reg fun K hK => ?_; refine rn (cj rTI (cj @h1 (cj @k8 (cj @k11 (cj @gc @ob3))))) ?_; refine cont_go hnu ?_; rintro _ s6 ⟨rfl, rfl⟩; refine rn (cj rTI (cj @h1 (cj @k8 (cj @k11 (cj @gc @ob3))))) ?_; refine hK _ _ ?_; clear hK K
                      refine go (cj rTI (cj @h1 (cj @k8 (cj @gc @ob3)))) ?_
                      refine ⟨rfl, ?_, ?_, ?_, ?_, ?_, D', fun h => absurd (hsrc2 h).1 (by decide), hR2⟩
                      all_goals (exact rn0 (cj rTI (cj @h1 (cj @k2 (cj @k4 (cj @k8 @k11))))))
                      all_goals trivial
                · clear h1 k2 k4 k7 k8 k11 hR
                  rintro e5 s6 ⟨h1, k2, k4, k8, k11, ws2, hws, hR⟩
                  rw [then_normal]
                  generalize hec : (if srcC k = true then (waveR D2 ev).2 else ev) = ec
                  generalize hwv : (if srcC k = true then (waveR D2 ev).1 else wv0) = wv
                  refine aw_seq ?_
                  refine aw_only (fun e6 s7 => e6.n = 151 ∧ e6.m 2 = .ptr s.nx 0 ∧ e6.m 4 = .v (.int .u8 (k : Nat)) ∧ e6.m 8 = .ptr (s.nx + 1) 0 ∧ e6.m 11 = .ptr b 0 ∧ e6.m 12 = .v (.bool (srcC k)) ∧ s7 = s6) ?_ ?_
                  · have hsk : srcC k = decide (k = 118 ∨ k = 105) := rfl
                    by_cases q1 : k = 118
                    · have q2 : (k : Int) = 118 := by omega
                      rw [hsk, decide_eq_true (.inl q1)]
                      refine go (cj rTI (cj @h1 (cj @k4 @q2))) ?_
                      (repeat' refine And.intro ?_ ?_) <;> first | exact rfl | exact fnz (cj rTI (cj @h1 (cj @k2 (cj @k4 (cj @k8 @k11))))) | skip
                    · have q2 : ¬ (k : Int) = 118 := by omega
                      by_cases q3 : k = 105
                      · have q4 : (k : Int) = 105 := by omega
                        rw [hsk, decide_eq_true (.inr q3)]
                        refine go (cj rTI (cj @h1 (cj @k4 @q4))) ?_
                        (repeat' refine And.intro ?_ ?_) <;> first | exact rfl | exact fnz (cj rTI (cj @h1 (cj @k2 (cj @k4 (cj @k8 @k11))))) | skip
                      · have q4 : ¬ (k : Int) = 105 := by omega
                        rw [hsk, decide_eq_false (by omega)]
                        refine go (cj rTI (cj @h1 (cj @k4 (cj @q2 @q4)))) ?_
                        (repeat' refine And.intro ?_ ?_) <;> first | exact rfl | exact fnz (cj rTI (cj @h1 (cj @k2 (cj @k4 (cj @k8 @k11))))) | skip
                  clear h1 k2 k4 k8 k11
                  rintro e6 s7 ⟨h1, k2, k4, k8, k11, k12, rfl⟩
                  rw [then_normal]
                  refine aw_seq ?_
                  refine aw_only (fun e7 s8 => e7.n = 151 ∧ e7.m 2 = .ptr s.nx 0 ∧ e7.m 4 = .v (.int .u8 (k : Nat)) ∧ e7.m 8 = .ptr (s.nx + 1) 0 ∧ e7.m 11 = .ptr b 0 ∧ e7.m 12 = .v (.bool (srcC k)) ∧ ∃ kd X Y ws3, CR s s8 b [.v (.string (bs w0)), .sl fa (SL N), .v (.string (bs rf)), .v (.int .i64 val.1), .v (.int .i64 val.2), .v (.int .i64 kd), X, Y] ws3 ec ∧ ((srcC k = true ∧ ∃ W, (ec = 0 → W = wv) ∧ kd = W.kind ∧ X = NV W.vals ∧ Y = IV W.steps) ∨ (srcC k = false ∧ kd = 0 ∧ X = nilS ∧ Y = nilS))) ?_ ?_
                  · have gc := hR.c
                    obtain ⟨ob1, ob2⟩ := hR.o
                    have ob3 : s.nx + 1 ≠ b := by omega
                    cases hs : srcC k with
                    | false =>
                      rw [hs, if_neg Bool.false_ne_true] at hec
                      subst hec
                      rw [hs] at k12
                      refine go (cj rTI (cj @h1 @k12)) ?_
                      refine ifs ?_ ?_ <;> first | exact nope | intro hb
                      refine aw_skip ?_
                      refine ⟨rfl, ?_, ?_, ?_, ?_, ?_, ?_, 0, nilS, nilS, ws2, hR, .inr ⟨rfl, rfl, rfl, rfl⟩⟩
                      all_goals (exact rn0 (cj rTI (cj @h1 (cj @k2 (cj @k4 (cj @k8 (cj @k11 @k12)))))))
                      all_goals trivial
                    | true =>
                      obtain ⟨rfl, hww⟩ := hsrc2 hs
                      obtain rfl := hws hs
                      rw [hs, if_pos rfl] at hec hwv
                      rw [if_neg Bool.false_ne_true] at hev
                      subst hev
                      have hwx := wave_ax s7 b ws2 0 hB2 hbl2 hR.r ob2 hDl2.2 hww
                      rw [hec, hwv] at hwx
                      rw [hs] at k12
                      unfold WA NV IV iv at hwx
                      unfold rdr TV iv at hwx
                      unfold nilS at *
                      refine go (cj rTI (cj @h1 @k12)) ?_
                      refine ifs ?_ ?_ <;> first | exact nope | intro hb
                      refine aw_reg fun K hK => ?_; refine rn (cj rTI (cj @h1 (cj @k8 (cj @k11 (cj @gc @ob3))))) ?_; refine cont_go hwx ?_; rintro _ s8 ⟨⟨W, hW, rfl⟩, rfl⟩; refine rn (cj rTI (cj @h1 (cj @k8 (cj @k11 (cj @gc @ob3))))) ?_; refine hK _ _ ?_; clear hK K
                      refine go (cj rTI (cj @h1 (cj @k8 (cj @gc @ob3)))) ?_
                      have hR2 := (hR.upd [] ec).put [.v (.string (bs w0)), .sl fa (SL N), .v (.string (bs rf)), .v (.int .i64 val.1), .v (.int .i64 val.2), .v (.int .i64 W.kind), NV W.vals, IV W.steps]
                      refine ⟨rfl, ?_, ?_, ?_, ?_, ?_, ?_, W.kind, NV W.vals, IV W.steps, [], hR2, .inl ⟨rfl, W, hW, rfl, rfl, rfl⟩⟩
                      all_goals (exact rn0 (cj rTI (cj @h1 (cj @k2 (cj @k4 (cj @k8 (cj @k11 @k12)))))))
                      all_goals trivial
                  clear h1 k2 k4 k8 k11 k12 hR hws
                  rintro e7 s8 ⟨h1, k2, k4, k8, k11, k12, kd, X, Y, ws3, hR, hXY⟩
                  rw [then_normal]
                  have gr := hR.r
                  have gc := hR.c
                  have gz := hR.z
                  obtain ⟨ob1, ob2⟩ := hR.o
                  have ob3 : s.nx + 1 ≠ b := by omega
                  have ob4 : s.nx ≠ b := by omega
                  unfold rdr iv at gr
                  unfold cz at gz
                  by_cases he0 : ec = 0
                  · rw [if_neg (fun h => h he0)]
                    refine go (cj rTI (cj @h1 (cj @k11 (cj @gr @he0)))) ?_
                    refine ifs ?_ ?_ <;> first | exact nope | intro hb
                    refine aw_seq ?_
                    refine aw_only (fun e9 s9 => e9.n = 151 ∧ e9.m 2 = .ptr s.nx 0 ∧ e9.m 4 = .v (.int .u8 (k : Nat)) ∧ e9.m 8 = .ptr (s.nx + 1) 0 ∧ e9.m 12 = .v (.bool (srcC k)) ∧ e9.m 123 = .v (.bool (decide (val.1 = 0 ∧ zeroK k = true))) ∧ s9 = s8) ?_ ?_
                    · by_cases hv0 : val.1 = 0
                      · by_cases q1 : k = 114
                        · have q2 : (k : Int) = 114 := by omega
                          rw [decide_eq_true (show val.1 = 0 ∧ zeroK k = true from ⟨hv0, decide_eq_true (.inl q1)⟩)]
                          refine go (cj rTI (cj @h1 (cj @k4 (cj @k8 (cj @gc (cj @hv0 @q2)))))) ?_
                          (repeat' refine And.intro ?_ ?_) <;> first | exact rfl | exact fnz (cj rTI (cj @h1 (cj @k2 (cj @k4 (cj @k8 @k12))))) | skip
                        · have q2 : ¬ (k : Int) = 114 := by omega
                          by_cases q3 : k = 99
                          · have q4 : (k : Int) = 99 := by omega
                            rw [decide_eq_true (show val.1 = 0 ∧ zeroK k = true from ⟨hv0, decide_eq_true (.inr (.inl q3))⟩)]
                            refine go (cj rTI (cj @h1 (cj @k4 (cj @k8 (cj @gc (cj @hv0 @q4)))))) ?_
                            (repeat' refine And.intro ?_ ?_) <;> first | exact rfl | exact fnz (cj rTI (cj @h1 (cj @k2 (cj @k4 (cj @k8 @k12))))) | skip
                          · have q4 : ¬ (k : Int) = 99 := by omega
                            by_cases q5 : k = 108
                            · have q6 : (k : Int) = 108 := by omega
                              rw [decide_eq_true (show val.1 = 0 ∧ zeroK k = true from ⟨hv0, decide_eq_true (.inr (.inr q5))⟩)]
                              refine go (cj rTI (cj @h1 (cj @k4 (cj @k8 (cj @gc (cj @hv0 @q6)))))) ?_
                              (repeat' refine And.intro ?_ ?_) <;> first | exact rfl | exact fnz (cj rTI (cj @h1 (cj @k2 (cj @k4 (cj @k8 @k12))))) | skip
                            · have q6 : ¬ (k : Int) = 108 := by omega
                              rw [decide_eq_false (show ¬ (val.1 = 0 ∧ zeroK k = true) from fun h => by have := of_decide_eq_true h.2; omega)]
                              refine go (cj rTI (cj @h1 (cj @k4 (cj @k8 (cj @gc (cj @hv0 (cj @q2 (cj @q4 @q6)))))))) ?_
                              (repeat' refine And.intro ?_ ?_) <;> first | exact rfl | exact fnz (cj rTI (cj @h1 (cj @k2 (cj @k4 (cj @k8 @k12))))) | skip
                      · rw [decide_eq_false (show ¬ (val.1 = 0 ∧ zeroK k = true) from fun h => hv0 h.1)]
                        refine go (cj rTI (cj @h1 (cj @k4 (cj @k8 (cj @gc @hv0))))) ?_
                        (repeat' refine And.intro ?_ ?_) <;> first | exact rfl | exact fnz (cj rTI (cj @h1 (cj @k2 (cj @k4 (cj @k8 @k12))))) | skip
                    clear h1 k2 k4 k8 k11 k12
                    rintro e9 s9 ⟨h1, k2, k4, k8, k12, k123, rfl⟩
                    rw [then_normal]
                    by_cases hz0 : val.1 = 0 ∧ zeroK k = true
                    · rw [decide_eq_true hz0] at k123
                      rw [if_pos hz0]
                      refine aw_cond (b := true) k123 (fun _ => ?_) (fun h => by cases h)
                      refine go (cj rTI (cj @h1 (cj @k2 @gz))) ?_
                      exact ⟨ra_err 11, ra_idf _, fun i hi => by rw [if_neg (by omega)]; exact hR.fr i hi⟩
                    · rw [decide_eq_false hz0] at k123
                      rw [if_neg hz0]
                      rcases hXY with ⟨hs, W, hW, rfl, rfl, rfl⟩ | ⟨hs, rfl, rfl, rfl⟩
                      · obtain rfl := hW he0
                        have hvl : W.vals.length ≤ D2.length + 1 ∧ W.steps.length ≤ D2.length := by
                          rw [hs, if_pos rfl] at hwv
                          rw [← hwv]
                          exact wave_len D2 ev
                        have hwx := wvalid_ax W (by omega) (by omega)
                        rw [hs] at k12
                        unfold WA at hwx
                        unfold NV IV iv at *
                        cases hok : waveOk W with
                        | false =>
                          rw [hok] at hwx
                          rw [if_pos ⟨hs, rfl⟩]
                          refine aw_cond (b := false) k123 (fun h => by cases h) (fun _ => ?_)
                          refine aw_seq ?_
                          refine aw_reg fun K hK => ?_; refine rn (cj rTI (cj @h1 (cj @k8 (cj @k12 @gc)))) ?_; refine cont_pure hwx ?_; refine rn (cj rTI (cj @h1 (cj @k8 (cj @k12 @gc)))) ?_; refine hK _ _ ?_; clear hK K
                          refine ifs ?_ ?_ <;> first | exact nope | intro hb
                          refine go (cj rTI (cj @h1 (cj @k2 @gz))) ?_
                          exact ⟨ra_err 40, ra_idf _, fun i hi => by rw [if_neg (by omega)]; exact hR.fr i hi⟩
                        | true =>
                          rw [hok] at hwx
                          rw [if_neg (fun h => by cases h.2)]
                          refine aw_cond (b := false) k123 (fun h => by cases h) (fun _ => ?_)
                          refine aw_seq ?_
                          refine aw_reg fun K hK => ?_; refine rn (cj rTI (cj @h1 (cj @k8 (cj @k12 @gc)))) ?_; refine cont_pure hwx ?_; refine rn (cj rTI (cj @h1 (cj @k8 (cj @k12 @gc)))) ?_; refine hK _ _ ?_; clear hK K
                          refine ifs ?_ ?_ <;> first | exact nope | intro hb
                          refine go (cj rTI (cj @h1 (cj @k2 (cj @k8 (cj @gc @gz))))) ?_
                          refine ⟨?_, ra_idf _, fun i hi => by rw [if_neg (by omega)]; exact hR.fr i hi⟩
                          rw [hNN]
                          exact ra_le ⟨w0, N, rf, val, W⟩ _ _ (Le.refl _) (Le.refl _)
                      · rw [hs] at k12
                        rw [if_neg (fun h => by rw [hs] at h; cases h.1)]
                        unfold nilS at *
                        refine aw_cond (b := false) k123 (fun h => by cases h) (fun _ => ?_)
                        refine go (cj rTI (cj @h1 @k12)) ?_
                        refine ifs ?_ ?_ <;> first | exact nope | intro hb
                        refine go (cj rTI (cj @h1 (cj @k2 (cj @k8 (cj @gc @gz))))) ?_
                        refine ⟨?_, ra_idf _, fun i hi => by rw [if_neg (by omega)]; exact hR.fr i hi⟩
                        rw [hs, if_neg Bool.false_ne_true] at hwv
                        subst hwv
                        rw [hNN]
                        exact ra_le ⟨w0, N, rf, val, wv0⟩ _ _ (Le.nil 0 0 rfl) (Le.nil 0 0 rfl)
                  · rw [if_pos he0]
                    refine go (cj rTI (cj @h1 (cj @k11 (cj @gr @he0)))) ?_
                    refine ifs ?_ ?_ <;> first | exact nope | intro hb
                    refine aw_seq ?_
                    refine aw_drw (.take 0 (.take 1 (.take 2 (.take 3 (.take 4 (.one 5 (.take 6 (.done)))))))) [b] (by kernel_rfl) (by kernel_rfl) fun K hK => ?_; refine dr (cj rTI (cj @h1 (cj @k2 (cj @k11 (cj @gr (cj @gz @ob4)))))) ?_; refine hK _ _ ?_; clear hK K
                    rw [then_normal]
                    refine go (cj rTI (cj @h1 (cj @k2 @gz))) ?_
                    exact ⟨ra_err ec, ra_idf _, fun i hi => by rw [if_neg (by omega)]; exact hR.fr i hi⟩
end Go.Proofs.YtfjelkjlfcafgaaGreatDoor.CardI
end
section
/- Cards: text, sameWave, writeWave. -/
namespace Go.Proofs.YtfjelkjlfcafgaaGreatDoor.CardJ
open Go Go.RowKit Go.Proofs.YtfjelkjlfcafgaaGreatDoor.Ax Go.Proofs.YtfjelkjlfcafgaaGreatDoor.Ti Go.Proofs.YtfjelkjlfcafgaaGreatDoor.NumS Go.Proofs.YtfjelkjlfcafgaaGreatDoor.NumT Go.Proofs.YtfjelkjlfcafgaaGreatDoor.CardS Go.Proofs.YtfjelkjlfcafgaaGreatDoor.CardP Go.Proofs.YtfjelkjlfcafgaaGreatDoor.CardA Go.Proofs.YtfjelkjlfcafgaaGreatDoor.CardB Go.Proofs.YtfjelkjlfcafgaaGreatDoor.CardC Go.Proofs.YtfjelkjlfcafgaaGreatDoor.CardD Go.Proofs.YtfjelkjlfcafgaaGreatDoor.CardE Go.Proofs.YtfjelkjlfcafgaaGreatDoor.CardF Go.Proofs.YtfjelkjlfcafgaaGreatDoor.CardG Go.Proofs.YtfjelkjlfcafgaaGreatDoor.CardH
open Go.Proofs.YtfjelkjlfcafgaaGreatDoor.NumA (NM)
set_option linter.unusedSimpArgs false
set_option linter.unusedVariables false
set_option maxRecDepth 4000
set_option maxHeartbeats 2000000
theorem rTI : type_of% (cj @ti3 (cj @ti4 (cj @ti9 (cj @ti5 (cj @ti2 (cj @ti36 (cj @ti63 (cj @ti62 (cj @ti24 (cj @ti65 (cj @ti67 (cj @ti25 (cj @Nat.zero_add (cj @tz0 (cj @tz1 (cj @tz3 (cj @Nat.mul_one @Int.toNat_natCast))))))))))))))))) := cj @ti3 (cj @ti4 (cj @ti9 (cj @ti5 (cj @ti2 (cj @ti36 (cj @ti63 (cj @ti62 (cj @ti24 (cj @ti65 (cj @ti67 (cj @ti25 (cj @Nat.zero_add (cj @tz0 (cj @tz1 (cj @tz3 (cj @Nat.mul_one @Int.toNat_natCast))))))))))))))))
theorem ctext_ax (n : Num) : PCall Tryz.prog 82 [NM n.1 n.2] (SV (textN n)) := by
  refine pcall_of fun s => ?_
  have ht := NumG.text_all n.1 n.2
  unfold NumX.textV NumA.validN at ht
  unfold NM at ht ⊢
  unfold SV textN valid
  generalize RefM.validN n.1 n.2 = b at *
  cases b with
  | true =>
    rw [if_pos rfl] at ht
    rw [if_pos rfl]
    refine acall_of Tryz.func82 rfl rfl (by simp [Tryz.ntmps82]) ?_; rw [Tryz.ntmps82, Tryz.results82]
    refine go rTI ?_
    refine aw_reg fun K hK => ?_; refine rn rTI ?_; refine cont_pure ht ?_; refine rn rTI ?_; refine hK _ _ ?_; clear hK K
    refine go rTI ?_
    refine ifs ?_ ?_ <;> first | exact nope | intro hb
    refine go rTI ?_
    exact fun i hi => by rw [if_neg (by omega)]
  | false =>
    rw [if_neg Bool.false_ne_true] at ht
    rw [if_neg Bool.false_ne_true]
    refine acall_of Tryz.func82 rfl rfl (by simp [Tryz.ntmps82]) ?_; rw [Tryz.ntmps82, Tryz.results82]
    refine go rTI ?_
    refine aw_reg fun K hK => ?_; refine rn rTI ?_; refine cont_pure ht ?_; refine rn rTI ?_; refine hK _ _ ?_; clear hK K
    refine go rTI ?_
    refine ifs ?_ ?_ <;> first | exact nope | intro hb
    refine go rTI ?_
    exact ⟨rfl, fun i hi => by rw [if_neg (by omega)]⟩
theorem sameW_ax (a b : Wv) (h1 : a.vals.length ≤ 9223372036854775807) (h2 : a.steps.length ≤ 9223372036854775807) (h3 : b.vals.length ≤ 9223372036854775807) (h4 : b.steps.length ≤ 9223372036854775807) :
    PCall Tryz.prog 85 [WA a, WA b] (.v (.bool (sameW a b))) := by
  refine pcall_of fun s => ?_
  have hv := equalN_ax a.vals b.vals h1 h3
  have hs := equalI_ax a.steps b.steps h2 h4
  have hW : sameW a b = (decide (a.kind = b.kind) && (decide (a.vals = b.vals) && decide (a.steps = b.steps))) := by unfold sameW; rw [Bool.decide_and, Bool.decide_and]
  rw [hW]
  unfold WA NV IV iv at *
  by_cases hk : a.kind = b.kind
  · rw [decide_eq_true hk, Bool.true_and]
    generalize decide (a.vals = b.vals) = c1 at *
    generalize decide (a.steps = b.steps) = c2 at *
    cases c1 with
    | false =>
      rw [Bool.false_and]
      refine acall_of Tryz.func85 rfl rfl (by simp [Tryz.ntmps85]) ?_; rw [Tryz.ntmps85, Tryz.results85]
      refine go rTI ?_
      refine aw_reg fun K hK => ?_; refine rn (cj rTI @hk) ?_; refine cont_pure hv ?_; refine rn (cj rTI @hk) ?_; refine hK _ _ ?_; clear hK K
      refine go rTI ?_
      exact fun i hi => by rw [if_neg (by omega), if_neg (by omega)]
    | true =>
      rw [Bool.true_and]
      refine acall_of Tryz.func85 rfl rfl (by simp [Tryz.ntmps85]) ?_; rw [Tryz.ntmps85, Tryz.results85]
      refine go rTI ?_
      refine aw_reg fun K hK => ?_; refine rn (cj rTI @hk) ?_; refine cont_pure hv ?_; refine rn (cj rTI @hk) ?_; refine cont_pure hs ?_; refine rn (cj rTI @hk) ?_; refine hK _ _ ?_; clear hK K
      refine go rTI ?_
      exact fun i hi => by rw [if_neg (by omega), if_neg (by omega)]
  · rw [decide_eq_false hk, Bool.false_and]
    refine acall_of Tryz.func85 rfl rfl (by simp [Tryz.ntmps85]) ?_; rw [Tryz.ntmps85, Tryz.results85]
    refine go (cj rTI @hk) ?_
    exact fun i hi => by rw [if_neg (by omega), if_neg (by omega)]
structure LI (s s' : St) (c : List AV) (id : Nat) (L : List Str) : Prop where
  b : s'.get s.nx = some c
  l : s'.get id = some (SL L)
  o : s.nx < id ∧ id < s'.nx
  fr : ∀ k, k < s.nx → s'.get k = s.get k
theorem LI.app {s s' : St} {c : List AV} {id : Nat} {L : List Str} (h : LI s s' c id L) (s1 : St) (hn : s'.nx ≤ s1.nx) (hg : ∀ k, k < s'.nx → s1.get k = s'.get k) (ws : List Str) :
    LI s ((s1.kill id).push (SL L ++ SL ws)) c s1.nx (L ++ ws) := by
  obtain ⟨o1, o2⟩ := h.o
  refine ⟨?_, ?_, ⟨by omega, Nat.lt_succ_self _⟩, fun k hk => ?_⟩
  · rw [St.push_ne (s1.kill id) _ _ (show s.nx ≠ s1.nx by omega), St.kill_ne _ _ _ (by omega), hg _ (by omega)]
    exact h.b
  · rw [show SL (L ++ ws) = SL L ++ SL ws from List.map_append]
    exact St.push_same (s1.kill id) _
  · rw [St.push_ne (s1.kill id) _ _ (show k ≠ s1.nx by omega), St.kill_ne _ _ _ (by omega), hg _ (by omega)]
    exact h.fr k hk
theorem zip_take : ∀ (S : List Int) (V : List Num) (j : Nat), j < S.length → j < V.length → zipW (S.take (j + 1)) (V.take (j + 1)) = zipW (S.take j) (V.take j) ++ [decS (S.getD j 0), textN (V.getD j (0, 0))]
  | [], _, _, h, _ => absurd h (Nat.not_lt_zero _)
  | _ :: _, [], _, _, h => absurd h (Nat.not_lt_zero _)
  | a :: S, b :: V, 0, _, _ => by
    simp [zipW]
  | a :: S, b :: V, j + 1, h1, h2 => by
    have := zip_take S V j (Nat.lt_of_succ_lt_succ h1) (Nat.lt_of_succ_lt_succ h2)
    rw [List.take_succ_cons, List.take_succ_cons, List.take_succ_cons, List.take_succ_cons, List.getD_cons_succ, List.getD_cons_succ]
    show decS a :: textN b :: zipW _ _ = decS a :: textN b :: zipW _ _ ++ _
    rw [this]
    rfl
theorem zip_all : ∀ (S : List Int) (V : List Num) (j : Nat), (j = S.length ∨ j = V.length) → zipW (S.take j) (V.take j) = zipW S V
  | [], _, _, _ => by simp [zipW]
  | _ :: _, [], _, _ => by simp [zipW]
  | a :: S, b :: V, 0, h => by simp at h
  | a :: S, b :: V, j + 1, h => by
    rw [List.take_succ_cons, List.take_succ_cons]
    show decS a :: textN b :: zipW _ _ = decS a :: textN b :: zipW _ _
    rw [zip_all S V j (by simpa using h)]
theorem map_take {α : Type} (f : α → Str) (l : List α) (d : α) (k : Nat) (h : k < l.length) : (l.take (k + 1)).map f = (l.take k).map f ++ [f (l.getD k d)] := by
  rw [List.take_succ_eq_append_getElem h, List.map_append, List.getD_eq_getElem?_getD, List.getElem?_eq_getElem h]
  rfl
theorem frz_SL (id : Nat) (L : List Str) : frz id (SL L) (.own id 0 L.length 1) = TV L := by
  have e2 := sl_take L
  rw [frz_own, List.drop_zero, e2]
  rfl
theorem zip_len : ∀ (S : List Int) (V : List Num), S.length = V.length → (zipW S V).length = 2 * S.length
  | [], [], _ => rfl
  | a :: S, b :: V, h => by
    show (zipW S V).length + 1 + 1 = _
    rw [zip_len S V (by simpa using h), List.length_cons]
    omega
  | [], _ :: _, h => by simp at h
  | _ :: _, [], h => by simp at h
def preW (k : Int) : List Str := if k = 1 then [sDc] else if k = 2 then [sPulse] else if k = 4 then [sTable] else []
theorem writeW_ax (w : Wv) (h1 : w.vals.length ≤ 10000) (h2 : w.steps.length ≤ 10000) (h3 : ∀ z ∈ w.steps, -9223372036854775808 ≤ z ∧ z ≤ 9223372036854775807) :
    PCall Tryz.prog 83 [WA w] (TV (waveT w)) := by
  refine pcall_own (tv_idf _) fun s => ?_
  obtain ⟨kd, V, S⟩ := w
  simp only at h1 h2 h3
  unfold WA NV IV iv
  simp only
  refine acall_of Tryz.func83 rfl rfl (by simp [Tryz.ntmps83]) ?_; rw [Tryz.ntmps83, Tryz.results83]
  refine aw_seq ?_
  refine aw_reg fun K hK => ?_; refine rn rTI ?_; refine hK _ _ ?_; clear hK K
  refine aw_seq ?_
  refine aw_reg fun K hK => ?_; refine rn rTI ?_; refine hK _ _ ?_; clear hK K
  refine aw_nil 3 1 rfl rfl ?_
  have hL : LI s ((s.push [.v (.int .i64 kd), .sl V.length (NC V), .sl S.length (IL S)]).push []) [.v (.int .i64 kd), .sl V.length (NC V), .sl S.length (IL S)] (s.nx + 1) [] := by
    refine ⟨?_, St.push_same _ _, ⟨Nat.lt_succ_self _, Nat.lt_succ_self _⟩, fun k hk => ?_⟩
    · rw [St.push_ne (s.push _) _ _ (show s.nx ≠ s.nx + 1 by omega)]
      exact St.push_same _ _
    · rw [St.push_ne (s.push _) _ _ (show k ≠ s.nx + 1 by omega), St.push_ne s _ _ (by omega)]
  generalize hs1 : (s.push [.v (.int .i64 kd), .sl V.length (NC V), .sl S.length (IL S)]).push [] = s1 at *
  by_cases k3 : kd = 3
  · subst k3
    rw [show waveT ⟨3, V, S⟩ = sPwl :: zipW S V from rfl]
    have gb := hL.b
    have gl := hL.l
    have hA := hL.app (s1.push [SV sPwl]) (Nat.le_succ _) (fun k hk => St.push_ne s1 _ _ (by omega)) [sPwl]
    obtain ⟨o1, o2⟩ := hL.o
    rw [show SL ([] : List Str) = [] from rfl] at gl
    refine go (cj rTI @gb) ?_
    refine ifs ?_ ?_ <;> first | exact nope | intro hb
    refine go (cj rTI @gb) ?_
    refine ifs ?_ ?_ <;> first | exact nope | intro hb
    refine go (cj rTI @gb) ?_
    refine ifs ?_ ?_ <;> first | exact nope | intro hb
    refine go (cj rTI (cj @gb @gl)) ?_
    clear hL hs1
    refine aw_loop (fun m e2 s2 => ∃ k id, m = V.length - k ∧ k ≤ V.length ∧ k ≤ S.length ∧ e2.n = 85 ∧ e2.m 1 = .ptr s.nx 0 ∧ e2.m 3 = .own id 0 (sPwl :: zipW (S.take k) (V.take k)).length 1 ∧ e2.m 4 = .v (.int .i64 (k : Nat)) ∧ LI s s2 [.v (.int .i64 3), .sl V.length (NC V), .sl S.length (IL S)] id (sPwl :: zipW (S.take k) (V.take k))) V.length ?_ ?_
    · refine ⟨0, s1.nx + 1, by omega, by omega, by omega, ?_, ?_, ?_, ?_, hA⟩
      all_goals ((first | refine rn rTI ?_ | exact rn0 rTI))
      all_goals (first | trivial | rfl)
    · clear hA gb gl
      rintro m e2 s2 ⟨k, id, rfl, hk, hk1, h1, q1, q3, q4, hL⟩
      have gb := hL.b
      obtain ⟨o1, o2⟩ := hL.o
      by_cases hk2 : k < V.length ∧ k < S.length
      · obtain ⟨hk3, hk4⟩ := hk2
        have f1 := nc_at V k hk3
        have f2 : 2 ≤ ((NC V).drop (k * 2)).length := by rw [List.length_drop, nc_len]; omega
        have f3 := hd_IL S k hk4
        have hp := ctext_ax (V.getD k (0, 0))
        have ht := zip_take S V k hk4 hk3
        have hz : -9223372036854775808 ≤ S.getD k 0 ∧ S.getD k 0 ≤ 9223372036854775807 := h3 _ (by rw [List.getD_eq_getElem?_getD, List.getElem?_eq_getElem hk4]; exact List.getElem_mem _)
        generalize S.getD k 0 = z at *
        have hp2 := itoa_ax z hz.1 hz.2
        generalize V.getD k (0, 0) = n at *
        have gl := hL.l
        have ll := sl_len (sPwl :: zipW (S.take k) (V.take k))
        have hA := hL.app (s2.push [SV (decS z), SV (textN n)]) (Nat.le_succ _) (fun k hk => St.push_ne s2 _ _ (by omega)) [decS z, textN n]
        have hb0 : (sPwl :: zipW (S.take k) (V.take k)).length ≤ 20001 := by rw [List.length_cons, zip_len _ _ (by rw [List.length_take, List.length_take]; omega), List.length_take]; omega
        rw [List.cons_append, ← ht] at hA
        have hln : (sPwl :: zipW (S.take (k + 1)) (V.take (k + 1))).length = (sPwl :: zipW (S.take k) (V.take k)).length + 2 := by rw [ht, List.length_cons, List.length_append, List.length_cons]; rfl
        generalize hL0 : sPwl :: zipW (S.take k) (V.take k) = L0 at *
        unfold iv at f1 f3
        unfold NM SV at hp
        unfold SV at hp2 hA
        refine go (cj rTI (cj @h1 (cj @q1 (cj @q4 @gb)))) ?_
        refine ifs ?_ ?_ <;> first | exact nope | intro hb
        refine aw_skip ?_
        refine go (cj rTI @h1) ?_
        refine aw_drw (.take 0 (.take 1 (.take 2 (.take 3 (.take 4 (.take 5 (.take 7 (.take 8 (.take 9 (.take 10 (.take 11 (.one 6 (.one 12 (.one 13 (.one 14 (.take 15 (.done))))))))))))))))) [s.nx] (by kernel_rfl) (by kernel_rfl) fun K hK => ?_; refine dr (cj rTI (cj @h1 (cj @q1 (cj @q3 (cj @q4 (cj @gb (cj @gl (cj @ll (cj @f1 (cj @f2 @f3)))))))))) ?_; refine cont_pure hp2 ?_; refine dr (cj rTI (cj @h1 (cj @q1 (cj @q3 (cj @q4 (cj @gb (cj @gl (cj @ll (cj @f1 (cj @f2 @f3)))))))))) ?_; refine cont_pure hp ?_; refine dr (cj rTI (cj @h1 (cj @q1 (cj @q3 (cj @q4 (cj @gb (cj @gl (cj @ll (cj @f1 (cj @f2 @f3)))))))))) ?_; refine hK _ _ ?_; clear hK K
        refine go (cj rTI (cj @h1 @q4)) ?_
        simp only [block_normal, loop_normal]
        refine ⟨V.length - (k + 1), by omega, k + 1, s2.nx + 1, rfl, by omega, by omega, ?_, ?_, ?_, ?_, hA⟩
        all_goals ((first | refine rn (cj rTI (cj @h1 (cj @q1 (cj @q3 @q4)))) ?_ | exact rn0 (cj rTI (cj @h1 (cj @q1 (cj @q3 @q4))))))
        all_goals (first | rfl | trivial | (rw [← hln]; rfl))
      · have hk5 : k = S.length ∨ k = V.length := by omega
        rw [zip_all S V k hk5] at hL q3
        by_cases hm : V.length < S.length
        · refine go (cj rTI (cj @h1 (cj @q1 (cj @q4 @gb)))) ?_
          refine ifs ?_ ?_ <;> first | exact nope | intro hb
          refine go (cj rTI (cj @h1 @q3)) ?_
          exact ⟨id, _, by omega, hL.l, frz_SL _ _, hL.fr⟩
        · refine go (cj rTI (cj @h1 (cj @q1 (cj @q4 @gb)))) ?_
          refine ifs ?_ ?_ <;> first | exact nope | intro hb
          refine go (cj rTI (cj @h1 @q3)) ?_
          exact ⟨id, _, by omega, hL.l, frz_SL _ _, hL.fr⟩
  · rw [show waveT ⟨kd, V, S⟩ = preW kd ++ V.map textN ++ S.map decS from if_neg k3]
    refine aw_seq ?_
    refine aw_only (fun e' s' => e'.n = 85 ∧ e'.m 1 = .ptr s.nx 0 ∧ ∃ id, e'.m 3 = .own id 0 (preW kd).length 1 ∧ LI s s' [.v (.int .i64 kd), .sl V.length (NC V), .sl S.length (IL S)] id (preW kd)) ?_ ?_
    · have gb := hL.b
      have gl := hL.l
      obtain ⟨o1, o2⟩ := hL.o
      rw [show SL ([] : List Str) = [] from rfl] at gl
      have hA := fun x => hL.app (s1.push [SV x]) (Nat.le_succ _) (fun k hk => St.push_ne s1 _ _ (by omega)) [x]
      by_cases k1 : kd = 1
      · subst k1
        refine go (cj rTI @gb) ?_
        refine ifs ?_ ?_ <;> first | exact nope | intro hb
        refine go (cj rTI (cj @gb @gl)) ?_
        exact ⟨rfl, rfl, rfl, s1.nx + 1, rfl, hA sDc⟩
      · by_cases k2 : kd = 2
        · subst k2
          refine go (cj rTI @gb) ?_
          refine ifs ?_ ?_ <;> first | exact nope | intro hb
          refine go (cj rTI (cj @gb @gl)) ?_
          refine ifs ?_ ?_ <;> first | exact nope | intro hb
          refine go (cj rTI (cj @gb @gl)) ?_
          exact ⟨rfl, rfl, rfl, s1.nx + 1, rfl, hA sPulse⟩
        · by_cases k4 : kd = 4
          · subst k4
            refine go (cj rTI @gb) ?_
            refine ifs ?_ ?_ <;> first | exact nope | intro hb
            refine go (cj rTI (cj @gb @gl)) ?_
            refine ifs ?_ ?_ <;> first | exact nope | intro hb
            refine go (cj rTI (cj @gb @gl)) ?_
            refine ifs ?_ ?_ <;> first | exact nope | intro hb
            refine go (cj rTI (cj @gb @gl)) ?_
            refine ifs ?_ ?_ <;> first | exact nope | intro hb
            refine go (cj rTI (cj @gb @gl)) ?_
            exact ⟨rfl, rfl, rfl, s1.nx + 1, rfl, hA sTable⟩
          · have hp : preW kd = [] := by unfold preW; rw [if_neg k1, if_neg k2, if_neg k4]
            rw [hp]
            refine go (cj rTI (cj @gb @k1)) ?_
            refine ifs ?_ ?_ <;> first | exact nope | intro hb
            refine go (cj rTI (cj @gb @k2)) ?_
            refine ifs ?_ ?_ <;> first | exact nope | intro hb
            refine go (cj rTI (cj @gb @k3)) ?_
            refine ifs ?_ ?_ <;> first | exact nope | intro hb
            refine go (cj rTI (cj @gb @k4)) ?_
            refine ifs ?_ ?_ <;> first | exact nope | intro hb
            refine go rTI ?_
            exact ⟨s.nx + 1, rfl, hL⟩
    · clear hL hs1
      have hpl : (preW kd).length ≤ 1 := by unfold preW; (repeat' split) <;> decide
      generalize preW kd = pre at *
      rintro e' s' ⟨h1, q1, id, q3, hL⟩
      have gb := hL.b
      rw [then_normal]
      refine go (cj rTI (cj @h1 (cj @q1 @gb))) ?_
      refine aw_loop (fun m e2 s2 => ∃ k id, m = V.length - k ∧ k ≤ V.length ∧ e2.n = 85 ∧ e2.m 1 = .ptr s.nx 0 ∧ e2.m 3 = .own id 0 (pre ++ (V.take k).map textN).length 1 ∧ e2.m 59 = .sl V.length (NC V) ∧ e2.m 60 = .v (.int .i64 V.length) ∧ e2.m 61 = .v (.int .i64 (k : Nat)) ∧ LI s s2 [.v (.int .i64 kd), .sl V.length (NC V), .sl S.length (IL S)] id (pre ++ (V.take k).map textN)) V.length ?_ ?_
      · refine ⟨0, id, by omega, by omega, ?_, ?_, ?_, ?_, ?_, ?_, ?_⟩
        all_goals ((first | refine rn (cj rTI (cj @h1 (cj @q1 @q3))) ?_ | exact rn0 (cj rTI (cj @h1 (cj @q1 @q3)))))
        all_goals (first | trivial | (simp; done) | (simp; exact hL))
      · clear h1 q1 q3 hL gb
        rintro m e2 s2 ⟨k, id, rfl, hk, h1, q1, q3, q59, q60, q61, hL⟩
        have gb := hL.b
        obtain ⟨o1, o2⟩ := hL.o
        by_cases hk2 : k < V.length
        · have f1 := nc_at V k hk2
          have f2 : 2 ≤ ((NC V).drop (k * 2)).length := by rw [List.length_drop, nc_len]; omega
          have hp := ctext_ax (V.getD k (0, 0))
          have ht := map_take textN V (0, 0) k hk2
          generalize V.getD k (0, 0) = n at *
          have gl := hL.l
          have ll := sl_len (pre ++ (V.take k).map textN)
          have hA := hL.app (((s2.push [.v (.int .i64 0), .v (.int .i64 0)]).set s2.nx [.v (.int .i64 n.1), .v (.int .i64 n.2)]).push [SV (textN n)]) (by show _ ≤ s2.nx + 1 + 1; omega) (fun k hk => by rw [St.push_ne ((s2.push _).set _ _) _ _ (show k ≠ s2.nx + 1 by omega), St.set_ne _ _ _ _ (by omega), St.push_ne s2 _ _ (by omega)]) [textN n]
          have hb0 : (pre ++ (V.take k).map textN).length ≤ 10001 := by rw [List.length_append, List.length_map, List.length_take]; omega
          rw [List.append_assoc, ← ht] at hA
          have hln : (pre ++ (V.take (k + 1)).map textN).length = (pre ++ (V.take k).map textN).length + 1 := by rw [ht, ← List.append_assoc, List.length_append]; rfl
          generalize hL0 : pre ++ (V.take k).map textN = L0 at *
          unfold iv at f1
          unfold NM SV at hp
          unfold SV at hA
          refine go (cj rTI (cj @h1 (cj @q60 @q61))) ?_
          refine ifs ?_ ?_ <;> first | exact nope | intro hb
          refine aw_skip ?_
          refine go (cj rTI (cj @h1 (cj @q59 (cj @q61 (cj @f1 @f2))))) ?_
          refine aw_reg fun K hK => ?_; refine rn (cj rTI (cj @h1 (cj @q3 (cj @gl @ll)))) ?_; refine cont_pure hp ?_; refine rn (cj rTI (cj @h1 (cj @q3 (cj @gl @ll)))) ?_; refine hK _ _ ?_; clear hK K
          refine go (cj rTI (cj @h1 @q61)) ?_
          simp only [block_normal, loop_normal]
          refine ⟨V.length - (k + 1), by omega, k + 1, s2.nx + 1 + 1, rfl, by omega, ?_, ?_, ?_, ?_, ?_, ?_, hA⟩
          all_goals ((first | refine rn (cj rTI (cj @h1 (cj @q1 (cj @q3 (cj @q59 (cj @q60 @q61)))))) ?_ | exact rn0 (cj rTI (cj @h1 (cj @q1 (cj @q3 (cj @q59 (cj @q60 @q61))))))))
          all_goals (first | rfl | trivial | rw [hln])
        · obtain rfl : k = V.length := by omega
          rw [List.take_length] at hL q3
          clear hk hk2 q59
          refine go (cj rTI (cj @h1 (cj @q1 (cj @q60 (cj @q61 @gb))))) ?_
          refine ifs ?_ ?_ <;> first | exact nope | intro hb
          refine go (cj rTI (cj @h1 (cj @q1 (cj @q60 (cj @q61 @gb))))) ?_
          have hpl2 : (pre ++ V.map textN).length ≤ 10001 := by rw [List.length_append, List.length_map]; omega
          generalize pre ++ V.map textN = pr2 at *
          clear hpl gb o1 o2 q60 q61
          refine aw_loop (fun m e3 s3 => ∃ k id, m = S.length - k ∧ k ≤ S.length ∧ e3.n = 85 ∧ e3.m 3 = .own id 0 (pr2 ++ (S.take k).map decS).length 1 ∧ e3.m 72 = .sl S.length (IL S) ∧ e3.m 73 = .v (.int .i64 S.length) ∧ e3.m 74 = .v (.int .i64 (k : Nat)) ∧ LI s s3 [.v (.int .i64 kd), .sl V.length (NC V), .sl S.length (IL S)] id (pr2 ++ (S.take k).map decS)) S.length ?_ ?_
          · refine ⟨0, id, by omega, by omega, ?_, ?_, ?_, ?_, ?_, ?_⟩
            all_goals ((first | refine rn (cj rTI (cj @h1 (cj @q1 @q3))) ?_ | exact rn0 (cj rTI (cj @h1 (cj @q1 @q3)))))
            all_goals (first | trivial | (simp; done) | (simp; exact hL))
          · clear h1 q1 q3 hL
            rintro m e3 s3 ⟨k, id, rfl, hk, h1, q3, q72, q73, q74, hL⟩
            obtain ⟨o1, o2⟩ := hL.o
            by_cases hk2 : k < S.length
            · have f1 := hd_IL S k hk2
              have ht := map_take decS S 0 k hk2
              have hz : -9223372036854775808 ≤ S.getD k 0 ∧ S.getD k 0 ≤ 9223372036854775807 := h3 _ (by rw [List.getD_eq_getElem?_getD, List.getElem?_eq_getElem hk2]; exact List.getElem_mem _)
              generalize S.getD k 0 = n at *
              have hp := itoa_ax n hz.1 hz.2
              have gl := hL.l
              have ll := sl_len (pr2 ++ (S.take k).map decS)
              have hA := hL.app (s3.push [SV (decS n)]) (Nat.le_succ _) (fun k hk => St.push_ne s3 _ _ (by omega)) [decS n]
              have hb0 : (pr2 ++ (S.take k).map decS).length ≤ 20001 := by rw [List.length_append, List.length_map, List.length_take]; omega
              rw [List.append_assoc, ← ht] at hA
              have hln : (pr2 ++ (S.take (k + 1)).map decS).length = (pr2 ++ (S.take k).map decS).length + 1 := by rw [ht, ← List.append_assoc, List.length_append]; rfl
              generalize hL0 : pr2 ++ (S.take k).map decS = L0 at *
              unfold iv at f1
              unfold SV at hp hA
              refine go (cj rTI (cj @h1 (cj @q73 @q74))) ?_
              refine ifs ?_ ?_ <;> first | exact nope | intro hb
              refine aw_skip ?_
              refine go (cj rTI (cj @h1 (cj @q72 (cj @q74 @f1)))) ?_
              refine aw_reg fun K hK => ?_; refine rn (cj rTI (cj @h1 (cj @q3 (cj @gl @ll)))) ?_; refine cont_pure hp ?_; refine rn (cj rTI (cj @h1 (cj @q3 (cj @gl @ll)))) ?_; refine hK _ _ ?_; clear hK K
              refine go (cj rTI (cj @h1 @q74)) ?_
              simp only [block_normal, loop_normal]
              refine ⟨S.length - (k + 1), by omega, k + 1, s3.nx + 1, rfl, by omega, ?_, ?_, ?_, ?_, ?_, hA⟩
              all_goals ((first | refine rn (cj rTI (cj @h1 (cj @q3 (cj @q72 (cj @q73 @q74))))) ?_ | exact rn0 (cj rTI (cj @h1 (cj @q3 (cj @q72 (cj @q73 @q74)))))))
              all_goals (first | rfl | trivial | rw [hln])
            · obtain rfl : k = S.length := by omega
              rw [List.take_length] at hL q3
              clear hk hk2 q72
              refine go (cj rTI (cj @h1 (cj @q73 @q74))) ?_
              refine ifs ?_ ?_ <;> first | exact nope | intro hb
              refine go (cj rTI (cj @h1 @q3)) ?_
              exact ⟨id, _, by omega, hL.l, frz_SL _ _, hL.fr⟩
end Go.Proofs.YtfjelkjlfcafgaaGreatDoor.CardJ
end
