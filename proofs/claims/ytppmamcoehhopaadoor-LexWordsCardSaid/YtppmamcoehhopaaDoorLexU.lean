/- The walk of LexJoined. -/
import Derived.Test.YtppmamcoehhopaaDoorLexH
import Derived.Test.YtppmamcoehhopaaDoorLexT
namespace Go.Proofs.YtppmamcoehhopaaDoor.LexU
open Go.RowKit Go.Proofs.YtppmamcoehhopaaDoor.Base Go.Proofs.YtppmamcoehhopaaDoor.LexB Go.Proofs.YtppmamcoehhopaaDoor.LexM Go.Proofs.YtppmamcoehhopaaDoor.LexD Go.Proofs.YtppmamcoehhopaaDoor.LexF Go.Proofs.YtppmamcoehhopaaDoor.LexG Go.Proofs.YtppmamcoehhopaaDoor.LexH Go.Proofs.YtppmamcoehhopaaDoor.LexT
open Go.Proofs.YtppmamcoehhopaaDoor.LexE hiding W
set_option linter.unusedVariables false
set_option linter.unusedSimpArgs false

def SomeBool (e : Ending) : Prop := ∃ c : Bool, e = .returned (.bool c)
theorem goes_any (s : ByteArray) (w : World) (hs : s.size ≤ 140737488351232) :
    Calls Tryd.prog 13 #[.string s] w fun e w' => SomeBool e ∧ w' = w := by
  go_enter Tryd.func13, Tryd.ntmps13
  go_wp2
  go_loop [3] (fun i => ∃ k : Nat, k ≤ s.size ∧ i = .int .i64 k) (fun i => s.size - (intOf i).toNat)
  case atStart => exact ⟨0, Nat.zero_le _, rfl⟩
  case round =>
    obtain ⟨k, hk, rfl⟩ := hrel
    by_cases hlt : k < s.size
    · go_wp2
      · go_ret
        exact ⟨⟨_, rfl⟩, rfl⟩
      · go_round
        case rel => exact ⟨k + 1, by omega, by go_num⟩
        case measure => simp [intOf]; omega
    · obtain rfl : k = s.size := by omega
      go_wp2
      go_ret
      exact ⟨⟨_, rfl⟩, rfl⟩

theorem tens_snoc (t : List UInt8) (k : Nat) (h : k < t.length) : tens (t.take (k + 1)) = tens (t.take k) + if t.getD k 0 == 10 then 1 else 0 := by
  have e1 : t.take (k + 1) = t.take k ++ [t[k]] := List.take_succ_eq_append_getElem h
  rw [e1, getD_at t k h]
  unfold tens
  rw [List.countP_append, List.countP_singleton]
theorem tens_le (t : List UInt8) : tens t ≤ t.length := List.countP_le_length

def shiftP (m k : Nat) (P : List Piece) : List Piece := (P.take k).map (fun p => (m + p.1, p.2)) ++ P.drop k
theorem shiftP_zero (m : Nat) (P : List Piece) : shiftP m 0 P = P := by simp [shiftP]
theorem shiftP_all (m : Nat) (P : List Piece) : said (shiftP m P.length P) = shift m (said P) := by
  simp [shiftP, said, shift, Function.comp_def]
theorem shiftP_length (m k : Nat) (P : List Piece) : (shiftP m k P).length = P.length := by
  simp [shiftP]
  omega
theorem shiftP_next (m k : Nat) (P : List Piece) (hk : k < P.length) : shiftP m (k + 1) P = (shiftP m k P).set k (m + P[k].1, P[k].2) := by
  unfold shiftP
  have e1 : P.take (k + 1) = P.take k ++ [P[k]] := List.take_succ_eq_append_getElem hk
  have e2 : P.drop k = P[k] :: P.drop (k + 1) := List.drop_eq_getElem_cons hk
  rw [e1, e2, List.map_append, List.set_append_right _ _ (by simp; omega)]
  have e3 : k - ((P.take k).map (fun p => (m + p.1, p.2))).length = 0 := by simp; omega
  rw [e3]
  simp only [List.map_cons, List.map_nil, List.set_cons_zero, List.append_assoc, List.singleton_append]
theorem shiftP_at (m k : Nat) (P : List Piece) (hk : k < P.length) : (shiftP m k P)[k]? = some P[k] := by
  unfold shiftP
  rw [List.getElem?_append_right (by simp; omega)]
  have e3 : k - ((P.take k).map (fun p => (m + p.1, p.2))).length = 0 := by simp; omega
  rw [e3, List.getElem?_drop]
  simp [List.getElem?_eq_getElem hk]

theorem cellsOf_setAt : ∀ (P : List Piece) (k : Nat) (m : Nat) (p : Piece), P[k]? = some p → (cellsOf P).set (k * 2) (.int .i64 m) = cellsOf (P.set k (m, p.2))
  | [], k, m, p, h => by simp at h
  | q :: P, 0, m, p, h => by
    simp at h
    subst h
    simp [cellsOf]
  | q :: P, k + 1, m, p, h => by
    have ih := cellsOf_setAt P k m p (by simpa using h)
    have e : cellsOf (q :: P) = .int .i64 q.1 :: q.2.2 :: cellsOf P := by simp [cellsOf]
    rw [e, show (k + 1) * 2 = k * 2 + 1 + 1 by omega, List.set_cons_succ, List.set_cons_succ, ih]
    simp [cellsOf]

/-- A line's number is written over. -/
theorem lown_setAt {w : World} {B g n c k m : Nat} {p : Piece} {P : List Piece} (h : LOwn w B (.slice (some ⟨g, 0, none⟩) n c) P) (hn : P.length = n) (hp : P[k]? = some p) :
    LOwn (w.setCell ⟨g, k * 2, none⟩ (.int .i64 m)) B (.slice (some ⟨g, 0, none⟩) n c) (P.set k (m, p.2)) := by
  subst hn
  have hst := (h.row.stored (k * 2) (.int .i64 m)).1
  rw [cellsOf_setAt P k m p hp] at hst
  have hkl : k < P.length := (List.getElem?_eq_some_iff.1 hp).1
  have hpk : P[k] = p := (List.getElem?_eq_some_iff.1 hp).2
  have hmem : ∀ q ∈ P.set k (m, p.2), q.2.2 ∈ P.map (fun q => q.2.2) ∧ ∃ q' ∈ P, q'.2 = q.2 := by
    intro q hq
    obtain ⟨i, hi, rfl⟩ := List.mem_iff_getElem.1 hq
    rw [List.getElem_set]
    rw [List.length_set] at hi
    split
    · exact ⟨List.mem_map.2 ⟨p, hpk ▸ List.getElem_mem hkl, rfl⟩, p, hpk ▸ List.getElem_mem hkl, rfl⟩
    · exact ⟨List.mem_map.2 ⟨P[i], List.getElem_mem hi, rfl⟩, P[i], List.getElem_mem hi, rfl⟩
  refine ⟨?_, ?_, ?_⟩
  · rw [List.length_set]
    exact hst
  · intro q hq
    obtain ⟨_, q', hq', e⟩ := hmem q hq
    rw [← e]
    have ho := h.inner q' hq'
    have hv := own_ne ho h.row (by decide)
    obtain ⟨h1, h2⟩ := ho
    refine ⟨h1, ?_⟩
    rcases h2 with h2 | ⟨g', cap, cur, hv', hb, hh, r⟩
    · exact .inl h2
    · refine .inr ⟨g', cap, cur, hv', hb, ?_, r⟩
      rw [Below.heap_setCell _ _ _ _ (by
        rw [hv'] at hv
        rcases hv with hv | hv
        · simp [Value.ownBlock] at hv
        · simpa [Value.ownBlock] using hv)]
      exact hh
  · have e : P.set k (m, p.2) = P.set k (m, P[k].2) := by rw [hpk]
    rw [e, List.pairwise_iff_getElem]
    have hap := List.pairwise_iff_getElem.1 h.apart
    intro i j hi hj hij
    rw [List.length_set] at hi hj
    have e2 : ∀ (i : Nat) (hi : i < P.length) (hi' : i < (P.set k (m, P[k].2)).length), ((P.set k (m, P[k].2))[i]).2.2 = (P[i]).2.2 := by
      intro i hi hi'
      rw [List.getElem_set]
      split
      · rename_i hki
        subst hki
        rfl
      · rfl
    intro b hb
    rw [e2 i hi] at hb
    rw [e2 j hj]
    exact hap i j hi hj hij b hb
theorem own_slice {w : World} {B e s n : Nat} {v : Value} {xs : List Value} (h : w.ownsRow B e s v n xs) : ∃ A c, v = .slice A n c := by
  rcases h.2 with ⟨rfl, rfl⟩ | ⟨g, cap, cur, rfl, r⟩
  · exact ⟨_, _, rfl⟩
  · exact ⟨_, _, rfl⟩
theorem cellsOf_one {w : World} {B : Nat} {v : Value} {P : List Piece} (h : LOwn w B v P) : ∀ u ∈ cellsOf P, u.oneCell' = true := by
  intro u hu
  obtain ⟨p, hp, hu⟩ := List.mem_flatMap.1 hu
  simp only [List.mem_cons, List.mem_nil_iff, or_false] at hu
  rcases hu with rfl | rfl
  · rfl
  · obtain ⟨A, c, e⟩ := own_slice (h.inner p hp)
    rw [e]
    rfl
theorem rows_read {w : World} {B : Nat} {v : Value} {P : List Piece} (h : w.ownsRow B 32 2 v P.length (cellsOf P)) (hi : ∀ p ∈ P, RdStrs w p.2.2 p.2.1) : RdLines w v (said P) := by
  have hl : (said P).length = P.length := by simp [said]
  rcases h.2 with ⟨rfl, h0⟩ | ⟨g, cap, cur, rfl, hb, hg, hc, hm, hz, ht⟩
  · exact ⟨none, 0, by rw [hl, h0], by rw [hl, h0]; exact Nat.zero_le _, fun hp => by omega⟩
  · refine ⟨some ⟨g, 0, none⟩, cap, by rw [hl], by rw [hl]; exact Nat.le_trans hc hm, fun _ => ⟨g, 0, rfl, fun j hj => ?_⟩⟩
    rw [hl] at hj
    have hat := cellsOf_at P j P[j] (List.getElem?_eq_getElem hj)
    have hs : (said P).getD j (0, []) = (P[j].1, P[j].2.1) := by simp [said, List.getD, List.getElem?_eq_getElem hj]
    rw [hs, Nat.zero_add, h.cellAt _ (by omega), h.cellAt _ (by omega)]
    exact ⟨hat.1, _, hat.2, hi _ (List.getElem_mem hj)⟩
theorem cellsOf_append (P Q : List Piece) : cellsOf (P ++ Q) = cellsOf P ++ cellsOf Q := by simp [cellsOf]
theorem said_append (P Q : List Piece) : said (P ++ Q) = said P ++ said Q := by simp [said]
theorem said_length (P : List Piece) : (said P).length = P.length := by simp [said]
end Go.Proofs.YtppmamcoehhopaaDoor.LexU
