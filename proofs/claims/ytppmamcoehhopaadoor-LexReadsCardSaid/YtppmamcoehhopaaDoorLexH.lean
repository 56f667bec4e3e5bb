/- What a call has laid reads as its lines; awake. -/
import Derived.Test.YtppmamcoehhopaaDoorLexF
import Derived.Test.YtppmamcoehhopaaDoorLexG
namespace Go.Proofs.YtppmamcoehhopaaDoor.LexH
open Go.RowKit Go.Proofs.YtppmamcoehhopaaDoor.Base Go.Proofs.YtppmamcoehhopaaDoor.LexB Go.Proofs.YtppmamcoehhopaaDoor.LexM Go.Proofs.YtppmamcoehhopaaDoor.LexD Go.Proofs.YtppmamcoehhopaaDoor.LexF Go.Proofs.YtppmamcoehhopaaDoor.LexG
open Go.Proofs.YtppmamcoehhopaaDoor.LexE hiding W
set_option linter.unusedVariables false
set_option linter.unusedSimpArgs false

theorem strs_reads {w : World} {B : Nat} {v : Value} {L : W} (h : w.ownsRow B 9 1 v L.length (strs L)) : RdStrs w v L := by
  rcases h.2 with ⟨rfl, h0⟩ | ⟨g, cap, cur, rfl, hb, hg, hc, hm, hz, ht⟩
  · exact ⟨none, 0, by rw [h0], by rw [h0]; exact Nat.zero_le _, fun hp => by omega⟩
  · refine ⟨_, _, rfl, Nat.le_trans hc hm, fun _ => ⟨g, 0, rfl, fun j hj => ?_⟩⟩
    rw [Nat.zero_add, h.cellAt j (by omega)]
    simp [strs, List.getD, List.getElem?_eq_getElem hj]

theorem cellsOf_at : ∀ (P : List Piece) (j : Nat) (p : Piece), P[j]? = some p → (cellsOf P)[j * 2]? = some (.int .i64 p.1) ∧ (cellsOf P)[j * 2 + 1]? = some p.2.2
  | [], j, p, h => by simp at h
  | q :: P, 0, p, h => by
    simp at h
    subst h
    simp [cellsOf]
  | q :: P, j + 1, p, h => by
    have ih := cellsOf_at P j p (by simpa using h)
    have e : cellsOf (q :: P) = .int .i64 q.1 :: q.2.2 :: cellsOf P := by simp [cellsOf]
    rw [e, show (j + 1) * 2 = j * 2 + 1 + 1 by omega, show j * 2 + 1 + 1 + 1 = (j * 2 + 1) + 1 + 1 by omega]
    simpa using ih

theorem lown_reads {w : World} {B : Nat} {v : Value} {P : List Piece} (h : LOwn w B v P) : RdLines w v (said P) := by
  have hl : (said P).length = P.length := by simp [said]
  rcases h.row.2 with ⟨rfl, h0⟩ | ⟨g, cap, cur, rfl, hb, hg, hc, hm, hz, ht⟩
  · exact ⟨none, 0, by rw [hl, h0], by rw [hl, h0]; exact Nat.zero_le _, fun hp => by omega⟩
  · refine ⟨some ⟨g, 0, none⟩, cap, by rw [hl], by rw [hl]; exact Nat.le_trans hc hm, fun _ => ⟨g, 0, rfl, fun j hj => ?_⟩⟩
    rw [hl] at hj
    have hat := cellsOf_at P j P[j] (List.getElem?_eq_getElem hj)
    have hs : (said P).getD j (0, []) = (P[j].1, P[j].2.1) := by simp [said, List.getD, List.getElem?_eq_getElem hj]
    rw [hs, Nat.zero_add, h.row.cellAt _ (by omega), h.row.cellAt _ (by omega)]
    exact ⟨hat.1, _, hat.2, strs_reads (h.inner _ (List.getElem_mem hj))⟩

/-- The first text that each law asks for. -/
def first : List UInt8 := [42, 32, 116, 10, 82, 49, 32, 97, 10, 43, 32, 66, 59, 99, 10, 120]
def firstSaid : LL := [(2, [[114, 49], [97], [98]]), (4, [[120]])]
theorem first_all : lexAll first = (firstSaid, 0, 0) := by decide

theorem lit_reads (w1 : World) : RdLines (((w1.alloc (.cells #[.string ⟨#[114, 49]⟩, .string ⟨#[97]⟩, .string ⟨#[98]⟩] 9)).alloc (.cells #[.string ⟨#[120]⟩] 9)).alloc
    (.cells #[.int .i64 2, .slice (some ⟨w1.heap.size, 0, none⟩) 3 3, .int .i64 4, .slice (some ⟨w1.heap.size + 1, 0, none⟩) 1 1] 32)) (.slice (some ⟨w1.heap.size + 1 + 1, 0, none⟩) 2 2) firstSaid := by
  refine ⟨_, _, rfl, by decide, fun _ => ⟨_, 0, rfl, fun j hj => ?_⟩⟩
  match j, hj with
  | 0, _ =>
    refine ⟨by rw [cell_top _ _ _ _ _ (by simp)]; rfl, _, by rw [cell_top _ _ _ _ _ (by simp)]; rfl, ?_⟩
    refine ⟨_, _, rfl, by decide, fun _ => ⟨_, 0, rfl, fun i hi => ?_⟩⟩
    rw [cell_old _ _ _ _ (by simp; omega), cell_old _ _ _ _ (by simp), cell_top _ _ _ _ _ rfl]
    match i, hi with
    | 0, _ => rfl
    | 1, _ => rfl
    | 2, _ => rfl
  | 1, _ =>
    refine ⟨by rw [cell_top _ _ _ _ _ (by simp)]; rfl, _, by rw [cell_top _ _ _ _ _ (by simp)]; rfl, ?_⟩
    refine ⟨_, _, rfl, by decide, fun _ => ⟨_, 0, rfl, fun i hi => ?_⟩⟩
    rw [cell_old _ _ _ _ (by simp), cell_top _ _ _ _ _ (by simp)]
    match i, hi with
    | 0, _ => rfl
set_option maxRecDepth 100000 in
theorem awake_any (w : World) : Calls Tryd.prog 8 #[] w fun e w' => e = .returned (.bool true) ∧ Below w.heap.size w w' := by
  have hL := lines_any first w
  rw [first_all] at hL
  have HL := aside hL
  clear hL
  go_enter Tryd.func8, Tryd.ntmps8
  go_wp2_with fail
  refine HL.out.mono ?_
  rintro e w1 ⟨v, P, rfl, ho, hs, hb⟩
  have HO := aside ho
  have HB := aside hb
  have HS := aside hs
  clear ho hb hs
  go_wp2_with fail
  refine (same_any (said P) firstSaid v _ _ (lown_reads (HO.out.below ((((Below.refl _ w1).alloc (Nat.le_refl _) _).alloc (by simp) _).alloc (by simp; omega) _))) (lit_reads w1)).mono ?_
  rintro e w2 ⟨rfl, n, rfl⟩
  go_wp2
  go_ret
  exact ⟨ret_bool (decide_eq_true HS.out), below_drewN ((((HB.out).alloc HB.out.size _).alloc (by have := HB.out.size; simp; omega) _).alloc (by have := HB.out.size; simp; omega) _) _⟩
end Go.Proofs.YtppmamcoehhopaaDoor.LexH
