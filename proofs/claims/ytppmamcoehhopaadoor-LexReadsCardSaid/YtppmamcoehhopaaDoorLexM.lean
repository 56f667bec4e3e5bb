/- Plain lists: what lex's words are. -/
import Derived.Test.YtppmamcoehhopaaDoorLexB
import Derived.Lib.FieldsP
import Derived.Lib.TrimUEq
import Derived.Lib.Case
namespace Go.Proofs.YtppmamcoehhopaaDoor.LexM
open Go.RowKit Go.Proofs.YtppmamcoehhopaaDoor.Base Go.Proofs.YtppmamcoehhopaaDoor.LexB
set_option linter.unusedVariables false

def blankB (b : UInt8) : Bool := b == 9 || b == 13 || b == 32
/-- A line's pieces between blanks. -/
def fieldsGo : List UInt8 → List UInt8 → List (List UInt8)
  | cur, [] => if cur.isEmpty then [] else [cur]
  | cur, b :: l => if blankB b then (if cur.isEmpty then fieldsGo [] l else cur :: fieldsGo [] l) else fieldsGo (cur ++ [b]) l
def fieldsB (l : List UInt8) : List (List UInt8) := fieldsGo [] l
/-- What a line says. -/
def lexWords (l : List UInt8) : List (List UInt8) :=
  match fieldsB ((pre l 59).map Lib.lowerB) with
  | (42 :: _) :: _ => []
  | w => w
def strs (L : List (List UInt8)) : List Value := L.map fun l => .string (bs l)
theorem strs_length (L : List (List UInt8)) : (strs L).length = L.length := by simp [strs]

theorem strs_one (L : List (List UInt8)) : ∀ u ∈ strs L, u.oneCell' = true := by
  intro u hu
  obtain ⟨l, _, rfl⟩ := List.mem_map.1 hu
  rfl
theorem fieldsGo_ne : ∀ (l cur : List UInt8) (x : List UInt8), x ∈ fieldsGo cur l → x ≠ []
  | [], cur, x, h => by
    unfold fieldsGo at h
    split at h
    · simp at h
    · rename_i hc; simp at h hc; subst h; exact hc
  | b :: l, cur, x, h => by
    unfold fieldsGo at h
    split at h
    · split at h
      · exact fieldsGo_ne l _ x h
      · rename_i hc; rcases List.mem_cons.1 h with rfl | h
        · simpa using hc
        · exact fieldsGo_ne l _ x h
    · exact fieldsGo_ne l _ x h
theorem fieldsB_ne (l : List UInt8) (x : List UInt8) (h : x ∈ fieldsB l) : x ≠ [] := fieldsGo_ne l [] x h

theorem fieldsGo_blank0 {b : UInt8} (h : blankB b = true) (l : List UInt8) : fieldsGo [] (b :: l) = fieldsGo [] l := by rw [fieldsGo, if_pos h]; rfl
theorem fieldsGo_blank {b : UInt8} (h : blankB b = true) {cur : List UInt8} (hc : cur ≠ []) (l : List UInt8) : fieldsGo cur (b :: l) = cur :: fieldsGo [] l := by
  rw [fieldsGo, if_pos h, if_neg (by simpa using hc)]
theorem fieldsGo_more {b : UInt8} (h : ¬ blankB b = true) (cur : List UInt8) (l : List UInt8) : fieldsGo cur (b :: l) = fieldsGo (cur ++ [b]) l := by rw [fieldsGo, if_neg h]
theorem getD_at (l : List UInt8) (k : Nat) (h : k < l.length) : l.getD k 0 = l[k] := by simp [List.getD, List.getElem?_eq_getElem h]
def pB (x : Nat) : Bool := x == 9 || x == 13 || x == 32
theorem pB_byte (b : UInt8) : pB b.toNat = blankB b := by
  unfold pB blankB
  rw [Bool.eq_iff_iff]
  simp [← UInt8.toNat_inj]

theorem decode_ascii (s : ByteArray) (pos : Nat) (hp : pos < s.size) (ha : (s.data.toList.getD pos 0).toNat < 128) : Utf8.decode s pos = ((s.data.toList.getD pos 0).toNat, 1) := by
  have e : (s.get! pos).toNat = (s.data.toList.getD pos 0).toNat := by
    rw [ByteArray.get!, List.getD, getElem!_def]
    rw [Array.getElem?_toList]
    have : s.data[pos]? = some (s.data[pos]'hp) := Array.getElem?_eq_getElem hp
    rw [this]
    rfl
  rw [Lib.decode_at, Lib.decodeN_ascii _ _ _ _ _ (by rw [e]; exact ha), e]

def seg (s : ByteArray) (a b : Nat) : List UInt8 := (s.data.toList.take b).drop a
theorem seg_bs (s : ByteArray) (a b : Nat) : s.extract a b = bs (seg s a b) := by
  unfold bs seg
  apply ByteArray.ext
  rw [ByteArray.data_extract]
  apply Array.ext'
  rw [Array.toList_extract, List.extract_eq_take_drop, List.drop_take]
theorem seg_self (s : ByteArray) (a : Nat) (h : a ≤ s.size) : seg s a a = [] := by
  unfold seg
  apply List.drop_eq_nil_of_le
  simp
  omega
theorem seg_snoc (s : ByteArray) (a k : Nat) (h : a ≤ k) (hk : k < s.size) : seg s a (k + 1) = seg s a k ++ [s.data.toList.getD k 0] := by
  unfold seg
  have hk' : k < s.data.toList.length := by simpa using hk
  rw [List.take_succ_eq_append_getElem hk', List.drop_append_of_le_length (by simp; omega)]
  rw [getD_at _ _ hk']
theorem seg_ne (s : ByteArray) (a k : Nat) (h : a < k) (hk : k ≤ s.size) : seg s a k ≠ [] := by
  intro e
  have := congrArg List.length e
  unfold seg at this
  simp at this
  have hs : s.data.size = s.size := rfl
  omega
def open_ (s : ByteArray) (pos : Nat) : Option Nat → List UInt8
  | some a => seg s a pos
  | none => []

theorem spans_fields (s : ByteArray) (ha : ∀ j, j < s.size → (s.data.toList.getD j 0).toNat < 128) : ∀ (f pos : Nat) (st : Option Nat) (acc : List (Nat × Nat)), s.size - pos ≤ f → pos ≤ s.size → (∀ a, st = some a → a < pos) →
    (Lib.closeSpans s (Lib.spansFromP pB s f pos st acc)).map (fun x => seg s x.1 x.2) = acc.map (fun x => seg s x.1 x.2) ++ fieldsGo (open_ s pos st) (s.data.toList.drop pos)
  | 0, pos, st, acc, hf, hp, hs => by
    have e : pos = s.size := by omega
    subst e
    have hd : s.data.toList.drop s.size = [] := List.drop_eq_nil_of_le (Nat.le_of_eq rfl)
    rw [hd]
    cases st with
    | none => simp [Lib.spansFromP, Lib.closeSpans, fieldsGo, open_]
    | some a => simp [Lib.spansFromP, Lib.closeSpans, fieldsGo, open_, seg_ne s a _ (hs a rfl) (Nat.le_refl _)]
  | f + 1, pos, st, acc, hf, hp, hs => by
    by_cases hlt : pos < s.size
    · have hd : s.data.toList.drop pos = s.data.toList.getD pos 0 :: s.data.toList.drop (pos + 1) := by
        have hk' : pos < s.data.toList.length := by simpa using hlt
        rw [List.drop_eq_getElem_cons hk']
        rw [getD_at _ _ hk']
      have hdec := decode_ascii s pos hlt (ha pos hlt)
      unfold Lib.spansFromP
      rw [if_pos hlt, hdec, hd]
      simp only [pB_byte]
      by_cases hb : blankB (s.data.toList.getD pos 0) = true
      · rw [if_pos hb]
        cases st with
        | none =>
          have ih := spans_fields s ha f (pos + 1) none acc (by omega) (by omega) (by simp)
          show _ = _ ++ fieldsGo [] _
          rw [fieldsGo_blank0 hb]
          exact ih
        | some a =>
          have ih := spans_fields s ha f (pos + 1) none (acc ++ [(a, pos)]) (by omega) (by omega) (by simp)
          show _ = _ ++ fieldsGo (seg s a pos) _
          rw [fieldsGo_blank hb (seg_ne s a pos (hs a rfl) hp)]
          refine ih.trans ?_
          show _ ++ fieldsGo [] _ = _
          simp
      · rw [if_neg hb, fieldsGo_more hb]
        cases st with
        | none =>
          have ih := spans_fields s ha f (pos + 1) (some pos) acc (by omega) (by omega) (by simp)
          refine ih.trans ?_
          show _ ++ fieldsGo (seg s pos (pos + 1)) _ = _ ++ fieldsGo ([] ++ _) _
          rw [seg_snoc s pos pos (Nat.le_refl _) hlt, seg_self s pos hp]
        | some a =>
          have h1 := hs a rfl
          have ih := spans_fields s ha f (pos + 1) (some a) acc (by omega) (by omega) (by intro b hb; cases hb; omega)
          refine ih.trans ?_
          show _ ++ fieldsGo (seg s a (pos + 1)) _ = _ ++ fieldsGo (seg s a pos ++ _) _
          rw [seg_snoc s a pos (by omega) hlt]
    · have e : pos = s.size := by omega
      subst e
      have hd : s.data.toList.drop s.size = [] := List.drop_eq_nil_of_le (Nat.le_of_eq rfl)
      rw [hd]
      cases st with
      | none => simp [Lib.spansFromP, Lib.closeSpans, fieldsGo, open_]
      | some a => simp [Lib.spansFromP, Lib.closeSpans, fieldsGo, open_, seg_ne s a _ (hs a rfl) (Nat.le_refl _)]

theorem goFields_ascii (s : ByteArray) (ha : ∀ j, j < s.size → (s.data.toList.getD j 0).toNat < 128) : Lib.goFieldsP pB s = (fieldsB s.data.toList).map bs := by
  have h := spans_fields s ha s.size 0 none [] (by omega) (by omega) (by simp)
  unfold Lib.goFieldsP Lib.spansOfP
  have e : (fun x : Nat × Nat => s.extract x.1 x.2) = fun x => bs (seg s x.1 x.2) := by funext x; exact seg_bs s _ _
  rw [e]
  have h2 := congrArg (List.map bs) h
  rw [List.map_map] at h2
  refine Eq.trans ?_ (h2.trans ?_)
  · rfl
  · rfl
end Go.Proofs.YtppmamcoehhopaaDoor.LexM
