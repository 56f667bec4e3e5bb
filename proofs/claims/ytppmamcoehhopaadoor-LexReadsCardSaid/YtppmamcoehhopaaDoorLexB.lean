/- strings.Cut at one byte: a walk of its own, in whatever world. -/
import Derived.Test.YtppmamcoehhopaaDoorBase
import Derived.Test.YtppmamcoehhopaaDoorShelf
import Derived.Lib.IndexLaws
namespace Go.Proofs.YtppmamcoehhopaaDoor.LexB
open Go.RowKit Go.Proofs.YtppmamcoehhopaaDoor.Base
set_option linter.unusedVariables false
set_option linter.unusedSimpArgs false

def bs (l : List UInt8) : ByteArray := ⟨l.toArray⟩
/-- What stands ahead of the first c, and behind it. -/
def pre (l : List UInt8) (c : UInt8) : List UInt8 := l.takeWhile (· != c)
def has (l : List UInt8) (c : UInt8) : Bool := l.contains c
def post (l : List UInt8) (c : UInt8) : List UInt8 := (l.dropWhile (· != c)).drop 1

theorem idx_split (c : UInt8) : ∀ l : List UInt8, (Lib.indexByte l c = -1 ∧ pre l c = l ∧ post l c = [] ∧ has l c = false) ∨
    ∃ k : Nat, k < l.length ∧ Lib.indexByte l c = (k : Int) ∧ pre l c = l.take k ∧ post l c = l.drop (k + 1) ∧ has l c = true
  | [] => .inl ⟨rfl, rfl, rfl, rfl⟩
  | b :: l => by
    unfold Lib.indexByte pre post has
    by_cases h : b = c
    · subst h
      exact .inr ⟨0, by simp, by simp, by simp, by simp, by simp⟩
    · have h1 : (b == c) = false := by simpa using h
      have h2 : (b != c) = true := by simpa using h
      have h3 : (c == b) = false := by simpa using fun e => h e.symm
      rcases idx_split c l with ⟨e, p, q, m⟩ | ⟨k, hk, e, p, q, m⟩
      · refine .inl ⟨by simp [h1, e], ?_, ?_, ?_⟩
        · simp only [List.takeWhile_cons, h2]; unfold pre at p; simp [p]
        · simp only [List.dropWhile_cons, h2]; unfold post at q; simpa using q
        · unfold has at m; simp only [List.contains_cons, h3, Bool.false_or]; exact m
      · refine .inr ⟨k + 1, by simp; omega, ?_, ?_, ?_, ?_⟩
        · have hne : ((k : Int) == -1) = false := by simp <;> omega
          simp [h1, e, hne]
        · simp only [List.takeWhile_cons, h2]; unfold pre at p; simp [p]
        · simp only [List.dropWhile_cons, h2]; unfold post at q; simpa using q
        · unfold has at m; simp only [List.contains_cons, h3, Bool.false_or]; exact m

theorem ret_cut {a b a' b' : ByteArray} {x y : Bool} (h1 : a = a') (h2 : b = b') (h3 : x = y) : Ending.returned (.tuple #[.string a, .string b, .bool x]) = .returned (.tuple #[.string a', .string b', .bool y]) := by subst h1; subst h2; subst h3; rfl
theorem extract_take (s : ByteArray) (k : Nat) : s.extract 0 k = bs (s.data.toList.take k) := by
  unfold bs
  apply ByteArray.ext
  rw [ByteArray.data_extract]
  apply Array.ext'
  simp
theorem extract_drop (s : ByteArray) (k : Nat) : s.extract k s.size = bs (s.data.toList.drop k) := by
  unfold bs
  apply ByteArray.ext
  rw [ByteArray.data_extract]
  apply Array.ext'
  have e : s.size = s.data.toList.length := rfl
  rw [Array.toList_extract, List.extract, e, List.take_of_length_le (by simp)]
theorem bs_append (a b : List UInt8) : bs (a ++ b) = bs a ++ bs b := by
  apply ByteArray.ext
  simp [bs]
theorem bs_size (l : List UInt8) : (bs l).size = l.length := rfl
theorem bs_self (s : ByteArray) : bs s.data.toList = s := rfl

theorem cut_lite_one (s : ByteArray) (c : UInt8) (w : World) (hs : s.size ≤ 9223372036854775806) :
    Calls Tryd.prog 19 #[.string s, .string ⟨#[c]⟩] w fun e w' => e = .returned (.tuple #[.string (bs (pre s.data.toList c)), .string (bs (post s.data.toList c)), .bool (has s.data.toList c)]) ∧ ∃ n, w' = w.drewN n := by
  rcases idx_split c s.data.toList with ⟨e, p, q, m⟩ | ⟨k, hk, e, p, q, m⟩
  · have HI := fun w : World => Tryd.stringslite_Index_one s c w
    rw [e] at HI
    rw [p, q, m]
    clear p q m e
    go_enter Tryd.func19, Tryd.ntmps19
    go_wp2_with (go_at_call 24; refine (HI _).mono ?_; rintro e w' ⟨rfl, rfl⟩)
    go_ret3
    exact ⟨ret_cut (bs_self s).symm rfl rfl, 0, rfl⟩
  · have HI := fun w : World => Tryd.stringslite_Index_one s c w
    rw [e] at HI
    rw [p, q, m, ← extract_take, ← extract_drop]
    clear p q m e
    have hk1 : k < s.size := by simpa using hk
    clear hk
    have h1 : decide ((k : Int) ≤ (s.size : Int)) = true := by simp <;> omega
    go_enter Tryd.func19, Tryd.ntmps19
    go_wp2_with (go_at_call 24; refine (HI _).mono ?_; rintro e w' ⟨rfl, rfl⟩)
    go_quiet (fail)
    go_wp2
    go_ret3
    exact ⟨ret_cut rfl rfl rfl, _, rfl⟩

theorem cut_one (s : ByteArray) (c : UInt8) (w : World) (hs : s.size ≤ 9223372036854775806) :
    Calls Tryd.prog 14 #[.string s, .string ⟨#[c]⟩] w fun e w' => e = .returned (.tuple #[.string (bs (pre s.data.toList c)), .string (bs (post s.data.toList c)), .bool (has s.data.toList c)]) ∧ ∃ n, w' = w.drewN n := by
  have HI := fun w : World => cut_lite_one s c w hs
  go_enter Tryd.func14, Tryd.ntmps14
  go_wp2_with (go_at_call 19; refine (HI _).mono ?_; rintro e w' ⟨rfl, n, rfl⟩)
  go_ret3
  exact ⟨rfl, _, rfl⟩
end Go.Proofs.YtppmamcoehhopaaDoor.LexB
