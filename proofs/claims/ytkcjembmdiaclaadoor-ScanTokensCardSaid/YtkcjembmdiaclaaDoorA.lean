/- Words of this claim over lists of bytes, and the walks of the program's smallest functions (letter, digit). -/
import Derived.Test.YtkcjembmdiaclaaDoorProg
import Derived.Below
import Derived.WalkKit
import Derived.RowKit3
import Derived.OwnWalk
import Derived.KernelRfl
import Derived.Deep.LoopGhost
import Derived.Deep.QuietTactic
import Derived.BigQuiet
import Derived.Deep.DeepFit
import Derived.Deep.DeepCutAuto
import Derived.Deep.CutBlock
import Derived.Laws.BitsLemmas
import Derived.Lib.Hide
import Derived.Lib.Strings
namespace Go.Proofs.YtkcjembmdiaclaaDoor
open Go.RowKit
set_option linter.unusedVariables false
set_option linter.unusedSimpArgs false

/-- A string of these bytes. -/
def bs (l : List UInt8) : ByteArray := ⟨l.toArray⟩
theorem bs_size (l : List UInt8) : (bs l).size = l.length := by simp [bs, ByteArray.size]
theorem bs_list (l : List UInt8) : (bs l).data.toList = l := by simp [bs]
theorem bs_of (s : ByteArray) : bs s.data.toList = s := by cases s; simp [bs]

theorem drop_at (s : ByteArray) {k : Nat} (h : k < s.size) : s.data.toList.drop k = s[k] :: s.data.toList.drop (k + 1) := by
  have h' : k < s.data.toList.length := by rw [Array.length_toList]; exact h
  rw [List.drop_eq_getElem_cons h']
  rfl
theorem drop_end (s : ByteArray) {k : Nat} (h : ¬ k < s.size) : s.data.toList.drop k = [] :=
  List.drop_eq_nil_of_le (by rw [Array.length_toList]; exact Nat.le_of_not_lt h)
/-- A stretch of a string, as bytes. -/
theorem bs_extract (s : ByteArray) (a b : Nat) : s.extract a b = bs ((s.data.toList.drop a).take (b - a)) := by
  rw [← Lib.extract_data, bs_of]
theorem bs_drop (s : ByteArray) (a : Nat) : s.extract a s.size = bs (s.data.toList.drop a) := by
  rw [bs_extract, List.take_of_length_le]
  rw [List.length_drop, Array.length_toList]
  exact Nat.le_refl _
theorem bs_take (s : ByteArray) (b : Nat) : s.extract 0 b = bs (s.data.toList.take b) := by
  rw [bs_extract]
  rfl
theorem extract_none (s : ByteArray) : s.extract s.size s.size = ⟨#[]⟩ := by
  rw [bs_drop, List.drop_of_length_le (by rw [Array.length_toList]; exact Nat.le_refl _)]
  rfl
theorem ret_int {k : IntKind} {a b : Int} (h : a = b) : Ending.returned (.int k a) = .returned (.int k b) := by rw [h]

def letterN (c : Nat) : Bool := decide ((97 ≤ c ∧ c ≤ 122) ∨ (65 ≤ c ∧ c ≤ 90) ∨ c = 95 ∨ 127 < c)
def digitN (c : Nat) : Bool := decide (48 ≤ c ∧ c ≤ 57)

theorem digit_any (r : Int) (w : World) (_ : 0 ≤ r) :
    Calls Tryd.prog 31 #[.int .i32 r] w fun e w' => e = .returned (.bool (digitN r.toNat)) ∧ w' = w := by
  have hd : digitN r.toNat = decide (48 ≤ r ∧ r ≤ 57) := by unfold digitN; exact decide_eq_decide.2 (by omega)
  rw [hd]
  by_cases h1 : 48 ≤ r <;> by_cases h2 : r ≤ 57
  all_goals
    go_enter Tryd.func31, Tryd.ntmps31
    go_wp2
    go_ret
    exact ⟨by simp [*], rfl⟩

/-- What Go's test says, bit by bit. -/
theorem or32 (c : Nat) (h : c < 128) : (97 ≤ (Go.bits .or .i32 (c : Int) 32) ∧ (Go.bits .or .i32 (c : Int) 32) ≤ 122) ↔ ((97 ≤ c ∧ c ≤ 122) ∨ (65 ≤ c ∧ c ≤ 90)) := by
  revert c; decide

theorem ret_bool {a b : Bool} (h : a = b) : Ending.returned (.bool a) = .returned (.bool b) := by rw [h]

theorem letter_any (r : Int) (w : World) (h0 : 0 ≤ r) :
    Calls Tryd.prog 28 #[.int .i32 r] w fun e w' => e = .returned (.bool (letterN r.toNat)) ∧ w' = w := by
  obtain ⟨c, rfl⟩ : ∃ c : Nat, r = c := ⟨r.toNat, by omega⟩
  obtain ⟨x, hx⟩ : ∃ x, Go.bits .or .i32 (c : Int) 32 = x := ⟨_, rfl⟩
  obtain ⟨B, hB⟩ : ∃ B, letterN (c : Int).toNat = B := ⟨_, rfl⟩
  rw [hB]
  have HB := Lib.hid hB
  clear hB
  by_cases h1 : (c : Int) < 128
  · have h := or32 c (by omega)
    rw [hx] at h
    have hd : letterN (c : Int).toNat = decide ((97 ≤ x ∧ x ≤ 122) ∨ (c : Int) = 95) := by
      unfold letterN; exact decide_eq_decide.2 (by rw [h]; simp; omega)
    have HD := Lib.hid hd
    clear h hd
    by_cases h2 : 97 ≤ x <;> by_cases h3 : x ≤ 122 <;> by_cases h4 : ((c : Int) == 95) = true
    all_goals
      go_enter Tryd.func28, Tryd.ntmps28
      go_wp2
      go_ret
      refine ⟨ret_bool ?_, rfl⟩
      rw [← HB.out, HD.out]
      simp at h4
      first | (simp; omega) | (rw [Bool.eq_iff_iff]; simp; omega)
  · have hd : letterN (c : Int).toNat = true := by unfold letterN; exact decide_eq_true (by simp; omega)
    have HD := Lib.hid hd
    clear hd
    have h5 : (127 : Int) < c := by omega
    have h6 : ((c : Int) == 95) = false := by simp; omega
    by_cases h2 : 97 ≤ x <;> by_cases h3 : x ≤ 122
    all_goals
      go_enter Tryd.func28, Tryd.ntmps28
      go_wp2
      go_ret
      refine ⟨ret_bool ?_, rfl⟩
      rw [← HB.out, HD.out]

end Go.Proofs.YtkcjembmdiaclaaDoor
