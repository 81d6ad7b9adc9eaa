/- The walk of the program's quoted: how many bytes a text in quotes has. -/
import Derived.Test.YtkcjembmdiaclaaDoorA
namespace Go.Proofs.YtkcjembmdiaclaaDoor
open Go.RowKit
set_option linter.unusedVariables false
set_option linter.unusedSimpArgs false

def qFrom : List UInt8 → Nat → Nat
  | [], _ => 0
  | [c], i => if ((c.toNat : Int) == 34) = true then i + 1 else 0
  | c :: d :: r, i => if ((c.toNat : Int) == 34) = true then i + 1 else if ((c.toNat : Int) == 92) = true then (if ((d.toNat : Int) == 10) = true then 0 else qFrom r (i + 2)) else if ((c.toNat : Int) == 10) = true then 0 else qFrom (d :: r) (i + 1)
def quotedL (l : List UInt8) : Nat := qFrom (l.drop 1) 1

theorem quoted_any (s : ByteArray) (w : World) (hs : s.size ≤ 4611686018427387904) :
    Calls Tryd.prog 34 #[.string s] w fun e w' => e = .returned (.int .i64 (quotedL s.data.toList : Nat)) ∧ w' = w := by
  obtain ⟨R, hR⟩ : ∃ R, quotedL s.data.toList = R := ⟨_, rfl⟩
  rw [hR]
  have HR := Lib.hid hR
  clear hR
  go_enter Tryd.func34, Tryd.ntmps34
  go_wp2
  go_loop [3] (fun i => ∃ k : Nat, 1 ≤ k ∧ k ≤ s.size + 1 ∧ i = .int .i64 k ∧ Hid (qFrom (s.data.toList.drop k) k = R)) (fun i => s.size + 1 - (intOf i).toNat)
  case atStart => exact ⟨1, by omega, by omega, rfl, HR⟩
  case round =>
    obtain ⟨k, hk1, hk2, rfl, HK⟩ := hrel
    by_cases hlt : k < s.size
    · by_cases hlt2 : k + 1 < s.size
      · have hq := HK.out
        rw [drop_at s hlt, drop_at s hlt2] at hq
        have HQ := Lib.hid hq
        have HK0 := Lib.hid HK.out
        clear hq HK
        go_wp2
        · go_ret
          have h := HQ.out
          simp only [qFrom, *, if_true, if_false, Bool.false_eq_true, reduceIte] at h
          exact ⟨ret_int (by omega), rfl⟩
        · go_ret
          have h := HQ.out
          simp only [qFrom, *, if_true, if_false, Bool.false_eq_true, reduceIte] at h
          exact ⟨ret_int (by omega), rfl⟩
        · go_round
          case rel => exact ⟨k + 2, by omega, by omega, by go_num, by have h := HQ.out; simp only [qFrom, *, if_true, if_false, Bool.false_eq_true, reduceIte] at h; exact h⟩
          case measure => simp [intOf]; omega
        · go_ret
          have h := HQ.out
          simp only [qFrom, *, if_true, if_false, Bool.false_eq_true, reduceIte] at h
          exact ⟨ret_int (by omega), rfl⟩
        · go_round
          case rel => exact ⟨k + 1, by omega, by omega, by go_num, by have h := HQ.out; rw [drop_at s hlt2]; simp only [qFrom, *, if_true, if_false, Bool.false_eq_true, reduceIte] at h; exact h⟩
          case measure => simp [intOf]; omega
      · have hq := HK.out
        rw [drop_at s hlt, drop_end s hlt2] at hq
        have HQ := Lib.hid hq
        clear hq HK
        go_wp2
        · go_ret
          have h := HQ.out
          simp only [qFrom, *, if_true, if_false, Bool.false_eq_true, reduceIte] at h
          exact ⟨ret_int (by omega), rfl⟩
        · go_round
          case rel => exact ⟨k + 2, by omega, by omega, by go_num, by have h := HQ.out; rw [drop_end s (by omega)]; simp only [qFrom, *, if_true, if_false, Bool.false_eq_true, reduceIte] at h; exact h⟩
          case measure => simp [intOf]; omega
        · go_ret
          have h := HQ.out
          simp only [qFrom, *, if_true, if_false, Bool.false_eq_true, reduceIte] at h
          exact ⟨ret_int (by omega), rfl⟩
        · go_round
          case rel => exact ⟨k + 1, by omega, by omega, by go_num, by have h := HQ.out; rw [drop_end s (by omega)]; simp only [qFrom, *, if_true, if_false, Bool.false_eq_true, reduceIte] at h; exact h⟩
          case measure => simp [intOf]; omega
    · have hq := HK.out
      rw [drop_end s hlt] at hq
      have HQ := Lib.hid hq
      clear hq HK
      go_wp2
      go_ret
      have h := HQ.out
      simp only [qFrom] at h
      exact ⟨ret_int (by omega), rfl⟩
end Go.Proofs.YtkcjembmdiaclaaDoor
