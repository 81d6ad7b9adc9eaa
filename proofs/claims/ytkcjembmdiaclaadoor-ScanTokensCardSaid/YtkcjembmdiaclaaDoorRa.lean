/- The walk of the document's Line. -/
import Derived.Test.YtkcjembmdiaclaaDoorU
namespace Go.Proofs.YtkcjembmdiaclaaDoor
open Go.RowKit Go.Lib Go.Maps
set_option linter.unusedVariables false
set_option linter.unusedSimpArgs false

theorem nls_snoc (s : ByteArray) (k : Nat) (h : k < s.size) : nls (s.data.toList.take (k + 1)) = nls (s.data.toList.take k) + (if s[k]'h = 10 then 1 else 0) := by
  rw [List.take_succ_eq_append_getElem (by rw [Array.length_toList]; exact h), nls_append]
  have : nls [s.data.toList[k]'(by rw [Array.length_toList]; exact h)] = if s[k]'h = 10 then 1 else 0 := by
    have e : s.data.toList[k]'(by rw [Array.length_toList]; exact h) = s[k]'h := rfl
    rw [e]
    unfold nls Lib.countByte
    rw [List.count_singleton]
    simp
  rw [this]
theorem nls_take_le (l : List UInt8) (k : Nat) : nls (l.take k) ≤ k := by
  unfold nls Lib.countByte
  refine Nat.le_trans List.count_le_length ?_
  rw [List.length_take]
  omega

set_option maxRecDepth 100000 in
set_option maxHeartbeats 4000000 in
/-- The document's Line. -/
theorem rline_any (s : ByteArray) (at_ : Nat) (w : World) (hs : s.size ≤ 1048576) (hk : at_ ≤ s.size) :
    Calls Tryd.prog 18 #[.string s, .int .i64 at_] w fun e w' => e = .returned (.int .i64 ((1 + nls (s.data.toList.take at_) : Nat) : Int)) ∧ w' = w := by
  go_enter Tryd.func18, Tryd.ntmps18
  go_wp2
  go_loopg [5, 6] at_ (fun gf nv iv wx => ∃ (k n : Nat), nv = .int .i64 n ∧ iv = .int .i64 k ∧ k ≤ at_ ∧ n ≤ k + 1 ∧ Hid (n = 1 + nls (s.data.toList.take k)) ∧ Hid (wx = w) ∧ at_ ≤ k + gf)
  case atStart => exact ⟨0, 1, rfl, rfl, by omega, by omega, rfl, rfl, by omega⟩
  case round =>
    obtain ⟨k, n, rfl, rfl, hka, hnk, HN, hw, hfu⟩ := hrel
    obtain rfl := hw.out
    clear hw
    by_cases hlt : k < at_
    · obtain ⟨g', rfl⟩ : ∃ g', gk = g' + 1 := ⟨gk - 1, by omega⟩
      have hlt2 : k < s.size := by omega
      obtain ⟨c, hc⟩ : ∃ c : Nat, (s[k]'hlt2).toNat = c := ⟨_, rfl⟩
      have hsn := nls_snoc s k hlt2
      by_cases h10 : ((c : Int) == 10) = true
      · have hn' : n + 1 = 1 + nls (s.data.toList.take (k + 1)) := by
          have h1 : s[k]'hlt2 = 10 := UInt8.toNat_inj.1 (by rw [hc]; rw [beq_iff_eq] at h10; simp; omega)
          rw [if_pos h1] at hsn
          have := HN.out
          omega
        have HN' := Lib.hid hn'
        clear hn' hsn HN
        go_wp2
        go_roundg g'
        case measure => omega
        case rel => exact ⟨k + 1, n + 1, by go_num, by go_num, by omega, by omega, HN', rfl, by omega⟩
      · have h10' : ((c : Int) == 10) = false := by simpa using h10
        have hn' : n = 1 + nls (s.data.toList.take (k + 1)) := by
          have h1 : ¬ s[k]'hlt2 = 10 := fun e => by rw [e] at hc; rw [beq_eq_false_iff_ne] at h10'; simp at hc; omega
          rw [if_neg h1] at hsn
          have := HN.out
          omega
        have HN' := Lib.hid hn'
        clear hn' hsn HN h10
        go_wp2
        go_roundg g'
        case measure => omega
        case rel => exact ⟨k + 1, n, rfl, by go_num, by omega, by omega, HN', rfl, by omega⟩
    · have hka' : k = at_ := by omega
      subst hka'
      go_wp2
      go_ret
      exact ⟨by rw [← HN.out]; exact ret_int (by omega), rfl⟩
end Go.Proofs.YtkcjembmdiaclaaDoor
