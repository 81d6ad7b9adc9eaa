/- The walks of the document's number and utf8. (Lines alike written by gennum.py.) -/
import Derived.Test.YtkcjembmdiaclaaDoorSa
namespace Go.Proofs.YtkcjembmdiaclaaDoor
open Go.RowKit Go.Lib Go.Maps
set_option linter.unusedVariables false
set_option linter.unusedSimpArgs false

theorem nFrom_at (base : Int) (l : List UInt8) (k : Nat) (h : k < l.length) (n : Int) : nFrom base (l.drop k) n = if hexV (l[k]'h).toNat < 0 ∨ base ≤ hexV (l[k]'h).toNat then -1 else nFrom base (l.drop (k + 1)) (n * base + hexV (l[k]'h).toNat) := by
  rw [List.drop_eq_getElem_cons h]
  rfl

set_option maxRecDepth 100000 in
set_option maxHeartbeats 4000000 in
theorem rnumber_8 (s : ByteArray) (many : Nat) (w : World) (hs : s.size ≤ 1048576) (hm : many ≤ 8) :
    Calls Tryd.prog 54 #[.string s, .int .i64 many, .int .i64 8] w fun e w' => e = .returned (.int .i64 (numL s.data.toList many 8)) ∧ w' = w := by
  obtain ⟨V, hV⟩ : ∃ V, numL s.data.toList many 8 = V := ⟨_, rfl⟩
  rw [hV]
  by_cases hlt : s.size < many
  · have hn : V = -1 := by rw [← hV]; unfold numL; rw [if_pos (by rw [Array.length_toList]; exact hlt)]
    subst hn
    clear hV
    go_enter Tryd.func54, Tryd.ntmps54
    go_wp2
    go_ret
    exact ⟨rfl, rfl⟩
  · have hl : many ≤ s.size := by omega
    have hv : nFrom 8 ((s.data.toList.take many).drop 0) 0 = V := by rw [← hV, List.drop_zero]; unfold numL; rw [if_neg (by rw [Array.length_toList]; exact hlt)]
    have HV := Lib.hid hv
    have hl0 : decide (s.size < many) = false := decide_eq_false hlt
    clear hV hv hlt
    go_enter Tryd.func54, Tryd.ntmps54
    go_wp2
    go_loopg [7, 8] many (fun gf nv iv wx => ∃ (k n : Nat), nv = .int .i64 n ∧ iv = .int .i64 k ∧ k ≤ many ∧ n ≤ 4294967296 ∧ Hid (n < 16 ^ k) ∧ Hid (nFrom 8 ((s.data.toList.take many).drop k) n = V) ∧ Hid (wx = w) ∧ many ≤ k + gf)
    case atStart => exact ⟨0, 0, rfl, rfl, by omega, by omega, Lib.hid (by decide), HV, rfl, by omega⟩
    case round =>
      obtain ⟨k, n, rfl, rfl, hkm, hn, HB, HN, hw, hfu⟩ := hrel
      obtain rfl := hw.out
      clear hw HV
      by_cases hlt : k < many
      · obtain ⟨g', rfl⟩ : ∃ g', gk = g' + 1 := ⟨gk - 1, by omega⟩
        have hlt2 : k < s.size := by omega
        obtain ⟨c, hc⟩ : ∃ c : Nat, (s[k]'hlt2).toNat = c := ⟨_, rfl⟩
        have hc256 : c < 256 := by rw [← hc]; exact UInt8.toNat_lt _
        have hst := HN.out
        rw [nFrom_at _ (s.data.toList.take many) k (by rw [List.length_take, Array.length_toList]; exact Nat.lt_min.2 ⟨hlt, hlt2⟩) n] at hst
        have hge : ((s.data.toList.take many)[k]'(by rw [List.length_take, Array.length_toList]; exact Nat.lt_min.2 ⟨hlt, hlt2⟩)).toNat = c := by rw [List.getElem_take]; exact hc
        rw [hge] at hst
        have ch := fun w => rhex_any c w hc256
        have hbd := hexV_bd c
        obtain ⟨d, hd⟩ : ∃ d, hexV c = d := ⟨_, rfl⟩
        rw [hd] at hst ch hbd
        have hpow : 16 ^ (k + 1) = 16 ^ k * 16 := Nat.pow_succ ..
        have hpow8 : 16 ^ (k + 1) ≤ 16 ^ 8 := Nat.pow_le_pow_right (by decide) (by omega)
        have hnb := HB.out
        obtain ⟨hbd1, hbd2⟩ := hbd
        clear hge hd HN
        by_cases d0 : d < 0
        · have hV : V = -1 := by rw [← hst, if_pos (.inl d0)]
          subst hV
          clear hst hpow hpow8 hnb HB
          go_wp2_with (go_at_call 66; refine (ch _).mono ?_; rintro e w' ⟨rfl, hw'⟩; obtain rfl := hw'.symm)
          go_ret
          exact ⟨rfl, rfl⟩
        · by_cases d1 : 8 ≤ d
          · have hV : V = -1 := by rw [← hst, if_pos (.inr d1)]
            subst hV
            have d0' : 0 ≤ d := by omega
            clear hst hpow hpow8 hnb HB d0
            go_wp2_with (go_at_call 66; refine (ch _).mono ?_; rintro e w' ⟨rfl, hw'⟩; obtain rfl := hw'.symm)
            go_ret
            exact ⟨rfl, rfl⟩
          · rw [if_neg (by omega)] at hst
            obtain ⟨j, rfl⟩ : ∃ j : Nat, d = j := ⟨d.toNat, by omega⟩
            have d1' : (j : Int) < 8 := by omega
            have hn' : n * 8 + j < 16 ^ (k + 1) := by omega
            have hn8 : n * 8 + j ≤ 4294967296 := by omega
            have hst' : nFrom 8 ((s.data.toList.take many).drop (k + 1)) ((n * 8 + j : Nat) : Int) = V := by rw [← hst]; congr 1
            have HB' := Lib.hid hn'
            have HN' := Lib.hid hst'
            clear hst hst' hn' hpow hpow8 hnb HB d0 d1
            go_wp2_with (go_at_call 66; refine (ch _).mono ?_; rintro e w' ⟨rfl, hw'⟩; obtain rfl := hw'.symm)
            go_roundg g'
            case measure => omega
            case rel => exact ⟨k + 1, n * 8 + j, by go_num, by go_num, by omega, hn8, HB', HN', rfl, by omega⟩
      · have hkm' : k = many := by omega
        subst hkm'
        have hV : V = n := by
          have h := HN.out
          rw [List.drop_of_length_le (by rw [List.length_take]; omega)] at h
          exact h.symm
        subst hV
        clear HN HB
        go_wp2
        go_ret
        exact ⟨rfl, rfl⟩

set_option maxRecDepth 100000 in
set_option maxHeartbeats 4000000 in
theorem rnumber_16 (s : ByteArray) (many : Nat) (w : World) (hs : s.size ≤ 1048576) (hm : many ≤ 8) :
    Calls Tryd.prog 54 #[.string s, .int .i64 many, .int .i64 16] w fun e w' => e = .returned (.int .i64 (numL s.data.toList many 16)) ∧ w' = w := by
  obtain ⟨V, hV⟩ : ∃ V, numL s.data.toList many 16 = V := ⟨_, rfl⟩
  rw [hV]
  by_cases hlt : s.size < many
  · have hn : V = -1 := by rw [← hV]; unfold numL; rw [if_pos (by rw [Array.length_toList]; exact hlt)]
    subst hn
    clear hV
    go_enter Tryd.func54, Tryd.ntmps54
    go_wp2
    go_ret
    exact ⟨rfl, rfl⟩
  · have hl : many ≤ s.size := by omega
    have hv : nFrom 16 ((s.data.toList.take many).drop 0) 0 = V := by rw [← hV, List.drop_zero]; unfold numL; rw [if_neg (by rw [Array.length_toList]; exact hlt)]
    have HV := Lib.hid hv
    have hl0 : decide (s.size < many) = false := decide_eq_false hlt
    clear hV hv hlt
    go_enter Tryd.func54, Tryd.ntmps54
    go_wp2
    go_loopg [7, 8] many (fun gf nv iv wx => ∃ (k n : Nat), nv = .int .i64 n ∧ iv = .int .i64 k ∧ k ≤ many ∧ n ≤ 4294967296 ∧ Hid (n < 16 ^ k) ∧ Hid (nFrom 16 ((s.data.toList.take many).drop k) n = V) ∧ Hid (wx = w) ∧ many ≤ k + gf)
    case atStart => exact ⟨0, 0, rfl, rfl, by omega, by omega, Lib.hid (by decide), HV, rfl, by omega⟩
    case round =>
      obtain ⟨k, n, rfl, rfl, hkm, hn, HB, HN, hw, hfu⟩ := hrel
      obtain rfl := hw.out
      clear hw HV
      by_cases hlt : k < many
      · obtain ⟨g', rfl⟩ : ∃ g', gk = g' + 1 := ⟨gk - 1, by omega⟩
        have hlt2 : k < s.size := by omega
        obtain ⟨c, hc⟩ : ∃ c : Nat, (s[k]'hlt2).toNat = c := ⟨_, rfl⟩
        have hc256 : c < 256 := by rw [← hc]; exact UInt8.toNat_lt _
        have hst := HN.out
        rw [nFrom_at _ (s.data.toList.take many) k (by rw [List.length_take, Array.length_toList]; exact Nat.lt_min.2 ⟨hlt, hlt2⟩) n] at hst
        have hge : ((s.data.toList.take many)[k]'(by rw [List.length_take, Array.length_toList]; exact Nat.lt_min.2 ⟨hlt, hlt2⟩)).toNat = c := by rw [List.getElem_take]; exact hc
        rw [hge] at hst
        have ch := fun w => rhex_any c w hc256
        have hbd := hexV_bd c
        obtain ⟨d, hd⟩ : ∃ d, hexV c = d := ⟨_, rfl⟩
        rw [hd] at hst ch hbd
        have hpow : 16 ^ (k + 1) = 16 ^ k * 16 := Nat.pow_succ ..
        have hpow8 : 16 ^ (k + 1) ≤ 16 ^ 8 := Nat.pow_le_pow_right (by decide) (by omega)
        have hnb := HB.out
        obtain ⟨hbd1, hbd2⟩ := hbd
        clear hge hd HN
        by_cases d0 : d < 0
        · have hV : V = -1 := by rw [← hst, if_pos (.inl d0)]
          subst hV
          clear hst hpow hpow8 hnb HB
          go_wp2_with (go_at_call 66; refine (ch _).mono ?_; rintro e w' ⟨rfl, hw'⟩; obtain rfl := hw'.symm)
          go_ret
          exact ⟨rfl, rfl⟩
        · by_cases d1 : 16 ≤ d
          · have hV : V = -1 := by rw [← hst, if_pos (.inr d1)]
            subst hV
            have d0' : 0 ≤ d := by omega
            clear hst hpow hpow8 hnb HB d0
            go_wp2_with (go_at_call 66; refine (ch _).mono ?_; rintro e w' ⟨rfl, hw'⟩; obtain rfl := hw'.symm)
            go_ret
            exact ⟨rfl, rfl⟩
          · rw [if_neg (by omega)] at hst
            obtain ⟨j, rfl⟩ : ∃ j : Nat, d = j := ⟨d.toNat, by omega⟩
            have d1' : (j : Int) < 16 := by omega
            have hn' : n * 16 + j < 16 ^ (k + 1) := by omega
            have hn8 : n * 16 + j ≤ 4294967296 := by omega
            have hst' : nFrom 16 ((s.data.toList.take many).drop (k + 1)) ((n * 16 + j : Nat) : Int) = V := by rw [← hst]; congr 1
            have HB' := Lib.hid hn'
            have HN' := Lib.hid hst'
            clear hst hst' hn' hpow hpow8 hnb HB d0 d1
            go_wp2_with (go_at_call 66; refine (ch _).mono ?_; rintro e w' ⟨rfl, hw'⟩; obtain rfl := hw'.symm)
            go_roundg g'
            case measure => omega
            case rel => exact ⟨k + 1, n * 16 + j, by go_num, by go_num, by omega, hn8, HB', HN', rfl, by omega⟩
      · have hkm' : k = many := by omega
        subst hkm'
        have hV : V = n := by
          have h := HN.out
          rw [List.drop_of_length_le (by rw [List.length_take]; omega)] at h
          exact h.symm
        subst hV
        clear HN HB
        go_wp2
        go_ret
        exact ⟨rfl, rfl⟩
end Go.Proofs.YtkcjembmdiaclaaDoor
