/- The walk of the program's escape. -/
import Derived.Test.YtkcjembmdiaclaaDoorF
import Derived.Laws.IdiomStrings
import Derived.Laws.Runes
namespace Go.Proofs.YtkcjembmdiaclaaDoor
open Go.RowKit Go.Lib Go.Maps
set_option linter.unusedVariables false
set_option linter.unusedSimpArgs false

def escs : List UInt8 := [97, 98, 102, 110, 114, 116, 118, 92, 34]
def saids : List UInt8 := [7, 8, 12, 10, 13, 9, 11, 92, 34]
def escIx (c : Nat) : Int := Lib.indexByte escs ((c : Int).toNat.toUInt8)

/-- A string that is not empty, in the walk's words. -/
theorem not_empty {s : ByteArray} (h : 0 < s.size) : s.toList.isEmpty = false := by
  rw [Lib.toList_data]
  cases e : s.data.toList with
  | nil =>
    have : s.size = 0 := by rw [Lib.size_eq, e]; rfl
    omega
  | cons a l => rfl
theorem is_empty {s : ByteArray} (h : s.size = 0) : s = ⟨#[]⟩ := by
  rw [← bs_of s, List.eq_nil_of_length_eq_zero (by rw [← Lib.size_eq]; exact h : s.data.toList.length = 0)]
  rfl

theorem saids_at : ∀ i, i < 9 → (saids.drop i).take (i + 1 - i) = [saids.getD i 0] := by decide
theorem many_digit {c : Nat} (h : 4 ≤ manyN c) : ¬ (48 ≤ c ∧ c ≤ 57) := by
  unfold manyN at h
  intro hc
  rw [if_neg (by omega), if_neg (by omega), if_neg (by omega)] at h
  omega
theorem escape_empty (w : World) : Calls Tryd.prog 48 #[.string ⟨#[]⟩] w fun e w' => e = .returned (.tuple #[.string (bs []), .int .i64 0]) ∧ Below w.heap.size w w' := by
  go_enter Tryd.func48, Tryd.ntmps48
  go_wp2
  go_ret2
  exact ⟨rfl, Below.refl _ _⟩

set_option maxRecDepth 100000 in
set_option maxHeartbeats 1000000 in
theorem escape_one (s : ByteArray) (w : World) (h0 : 0 < s.size) (c : Nat) (hc : (s[0]'h0).toNat = c) (i : Nat) (hi : escIx c = i) (hi2 : i < 9) :
    Calls Tryd.prog 48 #[.string s] w fun e w' => e = .returned (.tuple #[.string (bs [saids.getD i 0]), .int .i64 1]) ∧ Below w.heap.size w w' := by
  have hemp := not_empty h0
  have cI := fun w => hexDigit_any (bs escs) (c : Int) w
  have e1 : Lib.indexByte escs (c : Int).toNat.toUInt8 = i := hi
  rw [bs_list, e1] at cI
  clear e1 hi
  have hsl := sl_lh (bs saids) i (i + 1) (by omega) (by rw [bs_size]; show i + 1 ≤ 9; omega)
  have e2 : (saids.drop i).take (i + 1 - i) = [saids.getD i 0] := saids_at i hi2
  rw [bs_list, e2] at hsl
  have e3 : ((i + 1 : Nat) : Int) = (i : Int) + 1 := by omega
  rw [e3] at hsl
  clear e2 e3
  have hsl' : ∀ W, (Instr.slice 9 (.string ⟨#[7, 8, 12, 10, 13, 9, 11, 92, 34]⟩) (some (.int .i64 (i : Int))) (some (.int .i64 ((i : Int) + 1))) none).run Tryd.prog W = .ok (.string (bs [saids.getD i 0])) W := hsl
  clear hsl
  obtain ⟨R, hR⟩ : ∃ R, bs [saids.getD i 0] = R := ⟨_, rfl⟩
  rw [hR] at hsl' ⊢
  clear hR
  go_enter Tryd.func48, Tryd.ntmps48
  go_wp2_with (go_at_call 57; refine (cI _).mono ?_; rintro e w' ⟨rfl, rfl⟩)
  go_ret2
  exact ⟨rfl, Below.refl _ _⟩

/-- A string of one byte made of a row of one. -/
theorem one_byte (n : Int) (h0 : 0 ≤ n) (h1 : n < 256) (W : World) : (convert 77 9 (.slice (some ⟨W.heap.size, 0, none⟩) 1 1)).run Tryd.prog (W.alloc (.cells #[.int .u8 n] 5)) = .ok (.string (bs [n.toNat.toUInt8])) (W.alloc (.cells #[.int .u8 n] 5)) := by
  have hn : (n.toNat.toUInt8).toNat = n.toNat := by
    rw [Nat.toUInt8, UInt8.toNat_ofNat']
    omega
  exact run_convert_bytes_back (P := Tryd.prog) (W.alloc (.cells #[.int .u8 n] 5)) 77 9 5 ⟨W.heap.size, 0, none⟩ 1 [n.toNat.toUInt8] Tryd.underlying77 Tryd.underlying5 Tryd.underlying9 (fun j hj => by
    have hj0 : j = 0 := by simp at hj; omega
    subst hj0
    simp [hn, Addr.add]
    omega)

set_option maxRecDepth 100000 in
set_option maxHeartbeats 1000000 in
theorem escape_oct (s : ByteArray) (w : World) (hs : s.size ≤ 4611686018427387904) (h0 : 0 < s.size) (c : Nat) (hc : (s[0]'h0).toNat = c) (hi : escIx c = -1) (hd : 48 ≤ c ∧ c ≤ 57) (n : Int) (hv : valueL s.data.toList 3 8 = some n) (hn : n < 256) (hn0 : 0 ≤ n) :
    Calls Tryd.prog 48 #[.string s] w fun e w' => e = .returned (.tuple #[.string (bs [n.toNat.toUInt8]), .int .i64 3]) ∧ Below w.heap.size w w' := by
  have hc256 : c < 256 := by rw [← hc]; exact UInt8.toNat_lt _
  have hemp := not_empty h0
  have cI := fun w => hexDigit_any (bs escs) (c : Int) w
  have e1 : Lib.indexByte escs (c : Int).toNat.toUInt8 = -1 := hi
  rw [bs_list, e1] at cI
  clear e1 hi
  have cd := fun w => digit_any (c : Int) w (by omega)
  have e2 : digitN (c : Int).toNat = true := by unfold digitN; exact decide_eq_true (by simp; omega)
  rw [e2] at cd
  obtain ⟨w1, w2, w3, m1, m2, m3, m4, hb3⟩ := map_made w c hc256
  have hmm := @run_makeMap Tryd.prog
  have cv := fun w => value_some s 3 8 w hs (by omega) (by omega) (by omega) n hv
  have ob := fun W => one_byte n hn0 hn W
  obtain ⟨R, hR⟩ : ∃ R, bs [n.toNat.toUInt8] = R := ⟨_, rfl⟩
  rw [hR] at ob ⊢
  clear e2 hv hd hR
  go_enter Tryd.func48, Tryd.ntmps48
  go_wp2_with (first | (go_at_call 57; refine (cI _).mono ?_; rintro e w' ⟨rfl, rfl⟩) | (go_at_call 31; refine (cd _).mono ?_; rintro e w' ⟨rfl, rfl⟩) | (go_at_call 58; refine (cv _).mono ?_; rintro e w' ⟨rfl, hb4⟩))
  go_ret2
  exact ⟨rfl, (hb3.trans (hb4.mono hb3.size)).alloc (Nat.le_trans hb3.size hb4.size) _⟩

set_option maxRecDepth 100000 in
set_option maxHeartbeats 1000000 in
theorem escape_oct_none (s : ByteArray) (w : World) (hs : s.size ≤ 4611686018427387904) (h0 : 0 < s.size) (c : Nat) (hc : (s[0]'h0).toNat = c) (hi : escIx c = -1) (hd : 48 ≤ c ∧ c ≤ 57) (hv : valueL s.data.toList 3 8 = none) :
    Calls Tryd.prog 48 #[.string s] w fun e w' => e = .returned (.tuple #[.string (bs []), .int .i64 0]) ∧ Below w.heap.size w w' := by
  have hc256 : c < 256 := by rw [← hc]; exact UInt8.toNat_lt _
  have hemp := not_empty h0
  have cI := fun w => hexDigit_any (bs escs) (c : Int) w
  have e1 : Lib.indexByte escs (c : Int).toNat.toUInt8 = -1 := hi
  rw [bs_list, e1] at cI
  clear e1 hi
  have cd := fun w => digit_any (c : Int) w (by omega)
  have e2 : digitN (c : Int).toNat = true := by unfold digitN; exact decide_eq_true (by simp; omega)
  rw [e2] at cd
  obtain ⟨w1, w2, w3, m1, m2, m3, m4, hb3⟩ := map_made w c hc256
  have hmm := @run_makeMap Tryd.prog
  have cv := fun w => value_none s 3 8 w hs (by omega) (by omega) (by omega) hv
  have hp : decide (0 < (manyN c : Int)) = false := decide_eq_false (by unfold manyN; split; omega; split; omega; split <;> omega)
  have hx : ((c : Int) == 120) = false := by simp; omega
  clear e2 hv hd
  go_enter Tryd.func48, Tryd.ntmps48
  go_wp2_with (first | (go_at_call 57; refine (cI _).mono ?_; rintro e w' ⟨rfl, rfl⟩) | (go_at_call 31; refine (cd _).mono ?_; rintro e w' ⟨rfl, rfl⟩) | (go_at_call 58; refine (cv _).mono ?_; rintro e w' ⟨rfl, hb4⟩))
  go_ret2
  exact ⟨rfl, hb3.trans (hb4.mono hb3.size)⟩

set_option maxRecDepth 100000 in
set_option maxHeartbeats 1000000 in
theorem escape_oct_big (s : ByteArray) (w : World) (hs : s.size ≤ 4611686018427387904) (h0 : 0 < s.size) (c : Nat) (hc : (s[0]'h0).toNat = c) (hi : escIx c = -1) (hd : 48 ≤ c ∧ c ≤ 57) (n : Int) (hv : valueL s.data.toList 3 8 = some n) (hn : 256 ≤ n) :
    Calls Tryd.prog 48 #[.string s] w fun e w' => e = .returned (.tuple #[.string (bs []), .int .i64 0]) ∧ Below w.heap.size w w' := by
  have hc256 : c < 256 := by rw [← hc]; exact UInt8.toNat_lt _
  have hemp := not_empty h0
  have cI := fun w => hexDigit_any (bs escs) (c : Int) w
  have e1 : Lib.indexByte escs (c : Int).toNat.toUInt8 = -1 := hi
  rw [bs_list, e1] at cI
  clear e1 hi
  have cd := fun w => digit_any (c : Int) w (by omega)
  have e2 : digitN (c : Int).toNat = true := by unfold digitN; exact decide_eq_true (by simp; omega)
  rw [e2] at cd
  obtain ⟨w1, w2, w3, m1, m2, m3, m4, hb3⟩ := map_made w c hc256
  have hmm := @run_makeMap Tryd.prog
  have cv := fun w => value_some s 3 8 w hs (by omega) (by omega) (by omega) n hv
  clear e2 hv hd
  go_enter Tryd.func48, Tryd.ntmps48
  go_wp2_with (first | (go_at_call 57; refine (cI _).mono ?_; rintro e w' ⟨rfl, rfl⟩) | (go_at_call 31; refine (cd _).mono ?_; rintro e w' ⟨rfl, rfl⟩) | (go_at_call 58; refine (cv _).mono ?_; rintro e w' ⟨rfl, hb4⟩))
  go_ret2
  exact ⟨rfl, hb3.trans (hb4.mono hb3.size)⟩

set_option maxRecDepth 100000 in
set_option maxHeartbeats 1000000 in
theorem escape_x (s : ByteArray) (w : World) (hs : s.size ≤ 4611686018427387904) (h0 : 0 < s.size) (c : Nat) (hc : (s[0]'h0).toNat = c) (hi : escIx c = -1) (hcx : c = 120) (n : Int) (hv : valueL (s.data.toList.drop 1) 2 16 = some n) (hn : n < 256) (hn0 : 0 ≤ n) :
    Calls Tryd.prog 48 #[.string s] w fun e w' => e = .returned (.tuple #[.string (bs [n.toNat.toUInt8]), .int .i64 3]) ∧ Below w.heap.size w w' := by
  have hc256 : c < 256 := by rw [← hc]; exact UInt8.toNat_lt _
  have hemp := not_empty h0
  have cI := fun w => hexDigit_any (bs escs) (c : Int) w
  have e1 : Lib.indexByte escs (c : Int).toNat.toUInt8 = -1 := hi
  rw [bs_list, e1] at cI
  clear e1 hi
  have cd := fun w => digit_any (c : Int) w (by omega)
  have e2 : digitN (c : Int).toNat = false := by unfold digitN; exact decide_eq_false (by simp; omega)
  rw [e2] at cd
  obtain ⟨w1, w2, w3, m1, m2, m3, m4, hb3⟩ := map_made w c hc256
  have hmm := @run_makeMap Tryd.prog
  have hsl : ∀ W, (Instr.slice 9 (.string s) (some (.int .i64 1)) none none).run Tryd.prog W = .ok (.string (bs (s.data.toList.drop 1))) W := sl_l s 1 (by omega)
  have cv := fun w => value_some (bs (s.data.toList.drop 1)) 2 16 w (by rw [bs_size, List.length_drop, ← Lib.size_eq]; omega) (by omega) (by omega) (by omega) n (by rw [bs_list]; exact hv)
  obtain ⟨T, hT⟩ : ∃ T, bs (s.data.toList.drop 1) = T := ⟨_, rfl⟩
  rw [hT] at hsl cv
  have ob := fun W => one_byte n hn0 hn W
  obtain ⟨R, hR⟩ : ∃ R, bs [n.toNat.toUInt8] = R := ⟨_, rfl⟩
  rw [hR] at ob ⊢
  have hx : ((c : Int) == 120) = true := by simp; omega
  have e3 : ((manyN c : Nat) : Int) = 2 := by rw [hcx]; rfl
  rw [e3] at m4
  clear hcx
  clear e2 hv hR hT e3
  go_enter Tryd.func48, Tryd.ntmps48
  go_wp2_with (first | (go_at_call 57; refine (cI _).mono ?_; rintro e w' ⟨rfl, rfl⟩) | (go_at_call 31; refine (cd _).mono ?_; rintro e w' ⟨rfl, rfl⟩) | (go_at_call 58; refine (cv _).mono ?_; rintro e w' ⟨rfl, hb4⟩))
  go_ret2
  exact ⟨rfl, (hb3.trans (hb4.mono hb3.size)).alloc (Nat.le_trans hb3.size hb4.size) _⟩

set_option maxRecDepth 100000 in
set_option maxHeartbeats 1000000 in
theorem escape_x_none (s : ByteArray) (w : World) (hs : s.size ≤ 4611686018427387904) (h0 : 0 < s.size) (c : Nat) (hc : (s[0]'h0).toNat = c) (hi : escIx c = -1) (hcx : c = 120) (hv : valueL (s.data.toList.drop 1) 2 16 = none) :
    Calls Tryd.prog 48 #[.string s] w fun e w' => e = .returned (.tuple #[.string (bs []), .int .i64 0]) ∧ Below w.heap.size w w' := by
  have hc256 : c < 256 := by rw [← hc]; exact UInt8.toNat_lt _
  have hemp := not_empty h0
  have cI := fun w => hexDigit_any (bs escs) (c : Int) w
  have e1 : Lib.indexByte escs (c : Int).toNat.toUInt8 = -1 := hi
  rw [bs_list, e1] at cI
  clear e1 hi
  have cd := fun w => digit_any (c : Int) w (by omega)
  have e2 : digitN (c : Int).toNat = false := by unfold digitN; exact decide_eq_false (by simp; omega)
  rw [e2] at cd
  obtain ⟨w1, w2, w3, m1, m2, m3, m4, hb3⟩ := map_made w c hc256
  have hmm := @run_makeMap Tryd.prog
  have hsl : ∀ W, (Instr.slice 9 (.string s) (some (.int .i64 1)) none none).run Tryd.prog W = .ok (.string (bs (s.data.toList.drop 1))) W := sl_l s 1 (by omega)
  have cv := fun w => value_none (bs (s.data.toList.drop 1)) 2 16 w (by rw [bs_size, List.length_drop, ← Lib.size_eq]; omega) (by omega) (by omega) (by omega) (by rw [bs_list]; exact hv)
  obtain ⟨T, hT⟩ : ∃ T, bs (s.data.toList.drop 1) = T := ⟨_, rfl⟩
  rw [hT] at hsl cv
  have hx : ((c : Int) == 120) = true := by simp; omega
  have e3 : ((manyN c : Nat) : Int) = 2 := by rw [hcx]; rfl
  rw [e3] at m4
  clear hcx
  clear e2 hv hT e3
  go_enter Tryd.func48, Tryd.ntmps48
  go_wp2_with (first | (go_at_call 57; refine (cI _).mono ?_; rintro e w' ⟨rfl, rfl⟩) | (go_at_call 31; refine (cd _).mono ?_; rintro e w' ⟨rfl, rfl⟩) | (go_at_call 58; refine (cv _).mono ?_; rintro e w' ⟨rfl, hb4⟩))
  go_ret2
  exact ⟨rfl, hb3.trans (hb4.mono hb3.size)⟩

set_option maxRecDepth 100000 in
set_option maxHeartbeats 1000000 in
theorem escape_u (s : ByteArray) (w : World) (hs : s.size ≤ 4611686018427387904) (h0 : 0 < s.size) (c : Nat) (hc : (s[0]'h0).toNat = c) (hi : escIx c = -1) (many : Nat) (hm : manyN c = many) (hm1 : many = 4 ∨ many = 8) (n : Int) (hv : valueL (s.data.toList.drop 1) many 16 = some n) (hr : Lib.validRune n = true) :
    Calls Tryd.prog 48 #[.string s] w fun e w' => e = .returned (.tuple #[.string (Utf8.encode n), .int .i64 (1 + many : Int)]) ∧ Below w.heap.size w w' := by
  have hc256 : c < 256 := by rw [← hc]; exact UInt8.toNat_lt _
  have hemp := not_empty h0
  have cI := fun w => hexDigit_any (bs escs) (c : Int) w
  have e1 : Lib.indexByte escs (c : Int).toNat.toUInt8 = -1 := hi
  rw [bs_list, e1] at cI
  clear e1 hi
  have cd := fun w => digit_any (c : Int) w (by omega)
  have e2 : digitN (c : Int).toNat = false := by unfold digitN; exact decide_eq_false (by have := many_digit (c := c) (by omega); simpa using this)
  rw [e2] at cd
  obtain ⟨w1, w2, w3, m1, m2, m3, m4, hb3⟩ := map_made w c hc256
  have hmm := @run_makeMap Tryd.prog
  have hsl : ∀ W, (Instr.slice 9 (.string s) (some (.int .i64 1)) none none).run Tryd.prog W = .ok (.string (bs (s.data.toList.drop 1))) W := sl_l s 1 (by omega)
  have cv := fun w => value_some (bs (s.data.toList.drop 1)) many 16 w (by rw [bs_size, List.length_drop, ← Lib.size_eq]; omega) (by omega) (by omega) (by omega) n (by rw [bs_list]; exact hv)
  obtain ⟨T, hT⟩ : ∃ T, bs (s.data.toList.drop 1) = T := ⟨_, rfl⟩
  rw [hT] at hsl cv
  have cr := fun w => Tryd.utf8_ValidRune n w
  rw [hr] at cr
  have hx : ((c : Int) == 120) = false := by simp; intro h; rw [show c = 120 by omega] at hm; simp [manyN] at hm; omega
  have hm2 : 4 ≤ many := by omega
  have hm3 : many ≤ 8 := by omega
  rw [hm] at m4
  clear e2 hv hT hr hm hm1
  go_enter Tryd.func48, Tryd.ntmps48
  go_wp2_with (first | (go_at_call 57; refine (cI _).mono ?_; rintro e w' ⟨rfl, rfl⟩) | (go_at_call 31; refine (cd _).mono ?_; rintro e w' ⟨rfl, rfl⟩) | (go_at_call 58; refine (cv _).mono ?_; rintro e w' ⟨rfl, hb4⟩) | (go_at_call 59; refine (cr _).mono ?_; rintro e w' ⟨rfl, rfl⟩))
  go_ret2
  exact ⟨rfl, hb3.trans (hb4.mono hb3.size)⟩

set_option maxRecDepth 100000 in
set_option maxHeartbeats 1000000 in
theorem escape_u_bad (s : ByteArray) (w : World) (hs : s.size ≤ 4611686018427387904) (h0 : 0 < s.size) (c : Nat) (hc : (s[0]'h0).toNat = c) (hi : escIx c = -1) (many : Nat) (hm : manyN c = many) (hm1 : many = 4 ∨ many = 8) (n : Int) (hv : valueL (s.data.toList.drop 1) many 16 = some n) (hr : Lib.validRune n = false) :
    Calls Tryd.prog 48 #[.string s] w fun e w' => e = .returned (.tuple #[.string (bs []), .int .i64 0]) ∧ Below w.heap.size w w' := by
  have hc256 : c < 256 := by rw [← hc]; exact UInt8.toNat_lt _
  have hemp := not_empty h0
  have cI := fun w => hexDigit_any (bs escs) (c : Int) w
  have e1 : Lib.indexByte escs (c : Int).toNat.toUInt8 = -1 := hi
  rw [bs_list, e1] at cI
  clear e1 hi
  have cd := fun w => digit_any (c : Int) w (by omega)
  have e2 : digitN (c : Int).toNat = false := by unfold digitN; exact decide_eq_false (by have := many_digit (c := c) (by omega); simpa using this)
  rw [e2] at cd
  obtain ⟨w1, w2, w3, m1, m2, m3, m4, hb3⟩ := map_made w c hc256
  have hmm := @run_makeMap Tryd.prog
  have hsl : ∀ W, (Instr.slice 9 (.string s) (some (.int .i64 1)) none none).run Tryd.prog W = .ok (.string (bs (s.data.toList.drop 1))) W := sl_l s 1 (by omega)
  have cv := fun w => value_some (bs (s.data.toList.drop 1)) many 16 w (by rw [bs_size, List.length_drop, ← Lib.size_eq]; omega) (by omega) (by omega) (by omega) n (by rw [bs_list]; exact hv)
  obtain ⟨T, hT⟩ : ∃ T, bs (s.data.toList.drop 1) = T := ⟨_, rfl⟩
  rw [hT] at hsl cv
  have cr := fun w => Tryd.utf8_ValidRune n w
  rw [hr] at cr
  have hx : ((c : Int) == 120) = false := by simp; intro h; rw [show c = 120 by omega] at hm; simp [manyN] at hm; omega
  have hm2 : 4 ≤ many := by omega
  have hm3 : many ≤ 8 := by omega
  rw [hm] at m4
  clear e2 hv hT hr hm hm1
  go_enter Tryd.func48, Tryd.ntmps48
  go_wp2_with (first | (go_at_call 57; refine (cI _).mono ?_; rintro e w' ⟨rfl, rfl⟩) | (go_at_call 31; refine (cd _).mono ?_; rintro e w' ⟨rfl, rfl⟩) | (go_at_call 58; refine (cv _).mono ?_; rintro e w' ⟨rfl, hb4⟩) | (go_at_call 59; refine (cr _).mono ?_; rintro e w' ⟨rfl, rfl⟩))
  go_ret2
  exact ⟨rfl, hb3.trans (hb4.mono hb3.size)⟩

set_option maxRecDepth 100000 in
set_option maxHeartbeats 1000000 in
theorem escape_u_none (s : ByteArray) (w : World) (hs : s.size ≤ 4611686018427387904) (h0 : 0 < s.size) (c : Nat) (hc : (s[0]'h0).toNat = c) (hi : escIx c = -1) (many : Nat) (hm : manyN c = many) (hm1 : many = 4 ∨ many = 8) (hv : valueL (s.data.toList.drop 1) many 16 = none) :
    Calls Tryd.prog 48 #[.string s] w fun e w' => e = .returned (.tuple #[.string (bs []), .int .i64 0]) ∧ Below w.heap.size w w' := by
  have hc256 : c < 256 := by rw [← hc]; exact UInt8.toNat_lt _
  have hemp := not_empty h0
  have cI := fun w => hexDigit_any (bs escs) (c : Int) w
  have e1 : Lib.indexByte escs (c : Int).toNat.toUInt8 = -1 := hi
  rw [bs_list, e1] at cI
  clear e1 hi
  have cd := fun w => digit_any (c : Int) w (by omega)
  have e2 : digitN (c : Int).toNat = false := by unfold digitN; exact decide_eq_false (by have := many_digit (c := c) (by omega); simpa using this)
  rw [e2] at cd
  obtain ⟨w1, w2, w3, m1, m2, m3, m4, hb3⟩ := map_made w c hc256
  have hmm := @run_makeMap Tryd.prog
  have hsl : ∀ W, (Instr.slice 9 (.string s) (some (.int .i64 1)) none none).run Tryd.prog W = .ok (.string (bs (s.data.toList.drop 1))) W := sl_l s 1 (by omega)
  have cv := fun w => value_none (bs (s.data.toList.drop 1)) many 16 w (by rw [bs_size, List.length_drop, ← Lib.size_eq]; omega) (by omega) (by omega) (by omega) (by rw [bs_list]; exact hv)
  obtain ⟨T, hT⟩ : ∃ T, bs (s.data.toList.drop 1) = T := ⟨_, rfl⟩
  rw [hT] at hsl cv
  have hx : ((c : Int) == 120) = false := by simp; intro h; rw [show c = 120 by omega] at hm; simp [manyN] at hm; omega
  have hm2 : 4 ≤ many := by omega
  have hm3 : many ≤ 8 := by omega
  rw [hm] at m4
  clear e2 hv hT hm hm1
  go_enter Tryd.func48, Tryd.ntmps48
  go_wp2_with (first | (go_at_call 57; refine (cI _).mono ?_; rintro e w' ⟨rfl, rfl⟩) | (go_at_call 31; refine (cd _).mono ?_; rintro e w' ⟨rfl, rfl⟩) | (go_at_call 58; refine (cv _).mono ?_; rintro e w' ⟨rfl, hb4⟩))
  go_ret2
  exact ⟨rfl, hb3.trans (hb4.mono hb3.size)⟩

set_option maxRecDepth 100000 in
set_option maxHeartbeats 1000000 in
theorem escape_other (s : ByteArray) (w : World) (hs : s.size ≤ 4611686018427387904) (h0 : 0 < s.size) (c : Nat) (hc : (s[0]'h0).toNat = c) (hi : escIx c = -1) (hm : manyN c = 0) (hd : ¬ (48 ≤ c ∧ c ≤ 57)) :
    Calls Tryd.prog 48 #[.string s] w fun e w' => e = .returned (.tuple #[.string (bs []), .int .i64 0]) ∧ Below w.heap.size w w' := by
  have hc256 : c < 256 := by rw [← hc]; exact UInt8.toNat_lt _
  have hemp := not_empty h0
  have cI := fun w => hexDigit_any (bs escs) (c : Int) w
  have e1 : Lib.indexByte escs (c : Int).toNat.toUInt8 = -1 := hi
  rw [bs_list, e1] at cI
  clear e1 hi
  have cd := fun w => digit_any (c : Int) w (by omega)
  have e2 : digitN (c : Int).toNat = false := by unfold digitN; exact decide_eq_false (by simp; omega)
  rw [e2] at cd
  obtain ⟨w1, w2, w3, m1, m2, m3, m4, hb3⟩ := map_made w c hc256
  have hmm := @run_makeMap Tryd.prog
  have hx : ((c : Int) == 120) = false := by simp; intro h; rw [show c = 120 by omega] at hm; simp [manyN] at hm
  rw [hm] at m4
  have e3 : ((0 : Nat) : Int) = 0 := rfl
  rw [e3] at m4
  clear e2 hm hd e3
  go_enter Tryd.func48, Tryd.ntmps48
  go_wp2_with (first | (go_at_call 57; refine (cI _).mono ?_; rintro e w' ⟨rfl, rfl⟩) | (go_at_call 31; refine (cd _).mono ?_; rintro e w' ⟨rfl, rfl⟩))
  go_ret2
  exact ⟨rfl, hb3⟩

end Go.Proofs.YtkcjembmdiaclaaDoor
