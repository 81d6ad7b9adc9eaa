/- The walk of the document's Wide. (Lines alike written by genwide.py.) -/
import Derived.Test.YtkcjembmdiaclaaDoorRa
namespace Go.Proofs.YtkcjembmdiaclaaDoor
open Go.RowKit Go.Lib Go.Maps
set_option linter.unusedVariables false
set_option linter.unusedSimpArgs false

/-- A byte that goes on. -/
def contB (c : UInt8) : Bool := decide (128 ≤ c.toNat ∧ c.toNat < 192)
/-- The sum behind so many bytes more. -/
def sumB (r : Nat) : List UInt8 → Nat
  | [] => r
  | c :: l => sumB (r * 64 + c.toNat % 64) l
set_option maxRecDepth 100000 in
theorem sumB_snoc (l : List UInt8) (c : UInt8) : ∀ r, sumB r (l ++ [c]) = sumB r l * 64 + c.toNat % 64 := by
  induction l with
  | nil => intro r; simp only [List.nil_append, sumB]
  | cons a l ih => intro r; simp only [List.cons_append, sumB]; exact ih _
/-- No rune of n bytes has this number. -/
def badRune (n r : Nat) : Bool := decide ((n = 2 ∧ r < 128) ∨ (n = 3 ∧ r < 2048) ∨ (n = 4 ∧ r < 65536) ∨ 1114111 < r ∨ (55296 ≤ r ∧ r < 57344))
def wideAt (l : List UInt8) (n c0 : Nat) : Nat :=
  if l.length < n then 0 else if ((l.drop 1).take (n - 1)).all contB = false then 0 else if badRune n (sumB c0 ((l.drop 1).take (n - 1))) = true then 0 else n
def wideL (l : List UInt8) : Nat :=
  match l with
  | [] => 0
  | c :: r => if c.toNat < 128 then 1 else if 192 ≤ c.toNat ∧ c.toNat < 224 then wideAt (c :: r) 2 (c.toNat - 192) else if 224 ≤ c.toNat ∧ c.toNat < 240 then wideAt (c :: r) 3 (c.toNat - 224) else if 240 ≤ c.toNat ∧ c.toNat < 248 then wideAt (c :: r) 4 (c.toNat - 240) else 0
theorem snoc_drop (s : ByteArray) (k : Nat) (h1 : 1 ≤ k) (h : k < s.size) : (s.data.toList.drop 1).take (k + 1 - 1) = (s.data.toList.drop 1).take (k - 1) ++ [s[k]] := by
  have hl : k - 1 < (s.data.toList.drop 1).length := by rw [List.length_drop, Array.length_toList]; show k - 1 < s.size - 1; omega
  have e : k + 1 - 1 = (k - 1) + 1 := by omega
  rw [e, List.take_succ_eq_append_getElem hl, List.getElem_drop]
  congr 1
  have e2 : s.data.toList[1 + (k - 1)]'(by rw [Array.length_toList]; show 1 + (k - 1) < s.size; omega) = s[k] := by
    have : 1 + (k - 1) = k := by omega
    simp only [this]
    rfl
  rw [e2]

set_option maxRecDepth 100000 in
set_option maxHeartbeats 8000000 in
theorem wide_2 (s : ByteArray) (w : World) (hs : s.size ≤ 1048576) (h0 : 0 < s.size) (c : Nat) (hc : (s[0]'h0).toNat = c) (hlo : (192 : Int) ≤ (c : Int)) (hhi : (c : Int) < 224) :
    Calls Tryd.prog 17 #[.string s] w fun e w' => e = .returned (.int .i64 (wideAt s.data.toList 2 (c - 192) : Nat)) ∧ w' = w := by
  obtain ⟨R, hR⟩ : ∃ R, wideAt s.data.toList 2 (c - 192) = R := ⟨_, rfl⟩
  rw [hR]
  by_cases hsn : (s.size : Int) < 2
  · have hR0 : R = 0 := by rw [← hR]; unfold wideAt; rw [if_pos (by rw [Array.length_toList]; show s.size < 2; omega)]
    subst hR0
    clear hR
    go_enter Tryd.func17, Tryd.ntmps17
    go_wp2
    go_ret
    exact ⟨rfl, rfl⟩
  · have hsn' : (2 : Int) ≤ (s.size : Int) := by omega
    have HR := Lib.hid hR
    clear hsn hR
    go_enter Tryd.func17, Tryd.ntmps17
    go_wp2
    go_loopg [5, 6] 2 (fun gf rv iv wx => ∃ (k r : Nat), rv = .int .i64 r ∧ iv = .int .i64 k ∧ 1 ≤ k ∧ k ≤ 2 ∧ (r : Int) < 2097152 ∧ Hid (r = sumB (c - 192) ((s.data.toList.drop 1).take (k - 1)) ∧ r < 32 * 64 ^ (k - 1)) ∧ Hid (((s.data.toList.drop 1).take (k - 1)).all contB = true) ∧ Hid (wx = w) ∧ 2 ≤ k + gf)
    case atStart => exact ⟨1, c - 192, by congr 1; omega, rfl, by omega, by omega, by omega, ⟨rfl, by simp; omega⟩, rfl, rfl, by omega⟩
    case round =>
      obtain ⟨k, r, rfl, rfl, hk1, hkn, hr, HS, HC, hw, hfu⟩ := hrel
      obtain rfl := hw.out
      clear hw
      by_cases hlt : k < 2
      · obtain ⟨g', rfl⟩ : ∃ g', gk = g' + 1 := ⟨gk - 1, by omega⟩
        have hlt2 : k < s.size := by omega
        have hki : (k : Int) < 2 := by omega
        obtain ⟨b, hb⟩ : ∃ b : Nat, (s[k]'hlt2).toNat = b := ⟨_, rfl⟩
        have hnot : (b < 128 ∨ 192 ≤ b) → R = 0 := by
          intro hbb
          rw [← HR.out]
          unfold wideAt
          rw [if_neg (by rw [Array.length_toList]; show ¬ s.size < 2; omega), if_pos]
          rw [List.all_eq_false]
          refine ⟨s[k]'hlt2, ?_, ?_⟩
          · rw [List.mem_take_iff_getElem]
            refine ⟨k - 1, by rw [List.length_drop, Array.length_toList]; show k - 1 < min (2 - 1) (s.size - 1); omega, ?_⟩
            rw [List.getElem_drop]
            have : 1 + (k - 1) = k := by omega
            simp only [this]
            rfl
          · unfold contB
            rw [hb]
            simp
            omega
        by_cases h128 : (b : Int) < 128
        · have hR0 : R = 0 := hnot (.inl (by omega))
          subst hR0
          clear hnot
          go_wp2
          go_ret
          exact ⟨rfl, rfl⟩
        · have h128' : (128 : Int) ≤ (b : Int) := by omega
          clear h128
          by_cases h192 : (192 : Int) ≤ (b : Int)
          · have hR0 : R = 0 := hnot (.inr (by omega))
            subst hR0
            clear hnot
            go_wp2
            go_ret
            exact ⟨rfl, rfl⟩
          · have h192' : (b : Int) < 192 := by omega
            clear h192 hnot
            have HB := Lib.hid hb
            have HRB := Lib.hid (And.intro hr (And.intro h128' h192'))
            have hd1 : decide ((b : Int) < 128) = false := decide_eq_false (by omega)
            have hd2 : decide ((192 : Int) ≤ (b : Int)) = false := decide_eq_false (by omega)
            clear h128' h192' hr
            go_upto_region 22 with (fail)
            clear hd1 hd2
            obtain ⟨hr, h128', h192'⟩ := HRB.out
            go_wp2
            go_roundg g'
            case measure => omega
            case rel =>
              have hs1 := HS.out.1
              have hs2 := HS.out.2
              have hkk : k = 1 := by omega
              have hb2 : r * 64 + b % 64 < 32 * 64 ^ (k + 1 - 1) ∧ ((r * 64 + b % 64 : Nat) : Int) < 2097152 := by
                rcases hkk with rfl <;> simp at hs2 ⊢ <;> omega
              refine ⟨k + 1, r * 64 + b % 64, congrArg (Value.int .i64) (by omega), by go_num, by omega, by omega, hb2.2, Lib.hid ⟨?_, hb2.1⟩, ?_, rfl, by omega⟩
              · rw [snoc_drop s k hk1 hlt2, sumB_snoc, ← hs1, HB.out]
              · have h := HC.out
                have e : contB (s[k]'hlt2) = true := by unfold contB; rw [HB.out]; exact decide_eq_true (by omega)
                rw [snoc_drop s k hk1 hlt2]
                exact Lib.hid (by rw [List.all_append, Bool.and_eq_true]; exact ⟨h, by simp [e]⟩)
      · have hkn' : k = 2 := by omega
        subst hkn'
        have hRe : R = if badRune 2 r = true then 0 else 2 := by
          rw [← HR.out]
          unfold wideAt
          have h := HC.out
          rw [if_neg (by rw [Array.length_toList]; show ¬ s.size < 2; omega), if_neg (by rw [show ((s.data.toList.drop 1).take (2 - 1)).all contB = true from h]; simp), ← HS.out.1]
        have hrb : r < 2048 := by have := HS.out.2; simp at this; omega
        clear HC HR HS
        have hiv : (0 ≤ r ∧ r < 128) ∨ (128 ≤ r ∧ r < 2048) := by omega
        clear hk1 hkn hlt hfu hlo hhi
        rcases hiv with ⟨i1, i2⟩ | ⟨i1, i2⟩
        · have hR' : R = 0 := by rw [hRe]; unfold badRune; rw [if_pos (decide_eq_true (by omega))]
          subst hR'
          have h1 : decide ((r : Int) < 128) = true := decide_eq_true (by omega)
          have h2 : decide ((1114111 : Int) < (r : Int)) = false := decide_eq_false (by omega)
          have h3 : decide ((55296 : Int) ≤ (r : Int)) = false := decide_eq_false (by omega)
          have h4 : decide ((r : Int) < 57344) = true := decide_eq_true (by omega)
          clear i1 i2 hRe hrb hr hs
          go_wp2
          go_ret
          exact ⟨rfl, rfl⟩
        · have hR' : R = 2 := by rw [hRe]; unfold badRune; rw [if_neg (by rw [decide_eq_true_eq]; omega)]
          subst hR'
          have h1 : decide ((r : Int) < 128) = false := decide_eq_false (by omega)
          have h2 : decide ((1114111 : Int) < (r : Int)) = false := decide_eq_false (by omega)
          have h3 : decide ((55296 : Int) ≤ (r : Int)) = false := decide_eq_false (by omega)
          have h4 : decide ((r : Int) < 57344) = true := decide_eq_true (by omega)
          clear i1 i2 hRe hrb hr hs
          go_wp2
          go_ret
          exact ⟨rfl, rfl⟩

set_option maxRecDepth 100000 in
set_option maxHeartbeats 8000000 in
theorem wide_3 (s : ByteArray) (w : World) (hs : s.size ≤ 1048576) (h0 : 0 < s.size) (c : Nat) (hc : (s[0]'h0).toNat = c) (hlo : (224 : Int) ≤ (c : Int)) (hhi : (c : Int) < 240) :
    Calls Tryd.prog 17 #[.string s] w fun e w' => e = .returned (.int .i64 (wideAt s.data.toList 3 (c - 224) : Nat)) ∧ w' = w := by
  obtain ⟨R, hR⟩ : ∃ R, wideAt s.data.toList 3 (c - 224) = R := ⟨_, rfl⟩
  rw [hR]
  by_cases hsn : (s.size : Int) < 3
  · have hR0 : R = 0 := by rw [← hR]; unfold wideAt; rw [if_pos (by rw [Array.length_toList]; show s.size < 3; omega)]
    subst hR0
    clear hR
    go_enter Tryd.func17, Tryd.ntmps17
    go_wp2
    go_ret
    exact ⟨rfl, rfl⟩
  · have hsn' : (3 : Int) ≤ (s.size : Int) := by omega
    have HR := Lib.hid hR
    clear hsn hR
    go_enter Tryd.func17, Tryd.ntmps17
    go_wp2
    go_loopg [5, 6] 3 (fun gf rv iv wx => ∃ (k r : Nat), rv = .int .i64 r ∧ iv = .int .i64 k ∧ 1 ≤ k ∧ k ≤ 3 ∧ (r : Int) < 2097152 ∧ Hid (r = sumB (c - 224) ((s.data.toList.drop 1).take (k - 1)) ∧ r < 16 * 64 ^ (k - 1)) ∧ Hid (((s.data.toList.drop 1).take (k - 1)).all contB = true) ∧ Hid (wx = w) ∧ 3 ≤ k + gf)
    case atStart => exact ⟨1, c - 224, by congr 1; omega, rfl, by omega, by omega, by omega, ⟨rfl, by simp; omega⟩, rfl, rfl, by omega⟩
    case round =>
      obtain ⟨k, r, rfl, rfl, hk1, hkn, hr, HS, HC, hw, hfu⟩ := hrel
      obtain rfl := hw.out
      clear hw
      by_cases hlt : k < 3
      · obtain ⟨g', rfl⟩ : ∃ g', gk = g' + 1 := ⟨gk - 1, by omega⟩
        have hlt2 : k < s.size := by omega
        have hki : (k : Int) < 3 := by omega
        obtain ⟨b, hb⟩ : ∃ b : Nat, (s[k]'hlt2).toNat = b := ⟨_, rfl⟩
        have hnot : (b < 128 ∨ 192 ≤ b) → R = 0 := by
          intro hbb
          rw [← HR.out]
          unfold wideAt
          rw [if_neg (by rw [Array.length_toList]; show ¬ s.size < 3; omega), if_pos]
          rw [List.all_eq_false]
          refine ⟨s[k]'hlt2, ?_, ?_⟩
          · rw [List.mem_take_iff_getElem]
            refine ⟨k - 1, by rw [List.length_drop, Array.length_toList]; show k - 1 < min (3 - 1) (s.size - 1); omega, ?_⟩
            rw [List.getElem_drop]
            have : 1 + (k - 1) = k := by omega
            simp only [this]
            rfl
          · unfold contB
            rw [hb]
            simp
            omega
        by_cases h128 : (b : Int) < 128
        · have hR0 : R = 0 := hnot (.inl (by omega))
          subst hR0
          clear hnot
          go_wp2
          go_ret
          exact ⟨rfl, rfl⟩
        · have h128' : (128 : Int) ≤ (b : Int) := by omega
          clear h128
          by_cases h192 : (192 : Int) ≤ (b : Int)
          · have hR0 : R = 0 := hnot (.inr (by omega))
            subst hR0
            clear hnot
            go_wp2
            go_ret
            exact ⟨rfl, rfl⟩
          · have h192' : (b : Int) < 192 := by omega
            clear h192 hnot
            have HB := Lib.hid hb
            have HRB := Lib.hid (And.intro hr (And.intro h128' h192'))
            have hd1 : decide ((b : Int) < 128) = false := decide_eq_false (by omega)
            have hd2 : decide ((192 : Int) ≤ (b : Int)) = false := decide_eq_false (by omega)
            clear h128' h192' hr
            go_upto_region 22 with (fail)
            clear hd1 hd2
            obtain ⟨hr, h128', h192'⟩ := HRB.out
            go_wp2
            go_roundg g'
            case measure => omega
            case rel =>
              have hs1 := HS.out.1
              have hs2 := HS.out.2
              have hkk : k = 1 ∨ k = 2 := by omega
              have hb2 : r * 64 + b % 64 < 16 * 64 ^ (k + 1 - 1) ∧ ((r * 64 + b % 64 : Nat) : Int) < 2097152 := by
                rcases hkk with rfl | rfl <;> simp at hs2 ⊢ <;> omega
              refine ⟨k + 1, r * 64 + b % 64, congrArg (Value.int .i64) (by omega), by go_num, by omega, by omega, hb2.2, Lib.hid ⟨?_, hb2.1⟩, ?_, rfl, by omega⟩
              · rw [snoc_drop s k hk1 hlt2, sumB_snoc, ← hs1, HB.out]
              · have h := HC.out
                have e : contB (s[k]'hlt2) = true := by unfold contB; rw [HB.out]; exact decide_eq_true (by omega)
                rw [snoc_drop s k hk1 hlt2]
                exact Lib.hid (by rw [List.all_append, Bool.and_eq_true]; exact ⟨h, by simp [e]⟩)
      · have hkn' : k = 3 := by omega
        subst hkn'
        have hRe : R = if badRune 3 r = true then 0 else 3 := by
          rw [← HR.out]
          unfold wideAt
          have h := HC.out
          rw [if_neg (by rw [Array.length_toList]; show ¬ s.size < 3; omega), if_neg (by rw [show ((s.data.toList.drop 1).take (3 - 1)).all contB = true from h]; simp), ← HS.out.1]
        have hrb : r < 65536 := by have := HS.out.2; simp at this; omega
        clear HC HR HS
        have hiv : (0 ≤ r ∧ r < 2048) ∨ (2048 ≤ r ∧ r < 55296) ∨ (55296 ≤ r ∧ r < 57344) ∨ (57344 ≤ r ∧ r < 65536) := by omega
        clear hk1 hkn hlt hfu hlo hhi
        rcases hiv with ⟨i1, i2⟩ | ⟨i1, i2⟩ | ⟨i1, i2⟩ | ⟨i1, i2⟩
        · have hR' : R = 0 := by rw [hRe]; unfold badRune; rw [if_pos (decide_eq_true (by omega))]
          subst hR'
          have h1 : decide ((r : Int) < 2048) = true := decide_eq_true (by omega)
          have h2 : decide ((1114111 : Int) < (r : Int)) = false := decide_eq_false (by omega)
          have h3 : decide ((55296 : Int) ≤ (r : Int)) = false := decide_eq_false (by omega)
          have h4 : decide ((r : Int) < 57344) = true := decide_eq_true (by omega)
          clear i1 i2 hRe hrb hr hs
          go_wp2
          go_ret
          exact ⟨rfl, rfl⟩
        · have hR' : R = 3 := by rw [hRe]; unfold badRune; rw [if_neg (by rw [decide_eq_true_eq]; omega)]
          subst hR'
          have h1 : decide ((r : Int) < 2048) = false := decide_eq_false (by omega)
          have h2 : decide ((1114111 : Int) < (r : Int)) = false := decide_eq_false (by omega)
          have h3 : decide ((55296 : Int) ≤ (r : Int)) = false := decide_eq_false (by omega)
          have h4 : decide ((r : Int) < 57344) = true := decide_eq_true (by omega)
          clear i1 i2 hRe hrb hr hs
          go_wp2
          go_ret
          exact ⟨rfl, rfl⟩
        · have hR' : R = 0 := by rw [hRe]; unfold badRune; rw [if_pos (decide_eq_true (by omega))]
          subst hR'
          have h1 : decide ((r : Int) < 2048) = false := decide_eq_false (by omega)
          have h2 : decide ((1114111 : Int) < (r : Int)) = false := decide_eq_false (by omega)
          have h3 : decide ((55296 : Int) ≤ (r : Int)) = true := decide_eq_true (by omega)
          have h4 : decide ((r : Int) < 57344) = true := decide_eq_true (by omega)
          clear i1 i2 hRe hrb hr hs
          go_wp2
          go_ret
          exact ⟨rfl, rfl⟩
        · have hR' : R = 3 := by rw [hRe]; unfold badRune; rw [if_neg (by rw [decide_eq_true_eq]; omega)]
          subst hR'
          have h1 : decide ((r : Int) < 2048) = false := decide_eq_false (by omega)
          have h2 : decide ((1114111 : Int) < (r : Int)) = false := decide_eq_false (by omega)
          have h3 : decide ((55296 : Int) ≤ (r : Int)) = true := decide_eq_true (by omega)
          have h4 : decide ((r : Int) < 57344) = false := decide_eq_false (by omega)
          clear i1 i2 hRe hrb hr hs
          go_wp2
          go_ret
          exact ⟨rfl, rfl⟩

set_option maxRecDepth 100000 in
set_option maxHeartbeats 8000000 in
theorem wide_4 (s : ByteArray) (w : World) (hs : s.size ≤ 1048576) (h0 : 0 < s.size) (c : Nat) (hc : (s[0]'h0).toNat = c) (hlo : (240 : Int) ≤ (c : Int)) (hhi : (c : Int) < 248) :
    Calls Tryd.prog 17 #[.string s] w fun e w' => e = .returned (.int .i64 (wideAt s.data.toList 4 (c - 240) : Nat)) ∧ w' = w := by
  obtain ⟨R, hR⟩ : ∃ R, wideAt s.data.toList 4 (c - 240) = R := ⟨_, rfl⟩
  rw [hR]
  by_cases hsn : (s.size : Int) < 4
  · have hR0 : R = 0 := by rw [← hR]; unfold wideAt; rw [if_pos (by rw [Array.length_toList]; show s.size < 4; omega)]
    subst hR0
    clear hR
    go_enter Tryd.func17, Tryd.ntmps17
    go_wp2
    go_ret
    exact ⟨rfl, rfl⟩
  · have hsn' : (4 : Int) ≤ (s.size : Int) := by omega
    have HR := Lib.hid hR
    clear hsn hR
    go_enter Tryd.func17, Tryd.ntmps17
    go_wp2
    go_loopg [5, 6] 4 (fun gf rv iv wx => ∃ (k r : Nat), rv = .int .i64 r ∧ iv = .int .i64 k ∧ 1 ≤ k ∧ k ≤ 4 ∧ (r : Int) < 2097152 ∧ Hid (r = sumB (c - 240) ((s.data.toList.drop 1).take (k - 1)) ∧ r < 8 * 64 ^ (k - 1)) ∧ Hid (((s.data.toList.drop 1).take (k - 1)).all contB = true) ∧ Hid (wx = w) ∧ 4 ≤ k + gf)
    case atStart => exact ⟨1, c - 240, by congr 1; omega, rfl, by omega, by omega, by omega, ⟨rfl, by simp; omega⟩, rfl, rfl, by omega⟩
    case round =>
      obtain ⟨k, r, rfl, rfl, hk1, hkn, hr, HS, HC, hw, hfu⟩ := hrel
      obtain rfl := hw.out
      clear hw
      by_cases hlt : k < 4
      · obtain ⟨g', rfl⟩ : ∃ g', gk = g' + 1 := ⟨gk - 1, by omega⟩
        have hlt2 : k < s.size := by omega
        have hki : (k : Int) < 4 := by omega
        obtain ⟨b, hb⟩ : ∃ b : Nat, (s[k]'hlt2).toNat = b := ⟨_, rfl⟩
        have hnot : (b < 128 ∨ 192 ≤ b) → R = 0 := by
          intro hbb
          rw [← HR.out]
          unfold wideAt
          rw [if_neg (by rw [Array.length_toList]; show ¬ s.size < 4; omega), if_pos]
          rw [List.all_eq_false]
          refine ⟨s[k]'hlt2, ?_, ?_⟩
          · rw [List.mem_take_iff_getElem]
            refine ⟨k - 1, by rw [List.length_drop, Array.length_toList]; show k - 1 < min (4 - 1) (s.size - 1); omega, ?_⟩
            rw [List.getElem_drop]
            have : 1 + (k - 1) = k := by omega
            simp only [this]
            rfl
          · unfold contB
            rw [hb]
            simp
            omega
        by_cases h128 : (b : Int) < 128
        · have hR0 : R = 0 := hnot (.inl (by omega))
          subst hR0
          clear hnot
          go_wp2
          go_ret
          exact ⟨rfl, rfl⟩
        · have h128' : (128 : Int) ≤ (b : Int) := by omega
          clear h128
          by_cases h192 : (192 : Int) ≤ (b : Int)
          · have hR0 : R = 0 := hnot (.inr (by omega))
            subst hR0
            clear hnot
            go_wp2
            go_ret
            exact ⟨rfl, rfl⟩
          · have h192' : (b : Int) < 192 := by omega
            clear h192 hnot
            have HB := Lib.hid hb
            have HRB := Lib.hid (And.intro hr (And.intro h128' h192'))
            have hd1 : decide ((b : Int) < 128) = false := decide_eq_false (by omega)
            have hd2 : decide ((192 : Int) ≤ (b : Int)) = false := decide_eq_false (by omega)
            clear h128' h192' hr
            go_upto_region 22 with (fail)
            clear hd1 hd2
            obtain ⟨hr, h128', h192'⟩ := HRB.out
            go_wp2
            go_roundg g'
            case measure => omega
            case rel =>
              have hs1 := HS.out.1
              have hs2 := HS.out.2
              have hkk : k = 1 ∨ k = 2 ∨ k = 3 := by omega
              have hb2 : r * 64 + b % 64 < 8 * 64 ^ (k + 1 - 1) ∧ ((r * 64 + b % 64 : Nat) : Int) < 2097152 := by
                rcases hkk with rfl | rfl | rfl <;> simp at hs2 ⊢ <;> omega
              refine ⟨k + 1, r * 64 + b % 64, congrArg (Value.int .i64) (by omega), by go_num, by omega, by omega, hb2.2, Lib.hid ⟨?_, hb2.1⟩, ?_, rfl, by omega⟩
              · rw [snoc_drop s k hk1 hlt2, sumB_snoc, ← hs1, HB.out]
              · have h := HC.out
                have e : contB (s[k]'hlt2) = true := by unfold contB; rw [HB.out]; exact decide_eq_true (by omega)
                rw [snoc_drop s k hk1 hlt2]
                exact Lib.hid (by rw [List.all_append, Bool.and_eq_true]; exact ⟨h, by simp [e]⟩)
      · have hkn' : k = 4 := by omega
        subst hkn'
        have hRe : R = if badRune 4 r = true then 0 else 4 := by
          rw [← HR.out]
          unfold wideAt
          have h := HC.out
          rw [if_neg (by rw [Array.length_toList]; show ¬ s.size < 4; omega), if_neg (by rw [show ((s.data.toList.drop 1).take (4 - 1)).all contB = true from h]; simp), ← HS.out.1]
        have hrb : r < 2097152 := by have := HS.out.2; simp at this; omega
        clear HC HR HS
        have hiv : (0 ≤ r ∧ r < 55296) ∨ (55296 ≤ r ∧ r < 57344) ∨ (57344 ≤ r ∧ r < 65536) ∨ (65536 ≤ r ∧ r < 1114112) ∨ (1114112 ≤ r ∧ r < 2097152) := by omega
        clear hk1 hkn hlt hfu hlo hhi
        rcases hiv with ⟨i1, i2⟩ | ⟨i1, i2⟩ | ⟨i1, i2⟩ | ⟨i1, i2⟩ | ⟨i1, i2⟩
        · have hR' : R = 0 := by rw [hRe]; unfold badRune; rw [if_pos (decide_eq_true (by omega))]
          subst hR'
          have h1 : decide ((r : Int) < 65536) = true := decide_eq_true (by omega)
          have h2 : decide ((1114111 : Int) < (r : Int)) = false := decide_eq_false (by omega)
          have h3 : decide ((55296 : Int) ≤ (r : Int)) = false := decide_eq_false (by omega)
          have h4 : decide ((r : Int) < 57344) = true := decide_eq_true (by omega)
          clear i1 i2 hRe hrb hr hs
          go_wp2
          go_ret
          exact ⟨rfl, rfl⟩
        · have hR' : R = 0 := by rw [hRe]; unfold badRune; rw [if_pos (decide_eq_true (by omega))]
          subst hR'
          have h1 : decide ((r : Int) < 65536) = true := decide_eq_true (by omega)
          have h2 : decide ((1114111 : Int) < (r : Int)) = false := decide_eq_false (by omega)
          have h3 : decide ((55296 : Int) ≤ (r : Int)) = true := decide_eq_true (by omega)
          have h4 : decide ((r : Int) < 57344) = true := decide_eq_true (by omega)
          clear i1 i2 hRe hrb hr hs
          go_wp2
          go_ret
          exact ⟨rfl, rfl⟩
        · have hR' : R = 0 := by rw [hRe]; unfold badRune; rw [if_pos (decide_eq_true (by omega))]
          subst hR'
          have h1 : decide ((r : Int) < 65536) = true := decide_eq_true (by omega)
          have h2 : decide ((1114111 : Int) < (r : Int)) = false := decide_eq_false (by omega)
          have h3 : decide ((55296 : Int) ≤ (r : Int)) = true := decide_eq_true (by omega)
          have h4 : decide ((r : Int) < 57344) = false := decide_eq_false (by omega)
          clear i1 i2 hRe hrb hr hs
          go_wp2
          go_ret
          exact ⟨rfl, rfl⟩
        · have hR' : R = 4 := by rw [hRe]; unfold badRune; rw [if_neg (by rw [decide_eq_true_eq]; omega)]
          subst hR'
          have h1 : decide ((r : Int) < 65536) = false := decide_eq_false (by omega)
          have h2 : decide ((1114111 : Int) < (r : Int)) = false := decide_eq_false (by omega)
          have h3 : decide ((55296 : Int) ≤ (r : Int)) = true := decide_eq_true (by omega)
          have h4 : decide ((r : Int) < 57344) = false := decide_eq_false (by omega)
          clear i1 i2 hRe hrb hr hs
          go_wp2
          go_ret
          exact ⟨rfl, rfl⟩
        · have hR' : R = 0 := by rw [hRe]; unfold badRune; rw [if_pos (decide_eq_true (by omega))]
          subst hR'
          have h1 : decide ((r : Int) < 65536) = false := decide_eq_false (by omega)
          have h2 : decide ((1114111 : Int) < (r : Int)) = true := decide_eq_true (by omega)
          have h3 : decide ((55296 : Int) ≤ (r : Int)) = true := decide_eq_true (by omega)
          have h4 : decide ((r : Int) < 57344) = false := decide_eq_false (by omega)
          clear i1 i2 hRe hrb hr hs
          go_wp2
          go_ret
          exact ⟨rfl, rfl⟩
end Go.Proofs.YtkcjembmdiaclaaDoor
