/- The plain law under the document's Unquote: an escape says the same by the program's words and by the document's. -/
import Derived.Test.YtkcjembmdiaclaaDoorSc
namespace Go.Proofs.YtkcjembmdiaclaaDoor
open Go.RowKit Go.Lib Go.Maps
set_option linter.unusedVariables false
set_option linter.unusedSimpArgs false

theorem dv_hex (c : Nat) (h : c < 256) (h48 : 48 ≤ c) : dvN c = hexV c := by
  have ht := hexIx_table ⟨c, h⟩
  simp only at ht
  unfold dvN hexV
  by_cases h1 : c ≤ 57
  · rw [if_pos h1, if_pos ⟨h48, h1⟩]
  · rw [if_neg h1, if_neg (by omega), ht, if_neg (by omega), if_neg (by omega)]
theorem hex_low (c : Nat) (h : c < 48) : hexV c = -1 := by
  unfold hexV
  rw [if_neg (by omega), if_neg (by omega), if_neg (by omega)]
/-- What the document's number says is at least what stood. -/
theorem nFrom_le (base : Int) (hb : 1 ≤ base) : ∀ (l : List UInt8) (n : Int), 0 ≤ n → nFrom base l n = -1 ∨ n ≤ nFrom base l n
  | [], n, _ => .inr (Int.le_refl _)
  | c :: r, n, hn => by
    unfold nFrom
    by_cases h : hexV c.toNat < 0 ∨ base ≤ hexV c.toNat
    · rw [if_pos h]; exact .inl rfl
    · rw [if_neg h]
      have h1 : n ≤ n * base := by
        have := Int.mul_le_mul_of_nonneg_left hb hn
        rw [Int.mul_one] at this
        exact this
      rcases nFrom_le base hb r (n * base + hexV c.toNat) (by omega) with h2 | h2
      · exact .inl h2
      · exact .inr (by omega)
/-- The program's number and the document's: the same, or the program's gave up at a great one. -/
theorem vFrom_nFrom (base : Int) (hb : 1 ≤ base) : ∀ (l : List UInt8) (n : Int), 0 ≤ n →
    (nFrom base l n = -1 ∧ vFrom base l n = none) ∨ (0 ≤ nFrom base l n ∧ (vFrom base l n = some (nFrom base l n) ∨ (vFrom base l n = none ∧ 67108864 ≤ nFrom base l n)))
  | [], n, hn => .inr ⟨hn, .inl rfl⟩
  | c :: r, n, hn => by
    have hc := UInt8.toNat_lt c
    unfold nFrom vFrom
    by_cases h48 : c.toNat < 48
    · have hx := hex_low c.toNat h48
      rw [if_pos (.inl (by omega)), if_pos (.inr (.inr (.inl h48)))]
      exact .inl ⟨rfl, rfl⟩
    · rw [dv_hex c.toNat hc (by omega)]
      by_cases h : hexV c.toNat < 0 ∨ base ≤ hexV c.toNat
      · rw [if_pos h, if_pos (by rcases h with h | h; exact .inl h; exact .inr (.inl h))]
        exact .inl ⟨rfl, rfl⟩
      · rw [if_neg h]
        have h1 : n ≤ n * base := by
          have := Int.mul_le_mul_of_nonneg_left hb hn
          rw [Int.mul_one] at this
          exact this
        by_cases hg : 67108864 ≤ n
        · rw [if_pos (.inr (.inr (.inr hg)))]
          rcases nFrom_le base hb r (n * base + hexV c.toNat) (by omega) with h2 | h2
          · exact .inl ⟨h2, rfl⟩
          · exact .inr ⟨by omega, .inr ⟨rfl, by omega⟩⟩
        · rw [if_neg (by omega)]
          exact vFrom_nFrom base hb r _ (by omega)
theorem value_num (l : List UInt8) (many : Nat) (base : Int) (hb : 1 ≤ base) :
    (numL l many base = -1 ∧ valueL l many base = none) ∨ (0 ≤ numL l many base ∧ (valueL l many base = some (numL l many base) ∨ (valueL l many base = none ∧ 67108864 ≤ numL l many base))) := by
  unfold numL valueL
  by_cases h : l.length < many
  · rw [if_pos h, if_pos h]; exact .inl ⟨rfl, rfl⟩
  · rw [if_neg h, if_neg h]; exact vFrom_nFrom base hb _ 0 (by omega)
/-- .. and below what it may reach. -/
theorem nFrom_bd (base : Int) (hb : 1 ≤ base) : ∀ (l : List UInt8) (n : Int), 0 ≤ n → nFrom base l n < (n + 1) * base ^ l.length
  | [], n, hn => by unfold nFrom; simp; omega
  | c :: l, n, hn => by
    unfold nFrom
    by_cases h : hexV c.toNat < 0 ∨ base ≤ hexV c.toNat
    · rw [if_pos h]
      have h1 : 0 ≤ (n + 1) * base ^ (c :: l).length := Int.mul_nonneg (by omega) (Int.pow_nonneg (by omega))
      omega
    · rw [if_neg h]
      have hp : 0 ≤ n * base := Int.mul_nonneg hn (by omega)
      have h1 := nFrom_bd base hb l (n * base + hexV c.toNat) (by omega)
      refine Int.lt_of_lt_of_le h1 ?_
      have e : (n + 1) * base ^ (c :: l).length = (n * base + base) * base ^ l.length := by
        rw [List.length_cons, Int.pow_succ, Int.mul_comm (base ^ l.length) base, ← Int.mul_assoc, Int.add_mul, Int.one_mul]
      rw [e]
      exact Int.mul_le_mul_of_nonneg_right (by omega) (Int.pow_nonneg (by omega))
theorem numL_bd (l : List UInt8) (many : Nat) (base : Int) (hb : 1 ≤ base) : -1 ≤ numL l many base ∧ numL l many base < base ^ many := by
  have h := value_num l many base hb
  refine ⟨by omega, ?_⟩
  unfold numL
  have hp : 0 < base ^ many := Int.pow_pos (by omega)
  by_cases hl : l.length < many
  · rw [if_pos hl]; omega
  · rw [if_neg hl]
    have := nFrom_bd base hb (l.take many) 0 (by omega)
    rw [List.length_take, Nat.min_eq_left (by omega)] at this
    simpa using this

/-- What an escape says, by the document's words. -/
def rescL : List UInt8 → List UInt8
  | [] => []
  | c :: r =>
    if (0 : Int) ≤ escIx c.toNat then [saids.getD (escIx c.toNat).toNat 0]
    else if 48 ≤ c.toNat ∧ c.toNat ≤ 57 then (if 0 ≤ numL (c :: r) 3 8 ∧ numL (c :: r) 3 8 < 256 then [(numL (c :: r) 3 8).toNat.toUInt8] else [])
    else if c.toNat = 120 then (if 0 ≤ numL r 2 16 then [(numL r 2 16).toNat.toUInt8] else [])
    else if c.toNat = 117 then utfL (numL r 4 16)
    else if c.toNat = 85 then utfL (numL r 8 16)
    else []
/-- How many bytes it takes. -/
def rescW : List UInt8 → Nat
  | [] => 0
  | c :: r =>
    if (0 : Int) ≤ escIx c.toNat then 1
    else if 48 ≤ c.toNat ∧ c.toNat ≤ 57 then 3
    else if c.toNat = 120 then 3
    else if c.toNat = 117 then 5
    else if c.toNat = 85 then 9
    else 1
theorem rescL_cons (c : UInt8) (r : List UInt8) : rescL (c :: r) =
    if (0 : Int) ≤ escIx c.toNat then [saids.getD (escIx c.toNat).toNat 0]
    else if 48 ≤ c.toNat ∧ c.toNat ≤ 57 then (if 0 ≤ numL (c :: r) 3 8 ∧ numL (c :: r) 3 8 < 256 then [(numL (c :: r) 3 8).toNat.toUInt8] else [])
    else if c.toNat = 120 then (if 0 ≤ numL r 2 16 then [(numL r 2 16).toNat.toUInt8] else [])
    else if c.toNat = 117 then utfL (numL r 4 16)
    else if c.toNat = 85 then utfL (numL r 8 16)
    else [] := rfl
theorem rescW_cons (c : UInt8) (r : List UInt8) : rescW (c :: r) =
    if (0 : Int) ≤ escIx c.toNat then 1
    else if 48 ≤ c.toNat ∧ c.toNat ≤ 57 then 3
    else if c.toNat = 120 then 3
    else if c.toNat = 117 then 5
    else if c.toNat = 85 then 9
    else 1 := rfl
theorem encode_ne (n : Int) : (Utf8.encode n).data.toList ≠ [] := by
  unfold Utf8.encode
  simp only
  repeat' split
  all_goals simp
theorem valid_utf (n : Int) (h : 0 ≤ n) : utfL n = if Lib.validRune n = true then (Utf8.encode n).data.toList else [] := by
  unfold utfL
  by_cases hv : Lib.validRune n = true
  · rw [if_pos hv, if_neg]
    unfold Lib.validRune at hv
    simp at hv
    omega
  · rw [if_neg hv, if_pos]
    unfold Lib.validRune at hv
    simp at hv
    omega
/-- The document's escape and the program's. -/
theorem resc_is (l : List UInt8) : ((escL l).2 = 0 ∧ rescL l = []) ∨ ((escL l).2 = rescW l ∧ (escL l).1 = rescL l ∧ rescL l ≠ [] ∧ 1 ≤ (escL l).2) := by
  cases l with
  | nil => exact .inl ⟨rfl, rfl⟩
  | cons c r =>
    obtain ⟨E, hE⟩ : ∃ E, escL (c :: r) = E := ⟨_, rfl⟩
    rw [hE, rescL_cons, rescW_cons]
    rw [escL_cons] at hE
    by_cases h1 : (0 : Int) ≤ escIx c.toNat
    · rw [if_pos h1] at hE
      subst hE
      rw [if_pos h1, if_pos h1]
      exact .inr ⟨rfl, rfl, by simp, Nat.le_refl _⟩
    · rw [if_neg h1] at hE
      rw [if_neg h1, if_neg h1]
      by_cases h2 : 48 ≤ c.toNat ∧ c.toNat ≤ 57
      · rw [if_pos h2] at hE
        rw [if_pos h2, if_pos h2]
        have hbd := (numL_bd (c :: r) 3 8 (by omega)).2
        rcases value_num (c :: r) 3 8 (by omega) with ⟨e1, e2⟩ | ⟨e1, e2 | ⟨_, e3⟩⟩
        · rw [e2] at hE
          subst hE
          rw [if_neg (by omega)]
          exact .inl ⟨rfl, rfl⟩
        · rw [e2] at hE
          simp only at hE
          by_cases h3 : numL (c :: r) 3 8 < 256
          · rw [if_pos h3] at hE
            subst hE
            rw [if_pos ⟨e1, h3⟩]
            exact .inr ⟨rfl, rfl, by simp, by simp⟩
          · rw [if_neg h3] at hE
            subst hE
            rw [if_neg (by omega)]
            exact .inl ⟨rfl, rfl⟩
        · simp at hbd
          omega
      · rw [if_neg h2] at hE
        rw [if_neg h2, if_neg h2]
        by_cases h3 : c.toNat = 120
        · rw [if_pos h3] at hE
          rw [if_pos h3, if_pos h3]
          have hbd := (numL_bd r 2 16 (by omega)).2
          rcases value_num r 2 16 (by omega) with ⟨e1, e2⟩ | ⟨e1, e2 | ⟨_, e3⟩⟩
          · rw [e2] at hE
            subst hE
            rw [if_neg (by omega)]
            exact .inl ⟨rfl, rfl⟩
          · rw [e2] at hE
            simp only at hE
            subst hE
            rw [if_pos e1]
            exact .inr ⟨rfl, rfl, by simp, by simp⟩
          · simp at hbd
            omega
        · rw [if_neg h3] at hE
          rw [if_neg h3, if_neg h3]
          have key : ∀ many, ((match valueL r many 16 with | some n => if Lib.validRune n = true then ((Utf8.encode n).data.toList, 1 + many) else ([], 0) | none => ([], 0)) : List UInt8 × Nat) = if utfL (numL r many 16) = [] then ([], 0) else (utfL (numL r many 16), 1 + many) := by
            intro many
            rcases value_num r many 16 (by omega) with ⟨e1, e2⟩ | ⟨e1, e2 | ⟨e2, e3⟩⟩
            · rw [e2, e1]
              rfl
            · rw [e2]
              simp only
              rw [valid_utf _ e1]
              by_cases hv : Lib.validRune (numL r many 16) = true
              · rw [if_pos hv, if_pos hv, if_neg (encode_ne _)]
              · rw [if_neg hv, if_neg hv, if_pos rfl]
            · rw [e2]
              simp only
              have : utfL (numL r many 16) = [] := by unfold utfL; rw [if_pos (.inr (.inl (by omega)))]
              rw [this, if_pos rfl]
          by_cases h4 : c.toNat = 117
          · have hm : manyN c.toNat = 4 := by unfold manyN; rw [if_neg h3, if_pos h4]
            rw [hm, if_pos (Nat.le_refl _)] at hE
            have hE' := (key 4).symm.trans hE
            rw [if_pos h4, if_pos h4, ← hE']
            by_cases hu : utfL (numL r 4 16) = []
            · rw [if_pos hu]; exact .inl ⟨rfl, hu⟩
            · rw [if_neg hu]; exact .inr ⟨rfl, rfl, hu, by simp⟩
          · rw [if_neg h4, if_neg h4]
            by_cases h5 : c.toNat = 85
            · have hm : manyN c.toNat = 8 := by unfold manyN; rw [if_neg h3, if_neg h4, if_pos h5]
              rw [hm, if_pos (by decide)] at hE
              have hE' := (key 8).symm.trans hE
              rw [if_pos h5, if_pos h5, ← hE']
              by_cases hu : utfL (numL r 8 16) = []
              · rw [if_pos hu]; exact .inl ⟨rfl, hu⟩
              · rw [if_neg hu]; exact .inr ⟨rfl, rfl, hu, by simp⟩
            · have hm : manyN c.toNat = 0 := by unfold manyN; rw [if_neg h3, if_neg h4, if_neg h5]
              rw [hm, if_neg (by decide)] at hE
              rw [if_neg h5, ← hE]
              exact .inl ⟨rfl, rfl⟩

theorem resc_len (l : List UInt8) : (rescL l).length ≤ 4 := by
  have hu : ∀ n, (utfL n).length ≤ 4 := fun n => by
    unfold utfL
    split
    · simp
    · exact encode_size n
  cases l with
  | nil => simp [rescL]
  | cons c r =>
    rw [rescL_cons]
    repeat' split
    all_goals first | exact hu _ | simp
/-- The document's search among the escapes of one sign: what it has found behind so many. -/
def uAt (c : Nat) : Nat → List UInt8
  | 0 => []
  | k + 1 => if (escs.getD k 0).toNat = c then [saids.getD k 0] else uAt c k
set_option maxRecDepth 100000 in
theorem uAt_table : ∀ c : Fin 256, uAt c.val 9 = if (0 : Int) ≤ escIx c.val then [saids.getD (escIx c.val).toNat 0] else [] := by decide +kernel
end Go.Proofs.YtkcjembmdiaclaaDoor
