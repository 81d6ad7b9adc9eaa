/- The program's escape, as one function of bytes. -/
import Derived.Test.YtkcjembmdiaclaaDoorG
namespace Go.Proofs.YtkcjembmdiaclaaDoor
open Go.RowKit Go.Lib Go.Maps
set_option linter.unusedVariables false
set_option linter.unusedSimpArgs false

def escL : List UInt8 → List UInt8 × Nat
  | [] => ([], 0)
  | c :: r =>
    if (0 : Int) ≤ escIx c.toNat then ([saids.getD (escIx c.toNat).toNat 0], 1)
    else if 48 ≤ c.toNat ∧ c.toNat ≤ 57 then (match valueL (c :: r) 3 8 with | some n => if n < 256 then ([n.toNat.toUInt8], 3) else ([], 0) | none => ([], 0))
    else if c.toNat = 120 then (match valueL r 2 16 with | some n => ([n.toNat.toUInt8], 3) | none => ([], 0))
    else if 4 ≤ manyN c.toNat then (match valueL r (manyN c.toNat) 16 with | some n => if Lib.validRune n = true then ((Utf8.encode n).data.toList, 1 + manyN c.toNat) else ([], 0) | none => ([], 0))
    else ([], 0)
theorem escL_cons (c : UInt8) (r : List UInt8) : escL (c :: r) = if (0 : Int) ≤ escIx c.toNat then ([saids.getD (escIx c.toNat).toNat 0], 1)
    else if 48 ≤ c.toNat ∧ c.toNat ≤ 57 then (match valueL (c :: r) 3 8 with | some n => if n < 256 then ([n.toNat.toUInt8], 3) else ([], 0) | none => ([], 0))
    else if c.toNat = 120 then (match valueL r 2 16 with | some n => ([n.toNat.toUInt8], 3) | none => ([], 0))
    else if 4 ≤ manyN c.toNat then (match valueL r (manyN c.toNat) 16 with | some n => if Lib.validRune n = true then ((Utf8.encode n).data.toList, 1 + manyN c.toNat) else ([], 0) | none => ([], 0))
    else ([], 0) := rfl

theorem vFrom_bd (base : Int) (hb : 0 ≤ base) : ∀ (l : List UInt8) (n r : Int), vFrom base l n = some r → 0 ≤ n → 0 ≤ r ∧ r < (n + 1) * base ^ l.length
  | [], n, r, h, hn => by
    simp only [vFrom, Option.some.injEq] at h
    subst h
    simp
    omega
  | c :: l, n, r, h, hn => by
    simp only [vFrom] at h
    split at h
    · cases h
    · rename_i hc
      have hp : 0 ≤ n * base := Int.mul_nonneg hn hb
      obtain ⟨h0, h1⟩ := vFrom_bd base hb l _ r h (by omega)
      refine ⟨h0, Int.lt_of_lt_of_le h1 ?_⟩
      have e : (n + 1) * base ^ (c :: l).length = (n * base + base) * base ^ l.length := by
        rw [List.length_cons, Int.pow_succ, Int.mul_comm (base ^ l.length) base, ← Int.mul_assoc, Int.add_mul, Int.one_mul]
      rw [e]
      exact Int.mul_le_mul_of_nonneg_right (by omega) (Int.pow_nonneg hb)
theorem valueL_bd {l : List UInt8} {many : Nat} {base r : Int} (hb : 0 ≤ base) (h : valueL l many base = some r) : 0 ≤ r ∧ r < base ^ many := by
  unfold valueL at h
  split at h
  · cases h
  · have := vFrom_bd base hb _ _ _ h (by omega)
    rw [List.length_take, Nat.min_eq_left (by omega)] at this
    simpa using this
set_option maxRecDepth 100000 in
theorem escIx_table : ∀ c : Fin 256, escIx c.val = -1 ∨ (0 ≤ escIx c.val ∧ escIx c.val < 9) := by decide +kernel
theorem escIx_range (c : Nat) (h : c < 256) : escIx c = -1 ∨ (0 ≤ escIx c ∧ escIx c < 9) := escIx_table ⟨c, h⟩
theorem many_cases (c : Nat) : manyN c = 0 ∨ (manyN c = 2 ∧ c = 120) ∨ manyN c = 4 ∨ manyN c = 8 := by
  unfold manyN
  split
  · exact .inr (.inl ⟨rfl, by assumption⟩)
  · split
    · exact .inr (.inr (.inl rfl))
    · split
      · exact .inr (.inr (.inr rfl))
      · exact .inl rfl

theorem escape_any (s : ByteArray) (w : World) (hs : s.size ≤ 4611686018427387904) :
    Calls Tryd.prog 48 #[.string s] w fun e w' => e = .returned (.tuple #[.string (bs (escL s.data.toList).1), .int .i64 ((escL s.data.toList).2 : Nat)]) ∧ Below w.heap.size w w' := by
  by_cases h0 : 0 < s.size
  · have hl : s.data.toList = s[0] :: s.data.toList.drop 1 := by rw [← drop_at s h0]; rfl
    obtain ⟨r, hr⟩ : ∃ r, s.data.toList.drop 1 = r := ⟨_, rfl⟩
    have hc256 : (s[0]).toNat < 256 := UInt8.toNat_lt _
    rcases escIx_range _ hc256 with hi | ⟨hi0, hi9⟩
    · have hin : ¬ (0 : Int) ≤ escIx (s[0]).toNat := by omega
      by_cases hd : 48 ≤ (s[0]).toNat ∧ (s[0]).toNat ≤ 57
      · cases hv : valueL s.data.toList 3 8 with
        | none =>
          have e : escL s.data.toList = ([], 0) := by rw [hl]; rw [escL_cons, if_neg hin, if_pos hd, ← hl, hv]
          rw [e]
          exact escape_oct_none s w hs h0 _ rfl hi hd hv
        | some n =>
          by_cases hn : n < 256
          · have e : escL s.data.toList = ([n.toNat.toUInt8], 3) := by rw [hl]; rw [escL_cons, if_neg hin, if_pos hd, ← hl, hv]; simp [hn]
            rw [e]
            exact escape_oct s w hs h0 _ rfl hi hd n hv hn (valueL_bd (by omega) hv).1
          · have e : escL s.data.toList = ([], 0) := by rw [hl]; rw [escL_cons, if_neg hin, if_pos hd, ← hl, hv]; simp [hn]
            rw [e]
            exact escape_oct_big s w hs h0 _ rfl hi hd n hv (by omega)
      · by_cases hx : (s[0]).toNat = 120
        · cases hv : valueL (s.data.toList.drop 1) 2 16 with
          | none =>
            have e : escL s.data.toList = ([], 0) := by rw [hl]; rw [escL_cons, if_neg hin, if_neg hd, if_pos hx, hv]
            rw [e]
            exact escape_x_none s w hs h0 _ rfl hi hx hv
          | some n =>
            have e : escL s.data.toList = ([n.toNat.toUInt8], 3) := by rw [hl]; rw [escL_cons, if_neg hin, if_neg hd, if_pos hx, hv]
            rw [e]
            have hb := valueL_bd (by omega) hv
            exact escape_x s w hs h0 _ rfl hi hx n hv (by simpa using hb.2) hb.1
        · by_cases hm : 4 ≤ manyN (s[0]).toNat
          · have hm1 : manyN (s[0]).toNat = 4 ∨ manyN (s[0]).toNat = 8 := by rcases many_cases (s[0]).toNat with h | ⟨h, _⟩ | h | h <;> omega
            cases hv : valueL (s.data.toList.drop 1) (manyN (s[0]).toNat) 16 with
            | none =>
              have e : escL s.data.toList = ([], 0) := by rw [hl]; rw [escL_cons, if_neg hin, if_neg hd, if_neg hx, if_pos hm, hv]
              rw [e]
              exact escape_u_none s w hs h0 _ rfl hi _ rfl hm1 hv
            | some n =>
              cases hvr : Lib.validRune n with
              | true =>
                have e : escL s.data.toList = ((Utf8.encode n).data.toList, 1 + manyN (s[0]).toNat) := by rw [hl]; rw [escL_cons, if_neg hin, if_neg hd, if_neg hx, if_pos hm, hv]; simp [hvr]
                rw [e]
                have := escape_u s w hs h0 _ rfl hi _ rfl hm1 n hv hvr
                simp only [bs_of]
                have ec : ((1 + manyN (s[0]).toNat : Nat) : Int) = 1 + (manyN (s[0]).toNat : Int) := by omega
                rw [ec]
                exact this
              | false =>
                have e : escL s.data.toList = ([], 0) := by rw [hl]; rw [escL_cons, if_neg hin, if_neg hd, if_neg hx, if_pos hm, hv]; simp [hvr]
                rw [e]
                exact escape_u_bad s w hs h0 _ rfl hi _ rfl hm1 n hv hvr
          · have e : escL s.data.toList = ([], 0) := by rw [hl]; rw [escL_cons, if_neg hin, if_neg hd, if_neg hx, if_neg hm]
            rw [e]
            have hm0 : manyN (s[0]).toNat = 0 := by rcases many_cases (s[0]).toNat with h | ⟨_, h⟩ | h | h <;> omega
            exact escape_other s w hs h0 _ rfl hi hm0 hd
    · have e : escL s.data.toList = ([saids.getD (escIx (s[0]).toNat).toNat 0], 1) := by rw [hl]; rw [escL_cons, if_pos hi0]
      rw [e]
      exact escape_one s w h0 _ rfl _ (by omega) (by omega)
  · have := is_empty (s := s) (by omega)
    subst this
    exact escape_empty w
end Go.Proofs.YtkcjembmdiaclaaDoor
