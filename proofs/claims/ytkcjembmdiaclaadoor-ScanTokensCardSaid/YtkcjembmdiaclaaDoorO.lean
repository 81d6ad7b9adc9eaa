/- The program's token, as one function of bytes. -/
import Derived.Test.YtkcjembmdiaclaaDoorN
import Derived.Lib.DecodeN
namespace Go.Proofs.YtkcjembmdiaclaaDoor
open Go.RowKit Go.Lib Go.Maps
set_option linter.unusedVariables false
set_option linter.unusedSimpArgs false

/-- A byte that may stand in a name behind its first. -/
def idB (c : UInt8) : Bool := letterN c.toNat || digitN c.toNat

theorem get_at' (s : ByteArray) {i : Nat} (h : i < s.size) : s.get! i = s[i] := by
  simp [ByteArray.get!, getElem!_pos, h]
  rfl
theorem get_list (s : ByteArray) {i : Nat} (h : i < s.size) : s.data.toList[i]? = some s[i] := by
  rw [List.getElem?_eq_getElem (by rw [Array.length_toList]; exact h)]
  rfl
/-- A rune of more than one byte: its bytes. -/
theorem decodeN_wide (n b0 b1 b2 b3 : Nat) (hn : 1 ≤ n) (h : 128 ≤ b0) :
    (decodeN n b0 b1 b2 b3).2 ≤ n ∧ 128 ≤ (decodeN n b0 b1 b2 b3).1 ∧ (2 ≤ (decodeN n b0 b1 b2 b3).2 → 128 ≤ b1) ∧ (3 ≤ (decodeN n b0 b1 b2 b3).2 → 128 ≤ b2) ∧ (4 ≤ (decodeN n b0 b1 b2 b3).2 → 128 ≤ b3) ∧ (decodeN n b0 b1 b2 b3).2 ≤ 4 := by
  unfold decodeN
  rw [if_neg (by omega)]
  repeat' split
  all_goals (simp only; omega)
theorem decode_wide (s : ByteArray) (pos : Nat) (hp : pos < s.size) (h : 128 ≤ (s[pos]'hp).toNat) :
    pos + (Utf8.decode s pos).2 ≤ s.size ∧ 128 ≤ (Utf8.decode s pos).1 ∧ ∀ j, j < (Utf8.decode s pos).2 → ∃ c, s.data.toList[pos + j]? = some c ∧ 128 ≤ c.toNat := by
  rw [decode_at]
  have hb0 : 128 ≤ (s.get! pos).toNat := by rw [get_at' s hp]; exact h
  obtain ⟨h1, h2, h3, h4, h5, h6⟩ := decodeN_wide (s.size - pos) (s.get! pos).toNat (s.get! (pos + 1)).toNat (s.get! (pos + 2)).toNat (s.get! (pos + 3)).toNat (by omega) hb0
  refine ⟨by omega, h2, fun j hj => ?_⟩
  have hlt : pos + j < s.size := by omega
  refine ⟨s[pos + j], get_list s hlt, ?_⟩
  rw [← get_at' s hlt]
  have : j = 0 ∨ j = 1 ∨ j = 2 ∨ j = 3 := by omega
  rcases this with rfl | rfl | rfl | rfl
  · exact hb0
  · exact h3 (by omega)
  · exact h4 (by omega)
  · exact h5 (by omega)
theorem idB_wide {c : UInt8} (h : 128 ≤ c.toNat) : idB c = true := by
  unfold idB letterN
  rw [decide_eq_true (by omega)]
  rfl
theorem tw_skip {p : UInt8 → Bool} : ∀ (k : Nat) (l : List UInt8), (∀ j, j < k → ∃ c, l[j]? = some c ∧ p c = true) → l.takeWhile p = l.take k ++ (l.drop k).takeWhile p
  | 0, l, _ => by simp
  | k + 1, [], h => by obtain ⟨c, hc, _⟩ := h 0 (by omega); simp at hc
  | k + 1, a :: l, h => by
    obtain ⟨c, hc, hp⟩ := h 0 (by omega)
    simp at hc
    subst hc
    rw [List.takeWhile_cons, if_pos hp, tw_skip k l (fun j hj => by have := h (j + 1) (by omega); simpa using this)]
    simp

theorem idx_from (s : ByteArray) : ∀ (f pos : Nat), pos ≤ s.size → s.size ≤ pos + f →
    Lib.idxFuncFrom stopN true s f pos = if pos + ((s.data.toList.drop pos).takeWhile idB).length = s.size then -1 else ((pos + ((s.data.toList.drop pos).takeWhile idB).length : Nat) : Int)
  | 0, pos, hp, hf => by
    have : pos = s.size := by omega
    subst this
    rw [drop_end s (by omega)]
    simp [Lib.idxFuncFrom]
  | f + 1, pos, hp, hf => by
    by_cases hlt : pos < s.size
    · unfold Lib.idxFuncFrom
      rw [if_pos hlt]
      by_cases ha : (s[pos]'hlt).toNat < 128
      · rw [decode_ascii s pos hlt ha]
        simp only
        rw [drop_at s hlt, List.takeWhile_cons]
        by_cases hst : stopN (s[pos]'hlt).toNat = true
        · have hid : ¬ idB (s[pos]'hlt) = true := by
            unfold stopN at hst
            unfold idB
            revert hst
            cases letterN (s[pos]'hlt).toNat <;> cases digitN (s[pos]'hlt).toNat <;> simp
          rw [if_pos hst, if_neg hid]
          simp
          omega
        · have hid : idB (s[pos]'hlt) = true := by
            unfold stopN at hst
            unfold idB
            revert hst
            cases letterN (s[pos]'hlt).toNat <;> cases digitN (s[pos]'hlt).toNat <;> simp
          rw [if_neg hst, if_pos hid, idx_from s f (pos + 1) (by omega) (by omega)]
          simp only [List.length_cons]
          have e : pos + (((s.data.toList.drop (pos + 1)).takeWhile idB).length + 1) = pos + 1 + ((s.data.toList.drop (pos + 1)).takeWhile idB).length := by omega
          rw [e]
      · obtain ⟨h1, h2, h3⟩ := decode_wide s pos hlt (by omega)
        obtain ⟨K, hK⟩ : ∃ K, (Utf8.decode s pos).2 = K := ⟨_, rfl⟩
        have hw := Lib.width_pos s pos
        rw [hK] at h1 h3 hw ⊢
        have hst : ¬ stopN (Utf8.decode s pos).1 = true := by
          unfold stopN letterN
          rw [decide_eq_true (by omega)]
          simp
        rw [if_neg hst, idx_from s f (pos + K) h1 (by omega)]
        rw [tw_skip (p := idB) K (s.data.toList.drop pos) (fun j hj => by
          obtain ⟨c, hc, hc2⟩ := h3 j hj
          exact ⟨c, by rw [List.getElem?_drop]; exact hc, idB_wide hc2⟩)]
        rw [List.length_append, List.length_take, List.length_drop, List.drop_drop, ← Lib.size_eq]
        have e : pos + (min K (s.size - pos) + ((s.data.toList.drop (pos + K)).takeWhile idB).length) = pos + K + ((s.data.toList.drop (pos + K)).takeWhile idB).length := by omega
        rw [e]
    · have : pos = s.size := by omega
      subst this
      rw [Lib.idxFuncFrom_end _ _ _ _ _ hlt, drop_end s (by omega)]
      simp
theorem idx_all (s : ByteArray) : Lib.idxFunc stopN true s = if (s.data.toList.takeWhile idB).length = s.size then -1 else ((s.data.toList.takeWhile idB).length : Int) := by
  have h := idx_from s s.size 0 (by omega) (by omega)
  simp only [Nat.zero_add, List.drop_zero] at h
  exact h

/-- The token with which a text begins: its kind, what it says, how many bytes it takes; below 0: it is none. -/
def tokL : List UInt8 → Int × List UInt8 × Int
  | [] => (0, [], 0)
  | c :: r =>
    if letterN c.toNat = true then (1, (c :: r).takeWhile idB, ((c :: r).takeWhile idB).length)
    else if c.toNat = 96 then (if 96 ∈ r then (2, (r.takeWhile (· != 96)).filter (· != 13), (r.takeWhile (· != 96)).length + 2) else (0, [], -1))
    else if c.toNat = 34 then (if quotedL (c :: r) = 0 then (0, [], -1) else match unquoteL (r.take (quotedL (c :: r) - 2)) with | some u => (2, u, quotedL (c :: r)) | none => (0, [], -1))
    else if Lib.hasPrefix (c :: r) [47, 47] = true then (4, trimCR ((c :: r).takeWhile (· != 10)), ((c :: r).takeWhile (· != 10)).length)
    else if Lib.hasPrefix (c :: r) [47, 42] = true then (match findEnd (r.drop 1) with | some i => (4, (c :: r).take (i + 4), i + 4) | none => (0, [], -1))
    else (3, [c], 1)
theorem tokL_cons (c : UInt8) (r : List UInt8) : tokL (c :: r) = (if letterN c.toNat = true then (1, (c :: r).takeWhile idB, ((c :: r).takeWhile idB).length)
    else if c.toNat = 96 then (if 96 ∈ r then (2, (r.takeWhile (· != 96)).filter (· != 13), (r.takeWhile (· != 96)).length + 2) else (0, [], -1))
    else if c.toNat = 34 then (if quotedL (c :: r) = 0 then (0, [], -1) else match unquoteL (r.take (quotedL (c :: r) - 2)) with | some u => (2, u, quotedL (c :: r)) | none => (0, [], -1))
    else if Lib.hasPrefix (c :: r) [47, 47] = true then (4, trimCR ((c :: r).takeWhile (· != 10)), ((c :: r).takeWhile (· != 10)).length)
    else if Lib.hasPrefix (c :: r) [47, 42] = true then (match findEnd (r.drop 1) with | some i => (4, (c :: r).take (i + 4), i + 4) | none => (0, [], -1))
    else (3, [c], 1) : Int × List UInt8 × Int) := rfl

theorem token_any (l : List UInt8) (w : World) (hl : l.length ≤ 1048576) (m : Int) (hm : w.cell? ⟨2, 0, none⟩ = some (.int .i64 m)) :
    Calls Tryd.prog 21 #[.string (bs l)] w fun e w' => e = .returned (tokV (tokL l).1 (tokL l).2.1 (tokL l).2.2) ∧ Below w.heap.size w w' := by
  have hs : (bs l).size ≤ 1048576 := by rw [bs_size]; exact hl
  cases l with
  | nil => exact token_empty w
  | cons c r =>
    have h0 : 0 < (bs (c :: r)).size := by rw [bs_size]; simp
    have hat : ((bs (c :: r))[0]'h0).toNat = c.toNat := rfl
    rw [tokL_cons]
    by_cases h1 : letterN c.toNat = true
    · rw [if_pos h1]
      have hi := idx_all (bs (c :: r))
      rw [bs_list] at hi
      have h := token_name (bs (c :: r)) w hs h0 _ hat h1 ((c :: r).takeWhile idB).length (by rw [bs_size]; exact tw_le _ _) hi
      rw [bs_list, take_tw] at h
      exact h
    · have h1f : letterN c.toNat = false := by simpa using h1
      rw [if_neg h1]
      by_cases h2 : c.toNat = 96
      · rw [if_pos h2]
        have h2b : ((c.toNat : Int) == 96) = true := by rw [beq_iff_eq]; omega
        obtain ⟨b, hcut⟩ := cut_one 96 r
        by_cases hm96 : (96 : UInt8) ∈ r
        · rw [if_pos hm96]
          have h := token_raw (bs (c :: r)) w hs m hm h0 _ hat h1f h2b (r.takeWhile (· != 96)) b (by rw [bs_list, List.drop_one, List.tail_cons, hcut]; simp [hm96]) (by rw [bs_size]; have := tw_le (· != (96 : UInt8)) r; simp; omega)
          rw [replaceAll_cr] at h
          exact h
        · rw [if_neg hm96]
          exact token_raw_none (bs (c :: r)) w hs m hm h0 _ hat h1f h2b (r.takeWhile (· != 96)) b (by rw [bs_list, List.drop_one, List.tail_cons, hcut]; simp [hm96])
      · rw [if_neg h2]
        have h2f : ((c.toNat : Int) == 96) = false := by rw [beq_eq_false_iff_ne]; omega
        by_cases h3 : c.toNat = 34
        · rw [if_pos h3]
          have h3b : ((c.toNat : Int) == 34) = true := by rw [beq_iff_eq]; omega
          by_cases hq : quotedL (c :: r) = 0
          · rw [if_pos hq]
            exact token_quote_cut (bs (c :: r)) w hs h0 _ hat h1f h2f h3b (by rw [bs_list]; exact hq)
          · rw [if_neg hq]
            obtain ⟨hq2, hq3⟩ := quotedL_bd _ hq
            cases hu : unquoteL (r.take (quotedL (c :: r) - 2)) with
            | none =>
              exact token_quote_bad (bs (c :: r)) w hs h0 _ hat h1f h2f h3b _ (by rw [bs_list]) hq2 (by rw [bs_size]; exact hq3) (by rw [bs_list]; exact hu)
            | some u =>
              exact token_quote (bs (c :: r)) w hs h0 _ hat h1f h2f h3b _ (by rw [bs_list]) hq2 (by rw [bs_size]; exact hq3) u (by rw [bs_list]; exact hu)
        · rw [if_neg h3]
          have h3f : ((c.toNat : Int) == 34) = false := by rw [beq_eq_false_iff_ne]; omega
          by_cases h4 : Lib.hasPrefix (c :: r) [47, 47] = true
          · rw [if_pos h4]
            obtain ⟨b, hcut⟩ := cut_one 10 (c :: r)
            have h := token_line (bs (c :: r)) w hs m hm h0 _ hat h1f h2f h3f (by rw [bs_list]; exact h4) _ b _ (by rw [bs_list]; exact hcut) (by rw [bs_size]; exact tw_le _ _)
            rw [trimSuffix_cr] at h
            exact h
          · rw [if_neg h4]
            have h4f : Lib.hasPrefix (c :: r) [47, 47] = false := by simpa using h4
            by_cases h5 : Lib.hasPrefix (c :: r) [47, 42] = true
            · rw [if_pos h5]
              have hc := cut_end (r.drop 1)
              have h5' : Lib.hasPrefix (bs (c :: r)).data.toList [47, 42] = true := by rw [bs_list]; exact h5
              have hsz := hasPrefix_two h5'
              rw [bs_size] at hsz
              cases hf : findEnd (r.drop 1) with
              | none =>
                rw [hf] at hc
                obtain ⟨b, hc⟩ := hc
                exact token_block_none (bs (c :: r)) w hs m hm h0 _ hat h1f h2f h3f (by rw [bs_list]; exact h4f) h5' _ b (by rw [bs_list]; exact hc)
              | some i =>
                rw [hf] at hc
                obtain ⟨⟨b, hc⟩, hi⟩ := hc
                rw [List.length_drop] at hi
                simp at hsz
                have hti : ((r.drop 1).take i).length = i := by rw [List.length_take, List.length_drop]; omega
                have h := token_block (bs (c :: r)) w hs m hm h0 _ hat h1f h2f h3f (by rw [bs_list]; exact h4f) h5' _ b (by rw [bs_list]; exact hc) (by rw [hti, bs_size]; simp; omega)
                rw [hti, bs_list] at h
                exact h
            · rw [if_neg h5]
              have h := token_sign (bs (c :: r)) w hs h0 _ hat h1f h2f h3f (by rw [bs_list]; exact h4f) (by rw [bs_list]; simpa using h5)
              rw [bs_list] at h
              exact h
end Go.Proofs.YtkcjembmdiaclaaDoor
