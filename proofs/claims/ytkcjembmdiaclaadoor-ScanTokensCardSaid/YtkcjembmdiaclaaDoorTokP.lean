/- The plain law under ScanTokens: where the tokens have ended, or a fault was told, the same is told again; the mark ahead of a source. -/
import Derived.Test.YtkcjembmdiaclaaDoorSo
namespace Go.Proofs.YtkcjembmdiaclaaDoor
open Go.RowKit Go.Lib Go.Maps
set_option linter.unusedVariables false
set_option linter.unusedSimpArgs false

theorem tw_drop_nil (p : UInt8 → Bool) : ∀ l : List UInt8, (l.drop (l.takeWhile p).length).takeWhile p = []
  | [] => rfl
  | a :: l => by
    by_cases ha : p a = true
    · rw [List.takeWhile_cons, if_pos ha, List.length_cons, List.drop_succ_cons]
      exact tw_drop_nil p l
    · have e : (a :: l).takeWhile p = [] := by rw [List.takeWhile_cons, if_neg ha]
      rw [e, List.length_nil, List.drop_zero, e]
/-- Behind the end, or a fault, there is the same. -/
theorem nxt_again (l : List UInt8) (line : Nat) (semi : Bool) (h : (nxt l line semi).e ≠ 0 ∨ (nxt l line semi).k = 0) :
    ∃ l'' line'' semi'', nxt (nxt l line semi).l (nxt l line semi).line (nxt l line semi).semi = ⟨(nxt l line semi).k, (nxt l line semi).t, (nxt l line semi).ln, (nxt l line semi).e, (nxt l line semi).el, l'', line'', semi''⟩ := by
  obtain ⟨l1, hl1⟩ : ∃ l1, l.drop (l.takeWhile (blankB semi)).length = l1 := ⟨_, rfl⟩
  obtain ⟨line1, hline⟩ : ∃ line1, line + nls (l.takeWhile (blankB semi)) = line1 := ⟨_, rfl⟩
  have htw : l1.takeWhile (blankB semi) = [] := by rw [← hl1]; exact tw_drop_nil _ _
  have e1 : nxt l line semi = nxtTok l1 line1 semi (tokL l1).1 (tokL l1).2.1 (tokL l1).2.2 := by unfold nxt; rw [hl1, hline]
  have e2 : nxt l1 line1 semi = nxtTok l1 line1 semi (tokL l1).1 (tokL l1).2.1 (tokL l1).2.2 := by
    unfold nxt
    rw [htw]
    rfl
  rw [e1] at h ⊢
  rcases tok_cases l1 with ⟨hb, _⟩ | ⟨hn0, hnle, hk⟩
  · rw [nxtTok_fault (by omega)] at e2 ⊢
    exact ⟨l1, line1, semi, e2⟩
  · obtain ⟨k, hkk⟩ : ∃ k, (tokL l1).1 = k := ⟨_, rfl⟩
    obtain ⟨t, htt⟩ : ∃ t, (tokL l1).2.1 = t := ⟨_, rfl⟩
    obtain ⟨n, hnn⟩ : ∃ n : Nat, (tokL l1).2.2 = (n : Int) := ⟨(tokL l1).2.2.toNat, by omega⟩
    rw [hkk, htt, hnn] at h hk ⊢
    by_cases h3 : k = 3 ∧ t = [10]
    · obtain ⟨rfl, rfl⟩ := h3
      rw [nxtTok_feed (by omega)] at h
      simp at h
    · by_cases h4 : semi = true ∧ (k = 0 ∨ (k = 4 ∧ 10 ∈ t))
      · obtain ⟨rfl, h4⟩ := h4
        rw [nxtTok_semi (by omega) h4] at h
        simp at h
      · rw [nxtTok_plain h3 h4] at h ⊢
        simp only [ne_eq, not_true_eq_false, false_or] at h
        subst h
        have hl0 : l1 = [] := by
          rcases hk with ⟨_, _, hl, _⟩ | hk | hk | hk | hk
          · exact hl
          · omega
          · omega
          · omega
          · omega
        subst hl0
        have ht : t = [] := by rw [← htt]; rfl
        have hn : n = 0 := by have : (tokL []).2.2 = 0 := rfl; omega
        subst ht hn
        have hs : semi = false := by
          cases semi with
          | false => rfl
          | true => exact absurd ⟨rfl, .inl rfl⟩ h4
        subst hs
        exact ⟨_, _, _, rfl⟩

/-- What goes ahead of a source. -/
theorem mark_trim (l : List UInt8) : Lib.trimPrefix l [239, 187, 191] = l.drop (markL l) ∧ nls (l.take (markL l)) = 0 ∧ markL l ≤ l.length := by
  unfold Lib.trimPrefix markL
  by_cases h : Lib.hasPrefix l [239, 187, 191] = true
  · rw [if_pos h, if_pos h]
    obtain ⟨r, hr⟩ : ∃ r, [239, 187, 191] ++ r = l := List.isPrefixOf_iff_prefix.1 h
    subst hr
    refine ⟨rfl, ?_, by simp⟩
    show nls [239, 187, 191] = 0
    decide
  · rw [if_neg h, if_neg h]
    exact ⟨rfl, rfl, Nat.zero_le _⟩
/-- The document's Next, its token told. -/
theorem rnext_is (b : Nat) (s : ByteArray) (at_ : Nat) (semi : Bool) (w : World) (hs : s.size ≤ 1048576) (h : RSc w b s at_ semi) (hat : at_ ≤ s.size)
    (k : Int) (t : List UInt8) (T : ByteArray) (ln : Nat) (l' : List UInt8) (line' : Nat) (semi' : Bool) (hr : nxt (s.data.toList.drop at_) (1 + nls (s.data.toList.take at_)) semi = ⟨k, t, ln, 0, 0, l', line', semi'⟩) (hT : bs t = T) :
    Calls Tryd.prog 13 #[.pointer (some ⟨b, 0, none⟩)] w fun e w' => ∃ at' : Nat, e = .returned (.tuple #[.agg #[.int .i64 k, .string T, .int .i64 ln], .agg #[.int .i64 0, .string ⟨#[]⟩, .int .i64 0]]) ∧ But b w w' ∧ at' ≤ s.size ∧ RSc w' b s at' semi' ∧ s.data.toList.drop at' = l' ∧ 1 + nls (s.data.toList.take at') = line' := by
  refine (rnext_any b s at_ semi w hs h hat).mono fun e w' ⟨h1, h2, h3⟩ => ?_
  rw [hr] at h1 h3
  obtain ⟨at', k1, k2, k3, k4⟩ := h3 rfl
  subst hT
  exact ⟨at', h1, h2, k1, k2, k3, k4⟩
/-- .. and its fault. -/
theorem rnext_bad (b : Nat) (s : ByteArray) (at_ : Nat) (semi : Bool) (w : World) (hs : s.size ≤ 1048576) (h : RSc w b s at_ semi) (hat : at_ ≤ s.size)
    (el : Nat) (l' : List UInt8) (line' : Nat) (semi' : Bool) (hr : nxt (s.data.toList.drop at_) (1 + nls (s.data.toList.take at_)) semi = ⟨0, [], 0, 100, el, l', line', semi'⟩) :
    Calls Tryd.prog 13 #[.pointer (some ⟨b, 0, none⟩)] w fun e w' => e = .returned (.tuple #[.agg #[.int .i64 0, .string ⟨#[]⟩, .int .i64 0], .agg #[.int .i64 100, .string ⟨#[]⟩, .int .i64 el]]) ∧ But b w w' := by
  refine (rnext_any b s at_ semi w hs h hat).mono fun e w' ⟨h1, h2, h3⟩ => ?_
  rw [hr] at h1
  exact ⟨h1, h2⟩
end Go.Proofs.YtkcjembmdiaclaaDoor
