/- The plain law under ScanLines: what a step does to the line, and what is left behind it. -/
import Derived.Test.YtkcjembmdiaclaaDoorRestP
namespace Go.Proofs.YtkcjembmdiaclaaDoor
open Go.RowKit Go.Lib Go.Maps
set_option linter.unusedVariables false
set_option linter.unusedSimpArgs false

/-- A step: the line and the feeds ahead keep their sum; a fault's or a token's line lies between. -/
structure LStep (l : List UInt8) (line : Nat) (semi : Bool) (r : NR) : Prop where
  keep : r.line + nls r.l = line + nls l
  len : r.line + r.l.length ≤ line + l.length
  what : (r.e = 100 ∧ r.k = 0 ∧ r.t = [] ∧ r.ln = 0 ∧ line ≤ r.el ∧ r.el ≤ line + nls l) ∨ (r.e = 0 ∧ r.el = 0 ∧ line ≤ r.ln ∧ r.ln ≤ r.line ∧ 0 ≤ r.k ∧ r.k ≤ 4 ∧ (r.k = 0 → r.t = []) ∧ (r.k ≠ 0 → 2 * r.l.length + sOf r.semi + 1 ≤ 2 * l.length + sOf semi))

theorem nls_split (l : List UInt8) (n : Nat) : nls l = nls (l.take n) + nls (l.drop n) := by
  rw [← nls_append, List.take_append_drop]
theorem nxt_lines (a : List UInt8) (line : Nat) (semi : Bool) : LStep a line semi (nxt a line semi) := by
  obtain ⟨p, hp⟩ : ∃ p, a.takeWhile (blankB semi) = p := ⟨_, rfl⟩
  obtain ⟨l1, hl1⟩ : ∃ l1, a.drop p.length = l1 := ⟨_, rfl⟩
  have htk : a.take p.length = p := by rw [← hp]; exact (take_tw _ _)
  have hnl := nls_split a p.length
  rw [htk, hl1] at hnl
  have hlen : a.length = p.length + l1.length := by
    have := congrArg List.length (List.take_append_drop p.length a)
    rw [htk, hl1, List.length_append] at this
    omega
  have hpn := nls_le p
  have e1 : nxt a line semi = nxtTok l1 (line + nls p) semi (tokL l1).1 (tokL l1).2.1 (tokL l1).2.2 := by unfold nxt; rw [hp, hl1]
  obtain ⟨line1, hline⟩ : ∃ line1, line + nls p = line1 := ⟨_, rfl⟩
  rw [hline] at e1
  rcases tok_cases l1 with ⟨hb, _⟩ | ⟨hn0, hnle, hk⟩
  · rw [e1, nxtTok_fault (by omega)]
    exact ⟨by simp only; omega, by simp only; omega, .inl ⟨rfl, rfl, rfl, rfl, by simp only; omega, by simp only; omega⟩⟩
  · obtain ⟨k, hkk⟩ : ∃ k, (tokL l1).1 = k := ⟨_, rfl⟩
    obtain ⟨tt, htt⟩ : ∃ tt, (tokL l1).2.1 = tt := ⟨_, rfl⟩
    obtain ⟨n, hnn⟩ : ∃ n : Nat, (tokL l1).2.2 = (n : Int) := ⟨(tokL l1).2.2.toNat, by omega⟩
    rw [hkk, htt, hnn] at e1 hk
    rw [hnn] at hnle
    have hsp := nls_split l1 n
    have hs0 := sOf_le semi
    by_cases h3 : k = 3 ∧ tt = [10]
    · obtain ⟨rfl, rfl⟩ := h3
      rw [nxtTok_feed (by omega)] at e1
      have hn1 : n = 1 := by omega
      subst hn1
      have hd : (l1.drop 1).length = l1.length - 1 := List.length_drop
      have hn2 : nls (l1.take 1) ≤ 1 := by have := nls_le (l1.take 1); rw [List.length_take] at this; omega
      have h0 : sOf false = 0 := rfl
      rw [e1]
      exact ⟨by simp only; omega, by simp only; omega, .inr ⟨rfl, rfl, by simp only; omega, by simp only; omega, by simp only; omega, by simp only; omega, fun h => absurd h (by simp), fun _ => by simp only; omega⟩⟩
    · by_cases h4 : semi = true ∧ (k = 0 ∨ (k = 4 ∧ 10 ∈ tt))
      · obtain ⟨rfl, h4⟩ := h4
        rw [nxtTok_semi (by omega) h4] at e1
        rw [e1]
        have h0 : sOf false = 0 := rfl
        have h1 : sOf true = 1 := rfl
        exact ⟨by simp only; omega, by simp only; omega, .inr ⟨rfl, rfl, by simp only; omega, by simp only; omega, by simp only; omega, by simp only; omega, fun h => absurd h (by simp), fun _ => by simp only; omega⟩⟩
      · rw [nxtTok_plain h3 h4] at e1
        have hd : (l1.drop n).length = l1.length - n := List.length_drop
        have hnt : nls (l1.take n) ≤ n := by have := nls_le (l1.take n); rw [List.length_take] at this; omega
        have hse := sOf_le (if k = 4 then semi else decide (k = 1 ∨ k = 2) || (decide (k = 3) && closeB tt))
        rw [e1]
        refine ⟨by simp only; omega, by simp only; omega, .inr ⟨rfl, rfl, by simp only; omega, by simp only; omega, by simp only; omega, by simp only; omega, fun h => ?_, fun h => by simp only at h ⊢; omega⟩⟩
        simp only at h ⊢
        rcases hk with ⟨_, ht, _⟩ | hk | hk | hk | hk
        · exact ht
        · omega
        · omega
        · omega
        · omega
/-- What goes ahead of a source is no feed. -/
theorem trim_split (l : List UInt8) : (Lib.trimPrefix l [239, 187, 191]).length ≤ l.length ∧ nls (Lib.trimPrefix l [239, 187, 191]) = nls l := by
  unfold Lib.trimPrefix
  by_cases h : Lib.hasPrefix l [239, 187, 191] = true
  · rw [if_pos h]
    obtain ⟨r, hr⟩ : ∃ r, [239, 187, 191] ++ r = l := List.isPrefixOf_iff_prefix.1 h
    subst hr
    rw [nls_append]
    refine ⟨by simp; omega, ?_⟩
    have : nls [239, 187, 191] = 0 := by decide
    rw [this]
    simp
  · rw [if_neg h]
    exact ⟨Nat.le_refl _, rfl⟩
end Go.Proofs.YtkcjembmdiaclaaDoor
