/- The plain law under ScanRemarks: the tokens of a source with a comment. -/
import Derived.Test.YtkcjembmdiaclaaDoorU
namespace Go.Proofs.YtkcjembmdiaclaaDoor
open Go.RowKit Go.Lib Go.Maps
set_option linter.unusedVariables false
set_option linter.unusedSimpArgs false

/-- A byte that such a comment may have. -/
def remOk (c : Nat) : Bool := decide (32 ≤ c ∧ c ≤ 126 ∧ c ≠ 42)
def remC (wide : Bool) (l : List UInt8) : List UInt8 := if wide then 47 :: 42 :: (l ++ [42, 47]) else 47 :: 47 :: l
def remSt (c : List UInt8) : Nat → List UInt8 × Nat × Bool
  | 0 => (97 :: 32 :: (c ++ [10, 98]), 1, false)
  | 1 => (32 :: (c ++ [10, 98]), 1, true)
  | 2 => ([10, 98], 1, true)
  | 3 => ([98], 2, false)
  | 4 => ([], 2, true)
  | _ => ([], 2, false)
def remTk (c : List UInt8) : Nat → Int × List UInt8 × Nat
  | 0 => (1, [97], 1)
  | 1 => (4, c, 1)
  | 2 => (3, [10], 1)
  | 3 => (1, [98], 2)
  | 4 => (3, [10], 2)
  | _ => (0, [], 2)

theorem findEnd_at : ∀ (l r : List UInt8), (∀ a ∈ l, ¬ a = 42) → findEnd (l ++ 42 :: 47 :: r) = some l.length
  | [], r, _ => by simp [findEnd]
  | [a], r, h => by
    have ha : ¬ a = 42 := h a (by simp)
    simp [findEnd, ha]
  | a :: b :: l, r, h => by
    have ha : ¬ a = 42 := h a (by simp)
    have ih := findEnd_at (b :: l) r (fun x hx => h x (by simp at hx ⊢; exact .inr hx))
    simp only [List.cons_append] at ih ⊢
    unfold findEnd
    rw [if_neg (fun e => ha e.1), ih]
    rfl
theorem rem_tok (wide : Bool) (l : List UInt8) (h : ∀ c ∈ l, remOk c.toNat = true) : tokL (remC wide l ++ [10, 98]) = ((4 : Int), remC wide l, (((remC wide l).length : Nat) : Int)) ∧ (10 : UInt8) ∉ remC wide l := by
  have hok : ∀ c ∈ l, 32 ≤ c.toNat ∧ c.toNat ≤ 126 ∧ c.toNat ≠ 42 := fun c hc => of_decide_eq_true (h c hc)
  have h10 : (10 : UInt8) ∉ l := fun hm => by have := hok 10 hm; simp at this
  have h42 : ∀ a ∈ l, ¬ a = 42 := fun a ha e => by have := hok a ha; rw [e] at this; simp at this
  cases wide with
  | false =>
    have hc10 : (10 : UInt8) ∉ remC false l := by
      show (10 : UInt8) ∉ 47 :: 47 :: l
      simp [h10]
    refine ⟨?_, hc10⟩
    show tokL (47 :: (47 :: (l ++ [10, 98]))) = _
    rw [tokL_cons, if_neg (by decide), if_neg (by decide), if_neg (by decide), if_pos (by simp [Lib.hasPrefix, List.isPrefixOf])]
    have htw : (47 :: (47 :: (l ++ [10, 98])) : List UInt8).takeWhile (· != 10) = remC false l := by
      refine tw_stop (c := remC false l) (x := 10) (r := [98]) (fun a ha => ?_) (by decide)
      simp
      exact fun e => hc10 (e ▸ ha)
    rw [htw]
    have hcr : trimCR (remC false l) = remC false l := by
      unfold trimCR
      rw [if_neg]
      intro e
      have hm : (13 : UInt8) ∈ remC false l := List.mem_of_getLast? e
      have : (13 : UInt8) ∈ 47 :: 47 :: l := hm
      simp at this
      have := hok 13 this
      simp at this
    rw [hcr]
  | true =>
    have hc10 : (10 : UInt8) ∉ remC true l := by
      show (10 : UInt8) ∉ 47 :: 42 :: (l ++ [42, 47])
      simp [h10]
    refine ⟨?_, hc10⟩
    have e : remC true l ++ [10, 98] = 47 :: (42 :: (l ++ 42 :: 47 :: [10, 98])) := by
      show 47 :: 42 :: (l ++ [42, 47]) ++ [10, 98] = _
      simp
    rw [e, tokL_cons, if_neg (by decide), if_neg (by decide), if_neg (by decide), if_neg (by simp [Lib.hasPrefix, List.isPrefixOf]), if_pos (by simp [Lib.hasPrefix, List.isPrefixOf])]
    rw [List.drop_one, List.tail_cons, findEnd_at l [10, 98] h42]
    simp only
    have hlen : (remC true l).length = l.length + 4 := by
      show (47 :: 42 :: (l ++ [42, 47])).length = _
      simp
    have htk : (47 :: (42 :: (l ++ 42 :: 47 :: [10, 98])) : List UInt8).take (l.length + 4) = remC true l := by
      rw [← e, ← hlen, List.take_left]
    rw [htk, hlen]
    rfl
theorem rem_step (wide : Bool) (l : List UInt8) (h : ∀ c ∈ l, remOk c.toNat = true) (k : Nat) :
    nxt (remSt (remC wide l) k).1 (remSt (remC wide l) k).2.1 (remSt (remC wide l) k).2.2 =
      ⟨(remTk (remC wide l) k).1, (remTk (remC wide l) k).2.1, (remTk (remC wide l) k).2.2, 0, 0, (remSt (remC wide l) (k + 1)).1, (remSt (remC wide l) (k + 1)).2.1, (remSt (remC wide l) (k + 1)).2.2⟩ := by
  obtain ⟨ht, h10⟩ := rem_tok wide l h
  match k with
  | 0 =>
    show nxt (97 :: 32 :: (remC wide l ++ [10, 98])) 1 false = _
    rw [nxt_of (l := 97 :: 32 :: (remC wide l ++ [10, 98])) (line := 1) (semi := false) [] (97 :: 32 :: (remC wide l ++ [10, 98])) rfl (by simp) (fun c r e => by injection e with e1 _; rw [← e1]; decide) (tok_name 97 [] 32 (remC wide l ++ [10, 98]) (by decide) (by simp) (by decide))]
    rw [nxtTok_plain (by simp) (by simp)]
    rfl
  | 1 =>
    show nxt (32 :: (remC wide l ++ [10, 98])) 1 true = _
    rw [nxt_of (l := 32 :: (remC wide l ++ [10, 98])) (line := 1) (semi := true) [32] (remC wide l ++ [10, 98]) rfl (by simp; decide) (fun c r e => by
      have hc : c = 47 := by cases wide <;> (have e' := e; simp [remC] at e'; exact e'.1.symm)
      rw [hc]; decide) ht]
    rw [nxtTok_plain (by simp) (by simp; exact h10)]
    rw [List.drop_left, List.take_left, nls_none h10]
    rfl
  | 2 => rfl
  | 3 => rfl
  | 4 => rfl
  | k + 5 => rfl
theorem rem_good (wide : Bool) (l : List UInt8) (h : ∀ c ∈ l, remOk c.toNat = true) : ∀ c ∈ 97 :: 32 :: (remC wide l ++ [10, 98]), 0 < c.toNat ∧ c.toNat < 128 := by
  intro c hc
  have hok : ∀ c ∈ l, 32 ≤ c.toNat ∧ c.toNat ≤ 126 ∧ c.toNat ≠ 42 := fun c hc => of_decide_eq_true (h c hc)
  have : c ∈ l ∨ c = 97 ∨ c = 32 ∨ c = 47 ∨ c = 42 ∨ c = 10 ∨ c = 98 := by
    cases wide
    · simp [remC] at hc
      rcases hc with h | h | h | h | h | h <;> simp [h]
    · simp [remC] at hc
      rcases hc with h | h | h | h | h | h | h | h | h <;> simp [h]
  rcases this with h | h | h | h | h | h | h
  · have := hok c h; omega
  all_goals (subst h; decide)
end Go.Proofs.YtkcjembmdiaclaaDoor
