/- The plain law under ScanNames: names with blanks and commas between. -/
import Derived.Test.YtkcjembmdiaclaaDoorU
namespace Go.Proofs.YtkcjembmdiaclaaDoor
open Go.RowKit Go.Lib Go.Maps
set_option linter.unusedVariables false
set_option linter.unusedSimpArgs false

/-- What stands between, and of what kind. -/
def gapL : Nat → List UInt8
  | 0 => [32]
  | 1 => [9]
  | 2 => [32, 13, 32]
  | _ => [47, 42, 42, 47]
def lowOk (c : Nat) : Bool := decide (97 ≤ c ∧ c ≤ 122)
/-- A name that the law takes. -/
def NameOk (x : List UInt8) : Prop := x ≠ [] ∧ x.length ≤ 20 ∧ ∀ c ∈ x, lowOk c.toNat = true
def nameSrc (g : Nat) (l : List (List UInt8)) : List UInt8 := l.flatMap fun x => x ++ gapL g ++ [44]
theorem nameSrc_cons (g : Nat) (x : List UInt8) (l : List (List UInt8)) : nameSrc g (x :: l) = x ++ (gapL g ++ 44 :: nameSrc g l) := by
  show List.flatMap _ (x :: l) = _
  rw [List.flatMap_cons]
  simp [nameSrc]
theorem nameSrc_append (g : Nat) (a b : List (List UInt8)) : nameSrc g (a ++ b) = nameSrc g a ++ nameSrc g b := List.flatMap_append
theorem low_bd {c : UInt8} (h : lowOk c.toNat = true) : 97 ≤ c.toNat ∧ c.toNat ≤ 122 := of_decide_eq_true h
theorem low_letter {c : UInt8} (h : lowOk c.toNat = true) : letterN c.toNat = true := by
  have := low_bd h
  have key : ∀ n : Fin 256, lowOk n.val = true → letterN n.val = true := by decide +kernel
  exact key ⟨c.toNat, c.toNat_lt⟩ h
theorem gap_len (g : Nat) : (gapL g).length ≤ 4 := by
  match g with
  | 0 => decide
  | 1 => decide
  | 2 => decide
  | g + 3 => exact Nat.le_refl 4
theorem gap_mem (g : Nat) : ∀ c ∈ gapL g, 0 < c.toNat ∧ c.toNat < 128 ∧ c ≠ 10 := by
  match g with
  | 0 => decide
  | 1 => decide
  | 2 => decide
  | g + 3 => show ∀ c ∈ ([47, 42, 42, 47] : List UInt8), _; decide
theorem gap_head (g : Nat) : ∃ h t, gapL g = h :: t ∧ idB h = false := by
  match g with
  | 0 => exact ⟨_, _, rfl, by decide⟩
  | 1 => exact ⟨_, _, rfl, by decide⟩
  | 2 => exact ⟨_, _, rfl, by decide⟩
  | g + 3 => exact ⟨_, _, rfl, by decide⟩
theorem names_good (g : Nat) (l : List (List UInt8)) (h : ∀ x ∈ l, NameOk x) : ∀ c ∈ nameSrc g l, 0 < c.toNat ∧ c.toNat < 128 := by
  intro c hc
  unfold nameSrc at hc
  obtain ⟨x, hx, hc⟩ := List.mem_flatMap.1 hc
  simp only [List.mem_append, List.mem_singleton] at hc
  rcases hc with (hc | hc) | rfl
  · have := low_bd ((h x hx).2.2 c hc)
    omega
  · have := gap_mem g c hc
    exact ⟨this.1, this.2.1⟩
  · decide
theorem names_head (g : Nat) (l : List (List UInt8)) (h : ∀ x ∈ l, NameOk x) : (nameSrc g l).head? ≠ some 239 := by
  intro hh
  have hm := List.mem_of_mem_head? (Option.mem_def.2 hh)
  have := names_good g l h 239 hm
  simp at this
/-- The name's own step. -/
theorem name_step (g : Nat) (x rest : List UInt8) (hx : NameOk x) : nxt (x ++ (gapL g ++ 44 :: rest)) 1 false = ⟨1, x, 1, 0, 0, gapL g ++ 44 :: rest, 1, true⟩ := by
  obtain ⟨hne, _, hl⟩ := hx
  obtain ⟨gh, gt, hg, hid⟩ := gap_head g
  cases x with
  | nil => exact absurd rfl hne
  | cons c t =>
    have hc := hl c (by simp)
    have hcb := low_bd hc
    have ht : ∀ a ∈ t, idB a = true := fun a ha => by
      have := low_letter (hl a (by simp [ha]))
      unfold idB
      rw [this]
      rfl
    have h10 : (10 : UInt8) ∉ c :: t := fun hm => by have := low_bd (hl 10 hm); simp at this
    have htok := tok_name c t gh (gt ++ 44 :: rest) (low_letter hc) ht hid
    have e : (c :: t) ++ (gapL g ++ 44 :: rest) = c :: (t ++ gh :: (gt ++ 44 :: rest)) := by rw [hg]; rfl
    rw [e, nxt_of (l := c :: (t ++ gh :: (gt ++ 44 :: rest))) (line := 1) (semi := false) [] (c :: (t ++ gh :: (gt ++ 44 :: rest))) rfl (by simp) (fun c' r e => by
      injection e with e1 _
      rw [← e1]
      have h : ∀ k : UInt8, k.toNat < 97 → (c == k) = false := fun k hk => by
        rw [beq_eq_false_iff_ne]
        intro e
        rw [e] at hcb
        omega
      unfold blankB
      rw [h 32 (by decide), h 9 (by decide), h 13 (by decide), h 10 (by decide)]
      rfl) htok]
    rw [nxtTok_plain (by simp) (by simp)]
    have e2 : c :: (t ++ gh :: (gt ++ 44 :: rest)) = (c :: t) ++ (gapL g ++ 44 :: rest) := e.symm
    rw [e2, List.drop_left, List.take_left, nls_none h10]
    rfl
theorem comma_tok (rest : List UInt8) : tokL (44 :: rest) = ((3 : Int), [44], ((1 : Nat) : Int)) := by
  rw [tokL_cons, if_neg (by decide), if_neg (by decide), if_neg (by decide), if_neg (by simp [Lib.hasPrefix, List.isPrefixOf]), if_neg (by simp [Lib.hasPrefix, List.isPrefixOf])]
  rfl
/-- The comma's, behind blanks. -/
theorem comma_step (p rest : List UInt8) (hp : ∀ c ∈ p, blankB true c = true) (h10 : (10 : UInt8) ∉ p) : nxt (p ++ 44 :: rest) 1 true = ⟨3, [44], 1, 0, 0, rest, 1, false⟩ := by
  rw [nxt_of (l := p ++ 44 :: rest) (line := 1) (semi := true) p (44 :: rest) rfl hp (fun c r e => by injection e with e1 _; rw [← e1]; decide) (comma_tok rest)]
  rw [nls_none h10, nxtTok_plain (by simp) (by simp)]
  rfl
theorem comma_gap (g : Nat) (hg : g < 3) (rest : List UInt8) : nxt (gapL g ++ 44 :: rest) 1 true = ⟨3, [44], 1, 0, 0, rest, 1, false⟩ := by
  have : g = 0 ∨ g = 1 ∨ g = 2 := by omega
  rcases this with rfl | rfl | rfl <;> exact comma_step _ _ (by decide) (by decide)
theorem comma_now (rest : List UInt8) : nxt (44 :: rest) 1 true = ⟨3, [44], 1, 0, 0, rest, 1, false⟩ := comma_step [] rest (by simp) (by simp)
/-- The comment's. -/
theorem note_step (rest : List UInt8) : nxt (gapL 3 ++ 44 :: rest) 1 true = ⟨4, [47, 42, 42, 47], 1, 0, 0, 44 :: rest, 1, true⟩ := by
  have ht : tokL (47 :: (42 :: (42 :: 47 :: 44 :: rest))) = ((4 : Int), [47, 42, 42, 47], ((4 : Nat) : Int)) := by
    rw [tokL_cons, if_neg (by decide), if_neg (by decide), if_neg (by decide), if_neg (by simp [Lib.hasPrefix, List.isPrefixOf]), if_pos (by simp [Lib.hasPrefix, List.isPrefixOf])]
    rw [List.drop_one, List.tail_cons]
    have : findEnd (42 :: 47 :: 44 :: rest) = some 0 := by unfold findEnd; rw [if_pos ⟨rfl, rfl⟩]
    rw [this]
    rfl
  show nxt (47 :: (42 :: (42 :: 47 :: 44 :: rest))) 1 true = _
  rw [nxt_of (l := 47 :: (42 :: (42 :: 47 :: 44 :: rest))) (line := 1) (semi := true) [] (47 :: (42 :: (42 :: 47 :: 44 :: rest))) rfl (by simp) (fun c r e => by injection e with e1 _; rw [← e1]; decide) ht]
  rw [nxtTok_plain (by simp) (by simp)]
  rfl
theorem names_end : nxt [] 1 false = ⟨0, [], 1, 0, 0, [], 1, false⟩ := by kernel_rfl
end Go.Proofs.YtkcjembmdiaclaaDoor
