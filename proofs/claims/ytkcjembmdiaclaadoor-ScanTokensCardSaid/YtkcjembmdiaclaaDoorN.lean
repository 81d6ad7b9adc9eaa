/- Plain laws on lists of bytes: what the library's functions and the program's loops come to. -/
import Derived.Test.YtkcjembmdiaclaaDoorM
import Derived.Laws.RangeAny
namespace Go.Proofs.YtkcjembmdiaclaaDoor
open Go.RowKit Go.Lib Go.Maps
set_option linter.unusedVariables false
set_option linter.unusedSimpArgs false

theorem take_tw {α : Type} (p : α → Bool) : ∀ l : List α, l.take (l.takeWhile p).length = l.takeWhile p
  | [] => rfl
  | a :: l => by
    rw [List.takeWhile_cons]
    split
    · simp [take_tw p l]
    · rfl
theorem tw_all {α : Type} {p : α → Bool} : ∀ {l : List α}, (∀ a ∈ l, p a = true) → l.takeWhile p = l
  | [], _ => rfl
  | a :: l, h => by rw [List.takeWhile_cons, if_pos (h a (by simp)), tw_all (fun b hb => h b (by simp [hb]))]
theorem mem_tw {α : Type} {p : α → Bool} : ∀ {l : List α} {a : α}, a ∈ l.takeWhile p → p a = true
  | [], a, h => by simp at h
  | b :: l, a, h => by
    rw [List.takeWhile_cons] at h
    split at h
    · rcases List.mem_cons.1 h with rfl | h'
      · assumption
      · exact mem_tw h'
    · simp at h
theorem tw_le {α : Type} (p : α → Bool) (l : List α) : (l.takeWhile p).length ≤ l.length := by
  have := congrArg List.length (take_tw p l)
  rw [List.length_take] at this
  omega
theorem index_one (x : UInt8) : ∀ l : List UInt8, Lib.index l [x] = if x ∈ l then ((l.takeWhile (· != x)).length : Int) else -1
  | [] => by simp [Lib.index]
  | b :: l => by
    unfold Lib.index
    by_cases h : b = x
    · subst h
      simp [List.isPrefixOf]
    · have h' : ¬ x = b := fun e => h e.symm
      have hp : ([x] : List UInt8).isPrefixOf (b :: l) = false := by simp [List.isPrefixOf, h']
      rw [hp, index_one x l]
      simp only [Bool.false_eq_true, if_false, List.mem_cons, h', false_or]
      by_cases hm : x ∈ l
      · have hne : ¬ (((l.takeWhile (· != x)).length : Int) == -1) = true := by rw [beq_iff_eq]; omega
        rw [if_pos hm, if_pos hm, if_neg hne, List.takeWhile_cons, if_pos (by simpa using h)]
        simp
      · rw [if_neg hm, if_neg hm]
        rfl
theorem cut_one (x : UInt8) (l : List UInt8) : ∃ b, Lib.cut l [x] = (l.takeWhile (· != x), b, decide (x ∈ l)) := by
  unfold Lib.cut
  rw [index_one]
  by_cases h : x ∈ l
  · rw [if_pos h, if_pos (by omega), Int.toNat_natCast]
    refine ⟨_, Prod.ext ?_ (Prod.ext rfl (by simp [h]))⟩
    exact take_tw _ l
  · rw [if_neg h, if_neg (by omega)]
    refine ⟨[], Prod.ext ?_ (Prod.ext rfl (by simp [h]))⟩
    have hall : l.takeWhile (· != x) = l := by
      refine tw_all fun a ha => ?_
      simp
      intro e
      exact h (e ▸ ha)
    simp only [hall]

/-- The place of the first end of a comment. -/
def findEnd : List UInt8 → Option Nat
  | [] => none
  | [_] => none
  | c :: d :: r => if c = 42 ∧ d = 47 then some 0 else (findEnd (d :: r)).map (· + 1)
theorem index_end : ∀ l : List UInt8, Lib.index l [42, 47] = match findEnd l with | some i => (i : Int) | none => -1
  | [] => by simp [Lib.index, findEnd]
  | [c] => by simp [Lib.index, findEnd, List.isPrefixOf]
  | c :: d :: r => by
    unfold Lib.index findEnd
    by_cases h : c = 42 ∧ d = 47
    · obtain ⟨rfl, rfl⟩ := h
      simp [List.isPrefixOf]
    · have hp : ([42, 47] : List UInt8).isPrefixOf (c :: d :: r) = false := by
        simp [List.isPrefixOf]
        intro h1 h2
        exact h ⟨h1.symm, h2.symm⟩
      rw [hp, if_neg h, index_end (d :: r)]
      simp only [Bool.false_eq_true, if_false]
      cases findEnd (d :: r) with
      | none => rfl
      | some i =>
        simp only [Option.map_some]
        rw [if_neg (by rw [beq_iff_eq]; omega)]
        simp
theorem cut_end (l : List UInt8) : match findEnd l with
    | some i => (∃ b, Lib.cut l [42, 47] = (l.take i, b, true)) ∧ i + 2 ≤ l.length
    | none => ∃ b, Lib.cut l [42, 47] = (l, b, false) := by
  have h := index_end l
  have hr := Lib.index_room l [42, 47]
  unfold Lib.cut
  cases hf : findEnd l with
  | some i =>
    rw [hf] at h
    simp only at h ⊢
    rw [h] at hr ⊢
    refine ⟨⟨_, by rw [if_pos (by omega), Int.toNat_natCast]⟩, ?_⟩
    have := hr (by omega)
    simp at this
    omega
  | none =>
    rw [hf] at h
    simp only at h ⊢
    rw [h]
    exact ⟨[], rfl⟩

theorem filter_no {x : UInt8} : ∀ {l : List UInt8}, x ∉ l → l.filter (· != x) = l := by
  intro l h
  rw [List.filter_eq_self]
  intro a ha
  simp
  intro e
  exact h (e ▸ ha)
theorem takeWhile_no (x : UInt8) (l : List UInt8) : x ∉ l.takeWhile (· != x) := fun h => by
  have := mem_tw h
  simp at this
theorem replaceK_cr : ∀ (n : Nat) (l : List UInt8), l.length ≤ n → Lib.replaceK [13] [] (Lib.count l [13]) l = l.filter (· != 13)
  | n, l, hn => by
    by_cases hm : (13 : UInt8) ∈ l
    · have hi : Lib.index l [13] = ((l.takeWhile (· != 13)).length : Nat) := by rw [index_one, if_pos hm]
      have hr := Lib.index_room l [13] (by omega)
      simp at hr
      obtain ⟨i, hi'⟩ : ∃ i, (l.takeWhile (· != 13)).length = i := ⟨_, rfl⟩
      have htw : l.take i = l.takeWhile (· != 13) := by rw [← hi']; exact take_tw _ l
      rw [hi'] at hi
      rw [Lib.count_hit (by simp) hi, Nat.add_comm, Lib.replaceK_hit _ _ _ _ _ hi]
      have hlt : i < l.length := by rw [hi] at hr; omega
      cases n with
      | zero => omega
      | succ n =>
        have hd : (l.drop (i + ([13] : List UInt8).length)).length ≤ n := by rw [List.length_drop]; simp; omega
        rw [replaceK_cr n _ hd]
        have hx : l[i]'hlt = 13 := by
          have := Lib.occAt_head (s := l) (sub := [13]) (i := i) (c := 13) (t := []) rfl (by
            rcases Lib.index_spec l [13] with ⟨h, _⟩ | ⟨j, hj, _, ho, _⟩
            · omega
            · have : j = i := by omega
              exact this ▸ ho)
          rw [List.getElem?_eq_getElem hlt] at this
          exact Option.some.inj this
        have hsplit : l = l.take i ++ l[i]'hlt :: l.drop (i + 1) := by
          rw [← List.drop_eq_getElem_cons hlt, List.take_append_drop]
        conv => rhs; rw [hsplit, hx]
        rw [List.filter_append, htw, filter_no (takeWhile_no 13 l)]
        simp
    · have hi : Lib.index l [13] = -1 := by rw [index_one, if_neg hm]
      rw [Lib.count_miss hi, filter_no hm]
      rfl
theorem replaceAll_cr (l : List UInt8) : Lib.replaceAll l [13] [] = l.filter (· != 13) := by
  unfold Lib.replaceAll Lib.replace
  rw [if_neg (by decide)]
  unfold Lib.replaceNum
  rw [if_pos (Or.inl (by omega))]
  exact replaceK_cr l.length l (Nat.le_refl _)

/-- Without a carriage return at its end. -/
def trimCR (l : List UInt8) : List UInt8 := if l.getLast? = some 13 then l.dropLast else l
theorem trimSuffix_cr (l : List UInt8) : Lib.trimSuffix l [13] = trimCR l := by
  unfold Lib.trimSuffix trimCR Lib.hasSuffix
  have h : ([13] : List UInt8).isSuffixOf l = true ↔ l.getLast? = some 13 := by
    rw [List.isSuffixOf_iff_suffix]
    constructor
    · rintro ⟨t, rfl⟩
      simp
    · intro h
      rw [List.getLast?_eq_some_iff] at h
      obtain ⟨ys, rfl⟩ := h
      exact ⟨ys, rfl⟩
  by_cases hb : l.getLast? = some 13
  · rw [if_pos (h.2 hb), if_pos hb]
    simp [List.dropLast_eq_take]
  · rw [if_neg (fun e => hb (h.1 e)), if_neg hb]

theorem qFrom_bd : ∀ (l : List UInt8) (i : Nat), qFrom l i ≠ 0 → i + 1 ≤ qFrom l i ∧ qFrom l i ≤ i + l.length
  | [], i, h => by simp [qFrom] at h
  | [c], i, h => by
    unfold qFrom at h ⊢
    split
    · simp
    · rename_i hc
      rw [if_neg hc] at h
      exact absurd rfl h
  | c :: d :: r, i, h => by
    unfold qFrom at h ⊢
    split
    · simp
    · rename_i h1
      rw [if_neg h1] at h
      split
      · rename_i h2
        rw [if_pos h2] at h
        split
        · rename_i h3
          rw [if_pos h3] at h
          exact absurd rfl h
        · rename_i h3
          rw [if_neg h3] at h
          have := qFrom_bd r (i + 2) h
          simp
          omega
      · rename_i h2
        rw [if_neg h2] at h
        split
        · rename_i h3
          rw [if_pos h3] at h
          exact absurd rfl h
        · rename_i h3
          rw [if_neg h3] at h
          have := qFrom_bd (d :: r) (i + 1) h
          simp at this ⊢
          omega
theorem quotedL_bd (l : List UInt8) (h : quotedL l ≠ 0) : 2 ≤ quotedL l ∧ quotedL l ≤ l.length := by
  unfold quotedL at *
  have := qFrom_bd _ _ h
  rw [List.length_drop] at this
  refine ⟨by omega, ?_⟩
  rcases Nat.eq_zero_or_pos l.length with h0 | h0
  · rw [List.eq_nil_of_length_eq_zero h0] at h
    simp [qFrom] at h
  · omega
end Go.Proofs.YtkcjembmdiaclaaDoor
