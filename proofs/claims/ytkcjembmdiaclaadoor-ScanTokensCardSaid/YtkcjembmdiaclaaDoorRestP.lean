/- The plain law under ScanRest: what stands behind a line's end changes no token ahead of it. -/
import Derived.Test.YtkcjembmdiaclaaDoorU
namespace Go.Proofs.YtkcjembmdiaclaaDoor
open Go.RowKit Go.Lib Go.Maps
set_option linter.unusedVariables false
set_option linter.unusedSimpArgs false

theorem tw_append {α : Type} {p : α → Bool} : ∀ {l : List α} (t : List α), (∃ x ∈ l, p x = false) → (l ++ t).takeWhile p = l.takeWhile p
  | [], t, h => by obtain ⟨x, hx, _⟩ := h; simp at hx
  | a :: l, t, h => by
    rw [List.cons_append, List.takeWhile_cons, List.takeWhile_cons]
    by_cases ha : p a = true
    · rw [if_pos ha, if_pos ha, tw_append t]
      obtain ⟨x, hx, hp⟩ := h
      rcases List.mem_cons.1 hx with rfl | hx
      · rw [ha] at hp; cases hp
      · exact ⟨x, hx, hp⟩
    · rw [if_neg ha, if_neg ha]
theorem tw_lt {α : Type} {p : α → Bool} {l : List α} (h : ∃ x ∈ l, p x = false) : (l.takeWhile p).length < l.length := by
  rcases Nat.lt_or_ge (l.takeWhile p).length l.length with h' | h'
  · exact h'
  · have he := take_tw p l
    rw [List.take_of_length_le h'] at he
    obtain ⟨x, hx, hp⟩ := h
    rw [he] at hx
    rw [mem_tw hx] at hp
    cases hp
theorem tw_at {α : Type} {p : α → Bool} : ∀ {l : List α}, (∃ x ∈ l, p x = false) → ∃ y, l[(l.takeWhile p).length]? = some y ∧ p y = false
  | [], h => by obtain ⟨x, hx, _⟩ := h; simp at hx
  | a :: l, h => by
    by_cases ha : p a = true
    · obtain ⟨x, hx, hp⟩ := h
      rcases List.mem_cons.1 hx with rfl | hx
      · rw [ha] at hp; cases hp
      · obtain ⟨y, hy, hyp⟩ := tw_at ⟨x, hx, hp⟩
        refine ⟨y, ?_, hyp⟩
        rw [List.takeWhile_cons, if_pos ha, List.length_cons, List.getElem?_cons_succ]
        exact hy
    · refine ⟨a, ?_, by simpa using ha⟩
      rw [List.takeWhile_cons, if_neg ha]
      rfl
theorem nls_le (l : List UInt8) : nls l ≤ l.length := by
  unfold nls Lib.countByte
  exact List.count_le_length
theorem qFrom_append : ∀ (l t : List UInt8) (i : Nat), qFrom l i ≠ 0 → qFrom (l ++ t) i = qFrom l i
  | [], t, i, h => by simp [qFrom] at h
  | [c], t, i, h => by
    unfold qFrom at h
    split at h
    · rename_i hc
      have e : qFrom [c] i = i + 1 := by unfold qFrom; rw [if_pos hc]
      rw [e]
      cases t with
      | nil => exact e
      | cons d r =>
        show qFrom (c :: d :: r) i = _
        unfold qFrom
        rw [if_pos hc]
    · exact absurd rfl h
  | c :: d :: r, t, i, h => by
    show qFrom (c :: d :: (r ++ t)) i = _
    unfold qFrom at h ⊢
    by_cases h1 : (((c.toNat : Int) == 34) = true)
    · rw [if_pos h1, if_pos h1]
    · rw [if_neg h1] at h
      rw [if_neg h1, if_neg h1]
      by_cases h2 : (((c.toNat : Int) == 92) = true)
      · rw [if_pos h2] at h
        rw [if_pos h2, if_pos h2]
        by_cases h3 : (((d.toNat : Int) == 10) = true)
        · rw [if_pos h3] at h
          exact absurd rfl h
        · rw [if_neg h3] at h
          rw [if_neg h3, if_neg h3]
          exact qFrom_append r t (i + 2) h
      · rw [if_neg h2] at h
        rw [if_neg h2, if_neg h2]
        by_cases h3 : (((c.toNat : Int) == 10) = true)
        · rw [if_pos h3] at h
          exact absurd rfl h
        · rw [if_neg h3] at h
          rw [if_neg h3, if_neg h3]
          exact qFrom_append (d :: r) t (i + 1) h
theorem qFrom_last : ∀ (l : List UInt8) (i : Nat), qFrom l i ≠ 0 → l[qFrom l i - i - 1]? = some 34
  | [], i, h => by simp [qFrom] at h
  | [c], i, h => by
    unfold qFrom at h ⊢
    by_cases hc : (((c.toNat : Int) == 34) = true)
    · rw [if_pos hc]
      have : c = 34 := UInt8.toNat_inj.1 (by rw [beq_iff_eq] at hc; simp; omega)
      simp [this]
    · rw [if_neg hc] at h
      exact absurd rfl h
  | c :: d :: r, i, h => by
    unfold qFrom at h ⊢
    by_cases h1 : (((c.toNat : Int) == 34) = true)
    · rw [if_pos h1]
      have : c = 34 := UInt8.toNat_inj.1 (by rw [beq_iff_eq] at h1; simp; omega)
      simp [this]
    · rw [if_neg h1] at h
      rw [if_neg h1]
      by_cases h2 : (((c.toNat : Int) == 92) = true)
      · rw [if_pos h2] at h
        rw [if_pos h2]
        by_cases h3 : (((d.toNat : Int) == 10) = true)
        · rw [if_pos h3] at h
          exact absurd rfl h
        · rw [if_neg h3] at h
          rw [if_neg h3]
          have := qFrom_last r (i + 2) h
          have hb := (qFrom_bd r (i + 2) h).1
          have e : qFrom r (i + 2) - i - 1 = (qFrom r (i + 2) - (i + 2) - 1) + 1 + 1 := by omega
          rw [e, List.getElem?_cons_succ, List.getElem?_cons_succ]
          exact this
      · rw [if_neg h2] at h
        rw [if_neg h2]
        by_cases h3 : (((c.toNat : Int) == 10) = true)
        · rw [if_pos h3] at h
          exact absurd rfl h
        · rw [if_neg h3] at h
          rw [if_neg h3]
          have := qFrom_last (d :: r) (i + 1) h
          have hb := (qFrom_bd (d :: r) (i + 1) h).1
          have e : qFrom (d :: r) (i + 1) - i - 1 = (qFrom (d :: r) (i + 1) - (i + 1) - 1) + 1 := by omega
          rw [e, List.getElem?_cons_succ]
          exact this
theorem findEnd_last : ∀ (l : List UInt8) (i : Nat), findEnd l = some i → l[i + 1]? = some 47
  | [], i, h => by simp [findEnd] at h
  | [c], i, h => by simp [findEnd] at h
  | c :: d :: r, i, h => by
    unfold findEnd at h
    by_cases h1 : c = 42 ∧ d = 47
    · rw [if_pos h1] at h
      injection h with h
      subst h
      simp [h1.2]
    · rw [if_neg h1] at h
      obtain ⟨j, hj, hji⟩ := Option.map_eq_some_iff.1 h
      subst hji
      rw [List.getElem?_cons_succ]
      exact findEnd_last (d :: r) j hj
theorem findEnd_append : ∀ (l t : List UInt8) (i : Nat), findEnd l = some i → findEnd (l ++ t) = some i
  | [], t, i, h => by simp [findEnd] at h
  | [c], t, i, h => by simp [findEnd] at h
  | c :: d :: r, t, i, h => by
    show findEnd (c :: d :: (r ++ t)) = _
    unfold findEnd at h ⊢
    by_cases h1 : c = 42 ∧ d = 47
    · rw [if_pos h1] at h ⊢
      exact h
    · rw [if_neg h1] at h ⊢
      obtain ⟨j, hj, hji⟩ := Option.map_eq_some_iff.1 h
      have := findEnd_append (d :: r) t j hj
      rw [List.cons_append] at this
      rw [this]
      exact congrArg some hji
theorem prefix2_append (a b : UInt8) (l t : List UInt8) (h : 2 ≤ l.length) : Lib.hasPrefix (l ++ t) [a, b] = Lib.hasPrefix l [a, b] := by
  match l, h with
  | c :: d :: r, _ => simp [Lib.hasPrefix, List.isPrefixOf]

/-- It ends a line. -/
def EndsNL (l : List UInt8) : Prop := ∃ p, l = p ++ [10]
theorem EndsNL.mem {l : List UInt8} (h : EndsNL l) : (10 : UInt8) ∈ l := by
  obtain ⟨p, rfl⟩ := h
  simp
theorem EndsNL.drop {l : List UInt8} (h : EndsNL l) {n : Nat} (hn : n < l.length) : EndsNL (l.drop n) := by
  obtain ⟨p, rfl⟩ := h
  simp at hn
  exact ⟨p.drop n, by rw [List.drop_append_of_le_length (by omega)]⟩
theorem EndsNL.one {c : UInt8} (h : EndsNL [c]) : c = 10 := by
  obtain ⟨p, hp⟩ := h
  have hl := congrArg List.length hp
  simp at hl
  subst hl
  simpa using hp

/-- The token ahead of a line's end: the same, or it is a fault. -/
theorem tok_rest (l t : List UInt8) (h : EndsNL l) : (tokL l).2.2 < 0 ∨ (tokL (l ++ t) = tokL l ∧ ((tokL l).2.2 < l.length ∨ ((tokL l).1 = 3 ∧ (tokL l).2.1 = [10]))) := by
  have hm := h.mem
  cases l with
  | nil => simp at hm
  | cons c r =>
    rw [List.cons_append, tokL_cons, tokL_cons]
    by_cases h1 : letterN c.toNat = true
    · rw [if_pos h1, if_pos h1]
      have hx : ∃ x ∈ c :: r, idB x = false := ⟨10, hm, by decide⟩
      have e : (c :: (r ++ t)).takeWhile idB = (c :: r).takeWhile idB := tw_append t hx
      rw [e]
      exact .inr ⟨rfl, .inl (by have := tw_lt hx; simp only; omega)⟩
    · rw [if_neg h1, if_neg h1]
      by_cases h2 : c.toNat = 96
      · rw [if_pos h2, if_pos h2]
        by_cases h3 : (96 : UInt8) ∈ r
        · rw [if_pos h3, if_pos (by simp [h3])]
          have e : (r ++ t).takeWhile (· != 96) = r.takeWhile (· != 96) := tw_append t ⟨96, h3, by decide⟩
          rw [e]
          have hlt := tw_lt (p := (· != (96 : UInt8))) ⟨96, h3, by decide⟩
          refine .inr ⟨rfl, .inl ?_⟩
          simp only [List.length_cons]
          rcases Nat.lt_or_ge ((r.takeWhile (· != (96 : UInt8))).length + 1) r.length with h' | h'
          · omega
          · -- the text would end with the backquote
            exfalso
            have hl : (r.takeWhile (· != (96 : UInt8))).length + 1 = r.length := by omega
            have hr : r.getLast? = some 96 := by
              obtain ⟨y, hy, hp⟩ := tw_at (p := (· != (96 : UInt8))) ⟨96, h3, by decide⟩
              have hy96 : y = 96 := by simpa using hp
              rw [List.getLast?_eq_getElem?]
              have : r.length - 1 = (r.takeWhile (· != (96 : UInt8))).length := by omega
              rw [this, hy, hy96]
            obtain ⟨p, hp⟩ := h
            have hg := congrArg List.getLast? hp
            rw [List.getLast?_cons, hr] at hg
            simp at hg
        · rw [if_neg h3]
          exact .inl (by simp)
      · rw [if_neg h2, if_neg h2]
        by_cases h3 : c.toNat = 34
        · rw [if_pos h3, if_pos h3]
          by_cases hq : quotedL (c :: r) = 0
          · rw [if_pos hq]
            exact .inl (by simp)
          · have hqa : quotedL (c :: (r ++ t)) = quotedL (c :: r) := qFrom_append r t 1 hq
            obtain ⟨hq2, hq3⟩ := quotedL_bd _ hq
            simp only [List.length_cons] at hq3
            rw [if_neg hq, hqa, if_neg hq, List.take_append_of_le_length (by omega)]
            cases hu : unquoteL (r.take (quotedL (c :: r) - 2)) with
            | none => exact .inl (by simp)
            | some u =>
              refine .inr ⟨rfl, .inl ?_⟩
              simp only [List.length_cons]
              rcases Nat.lt_or_ge (quotedL (c :: r)) (r.length + 1) with h' | h'
              · omega
              · exfalso
                have hlast := qFrom_last r 1 hq
                have hl : quotedL (c :: r) - 1 = r.length := by omega
                have hl' : qFrom r 1 - 1 = r.length := hl
                obtain ⟨p, hp⟩ := h
                have hr : r.getLast? = some 34 := by
                  rw [List.getLast?_eq_getElem?]
                  have : qFrom r 1 - 1 - 1 = r.length - 1 := by omega
                  rw [← this]
                  exact hlast
                have hg := congrArg List.getLast? hp
                rw [List.getLast?_cons, hr] at hg
                simp at hg
        · rw [if_neg h3, if_neg h3]
          cases r with
          | nil =>
            have hc := h.one
            subst hc
            refine .inr ⟨?_, .inr ⟨rfl, rfl⟩⟩
            rw [if_neg (by cases t <;> simp [Lib.hasPrefix, List.isPrefixOf]), if_neg (by cases t <;> simp [Lib.hasPrefix, List.isPrefixOf])]
            rfl
          | cons d r =>
            have e1 : Lib.hasPrefix (c :: (d :: r ++ t)) [47, 47] = Lib.hasPrefix (c :: d :: r) [47, 47] := prefix2_append 47 47 (c :: d :: r) t (by simp)
            have e2 : Lib.hasPrefix (c :: (d :: r ++ t)) [47, 42] = Lib.hasPrefix (c :: d :: r) [47, 42] := prefix2_append 47 42 (c :: d :: r) t (by simp)
            rw [e1, e2]
            by_cases h4 : Lib.hasPrefix (c :: d :: r) [47, 47] = true
            · rw [if_pos h4, if_pos h4]
              have hx : ∃ x ∈ c :: d :: r, (fun y : UInt8 => y != 10) x = false := ⟨10, hm, by decide⟩
              have e : (c :: (d :: r ++ t)).takeWhile (· != 10) = (c :: d :: r).takeWhile (· != 10) := tw_append t hx
              rw [e]
              exact .inr ⟨rfl, .inl (by have := tw_lt hx; simp only; omega)⟩
            · rw [if_neg h4, if_neg h4]
              by_cases h5 : Lib.hasPrefix (c :: d :: r) [47, 42] = true
              · rw [if_pos h5, if_pos h5]
                rw [List.drop_one, List.drop_one, List.cons_append, List.tail_cons, List.tail_cons]
                cases hf : findEnd r with
                | none => exact .inl (by simp)
                | some i =>
                  rw [findEnd_append r t i hf]
                  have hc := cut_end r
                  rw [hf] at hc
                  have hi := hc.2
                  refine .inr ⟨?_, .inl ?_⟩
                  · simp only
                    have : (c :: d :: (r ++ t)).take (i + 4) = (c :: d :: r).take (i + 4) := List.take_append_of_le_length (l₁ := c :: d :: r) (by simp; omega)
                    rw [this]
                  · simp only [List.length_cons]
                    rcases Nat.lt_or_ge (i + 2) r.length with h' | h'
                    · omega
                    · exfalso
                      have hlast := findEnd_last r i hf
                      obtain ⟨p, hp⟩ := h
                      have hr : r.getLast? = some 47 := by
                        rw [List.getLast?_eq_getElem?]
                        have : r.length - 1 = i + 1 := by omega
                        rw [this]
                        exact hlast
                      have hg := congrArg List.getLast? hp
                      rw [List.getLast?_cons, List.getLast?_cons, hr] at hg
                      simp at hg
              · rw [if_neg h5, if_neg h5]
                exact .inr ⟨rfl, .inl (by simp only [List.length_cons]; omega)⟩

/-- The mark ahead of a source goes, whatever stands behind a line's end. -/
theorem trim_rest (s t : List UInt8) : Lib.trimPrefix (s ++ 10 :: t) [239, 187, 191] = Lib.trimPrefix (s ++ [10]) [239, 187, 191] ++ t ∧ EndsNL (Lib.trimPrefix (s ++ [10]) [239, 187, 191]) := by
  unfold Lib.trimPrefix
  match s with
  | [] => exact ⟨by simp [Lib.hasPrefix, List.isPrefixOf], [], by simp [Lib.hasPrefix, List.isPrefixOf]⟩
  | [a] => exact ⟨by simp [Lib.hasPrefix, List.isPrefixOf], [a], by simp [Lib.hasPrefix, List.isPrefixOf]⟩
  | [a, b] => exact ⟨by simp [Lib.hasPrefix, List.isPrefixOf], [a, b], by simp [Lib.hasPrefix, List.isPrefixOf]⟩
  | a :: b :: c :: r =>
    by_cases h : a = 239 ∧ b = 187 ∧ c = 191
    · obtain ⟨rfl, rfl, rfl⟩ := h
      exact ⟨by simp [Lib.hasPrefix, List.isPrefixOf], r, by simp [Lib.hasPrefix, List.isPrefixOf]⟩
    · have h1 : ∀ q : List UInt8, Lib.hasPrefix (a :: b :: c :: q) [239, 187, 191] = false := by
        intro q
        cases hb : Lib.hasPrefix (a :: b :: c :: q) [239, 187, 191] with
        | false => rfl
        | true =>
          exfalso
          simp [Lib.hasPrefix, List.isPrefixOf] at hb
          exact h ⟨hb.1.symm, hb.2.1.symm, hb.2.2.symm⟩
      simp only [List.cons_append, h1]
      exact ⟨by simp, a :: b :: c :: r, by simp⟩
/-- What a step leaves: nothing, and no end of a line owed; or a text that ends a line. -/
def RestInv (a : List UInt8) (semi : Bool) : Prop := (a = [] → semi = false) ∧ (a ≠ [] → EndsNL a)
def sOf (semi : Bool) : Nat := if semi = true then 1 else 0
theorem sOf_le (semi : Bool) : sOf semi ≤ 1 := by cases semi <;> decide
/-- A step of a text that ends a line, and the same step with more behind that line. -/
structure RestStep (a t : List UInt8) (line : Nat) (semi : Bool) (r : NR) : Prop where
  other : nxt (a ++ t) line semi = ⟨r.k, r.t, r.ln, 0, 0, r.l ++ t, r.line, r.semi⟩
  same : nxt a line semi = ⟨r.k, r.t, r.ln, 0, 0, r.l, r.line, r.semi⟩
  inv : RestInv r.l r.semi
  pot : 2 * r.l.length + sOf r.semi + 1 ≤ 2 * a.length + sOf semi
  lines : r.line + r.l.length ≤ line + a.length
theorem nxt_rest (a t : List UInt8) (line : Nat) (semi : Bool) (h : RestInv a semi) : (nxt a line semi).k = 0 ∨ RestStep a t line semi (nxt a line semi) := by
  by_cases ha : a = []
  · subst ha
    have := h.1 rfl
    subst this
    exact .inl rfl
  · have hE := h.2 ha
    by_cases hx : ∃ x ∈ a, blankB semi x = false
    · have htw := tw_append t hx
      have hlt := tw_lt hx
      have hB : (a.takeWhile (blankB semi)).length ≤ a.length := by omega
      obtain ⟨N, hN⟩ : ∃ N, (a.takeWhile (blankB semi)).length = N := ⟨_, rfl⟩
      have hnB : nls (a.takeWhile (blankB semi)) ≤ N := by rw [← hN]; exact nls_le _
      have hEl : EndsNL (a.drop N) := hE.drop (by omega)
      have hdr : (a ++ t).drop N = a.drop N ++ t := List.drop_append_of_le_length (by omega)
      have e1 : nxt a line semi = nxtTok (a.drop N) (line + nls (a.takeWhile (blankB semi))) semi (tokL (a.drop N)).1 (tokL (a.drop N)).2.1 (tokL (a.drop N)).2.2 := by unfold nxt; rw [hN]
      have e2 : nxt (a ++ t) line semi = nxtTok (a.drop N ++ t) (line + nls (a.takeWhile (blankB semi))) semi (tokL (a.drop N ++ t)).1 (tokL (a.drop N ++ t)).2.1 (tokL (a.drop N ++ t)).2.2 := by unfold nxt; rw [htw, hN, hdr]
      have hlen : (a.drop N).length + N = a.length := by rw [List.length_drop]; omega
      have hpos : 1 ≤ (a.drop N).length := by omega
      rcases tok_rest (a.drop N) t hEl with hf | ⟨he, hn⟩
      · rw [e1, nxtTok_fault hf]
        exact .inl rfl
      · rw [he] at e2
        rcases tok_cases (a.drop N) with ⟨hb, _⟩ | ⟨hn0, hnl, hk⟩
        · rw [e1, nxtTok_fault (by omega)]
          exact .inl rfl
        · obtain ⟨l1, hl1⟩ : ∃ l1, a.drop N = l1 := ⟨_, rfl⟩
          obtain ⟨line1, hline⟩ : ∃ line1, line + nls (a.takeWhile (blankB semi)) = line1 := ⟨_, rfl⟩
          rw [hl1, hline] at e1 e2
          rw [hl1] at hn0 hnl hk hn hlen hpos hEl
          obtain ⟨k, hkk⟩ : ∃ k, (tokL l1).1 = k := ⟨_, rfl⟩
          obtain ⟨tt, htt⟩ : ∃ tt, (tokL l1).2.1 = tt := ⟨_, rfl⟩
          obtain ⟨n, hnn⟩ : ∃ n : Nat, (tokL l1).2.2 = (n : Int) := ⟨(tokL l1).2.2.toNat, by omega⟩
          rw [hkk, htt, hnn] at e1 e2 hk
          rw [hkk, htt, hnn] at hn
          rw [hnn] at hnl
          by_cases h3 : k = 3 ∧ tt = [10]
          · obtain ⟨rfl, rfl⟩ := h3
            rw [nxtTok_feed (by omega)] at e1 e2
            have hn1 : nls (l1.take 1) ≤ 1 := by have := nls_le (l1.take 1); rw [List.length_take] at this; omega
            rw [e1]
            refine .inr ⟨?_, e1, ⟨fun _ => rfl, fun hne => hEl.drop ?_⟩, ?_, ?_⟩
            · rw [e2, List.drop_append_of_le_length hpos, List.take_append_of_le_length hpos]
            · rcases Nat.lt_or_ge 1 l1.length with h' | h'
              · exact h'
              · exact absurd (List.drop_of_length_le h') hne
            · simp only [List.length_drop]
              have : sOf false = 0 := rfl
              omega
            · simp only [List.length_drop]
              omega
          · have hnlt : n < l1.length := by
              rcases hn with hn | hn
              · omega
              · exact absurd hn h3
            by_cases h4 : semi = true ∧ (k = 0 ∨ (k = 4 ∧ 10 ∈ tt))
            · obtain ⟨rfl, h4⟩ := h4
              rw [nxtTok_semi (by omega) h4] at e1 e2
              rw [e1]
              refine .inr ⟨e2, e1, ⟨fun _ => rfl, fun _ => hEl⟩, ?_, ?_⟩
              · have h0 : sOf false = 0 := rfl
                have h1 : sOf true = 1 := rfl
                simp only
                omega
              · simp only
                omega
            · by_cases hk0 : k = 0
              · rw [nxtTok_plain h3 h4] at e1
                rw [e1]
                exact .inl hk0
              · have hn1 : 1 ≤ n := by omega
                rw [nxtTok_plain h3 h4] at e1 e2
                have hnt : nls (l1.take n) ≤ n := by have := nls_le (l1.take n); rw [List.length_take] at this; omega
                rw [e1]
                refine .inr ⟨?_, e1, ⟨fun he => ?_, fun _ => hEl.drop hnlt⟩, ?_, ?_⟩
                · rw [e2, List.drop_append_of_le_length (by omega), List.take_append_of_le_length (by omega)]
                · exfalso
                  have := congrArg List.length he
                  simp at this
                  omega
                · simp only [List.length_drop]
                  have := sOf_le (if k = 4 then semi else decide (k = 1 ∨ k = 2) || (decide (k = 3) && closeB tt))
                  omega
                · simp only [List.length_drop]
                  omega
    · have hall : ∀ x ∈ a, blankB semi x = true := fun x hxa => by
        cases hb : blankB semi x with
        | true => rfl
        | false => exact absurd ⟨x, hxa, hb⟩ hx
      have hs : semi = false := by
        have h10 := hall 10 hE.mem
        cases semi
        · rfl
        · exact absurd h10 (by decide)
      subst hs
      rw [nxt_of (l := a) (line := line) (semi := false) a [] (by simp) hall (fun c r e => by cases e) (k := 0) (t := []) (n := 0) rfl]
      exact .inl rfl
end Go.Proofs.YtkcjembmdiaclaaDoor
