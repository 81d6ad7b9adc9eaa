/- Plain laws on the scanner's step: sources that may be, and steps told by their token. -/
import Derived.Test.YtkcjembmdiaclaaDoorT
namespace Go.Proofs.YtkcjembmdiaclaaDoor
open Go.RowKit Go.Lib Go.Maps
set_option linter.unusedVariables false
set_option linter.unusedSimpArgs false

theorem tw_stop {α : Type} {p : α → Bool} : ∀ {c : List α} {x : α} {r : List α}, (∀ a ∈ c, p a = true) → p x = false → (c ++ x :: r).takeWhile p = c
  | [], x, r, _, hx => by simp [hx]
  | a :: c, x, r, h, hx => by
    rw [List.cons_append, List.takeWhile_cons, if_pos (h a (by simp)), tw_stop (fun b hb => h b (by simp [hb])) hx]
theorem tw_nil {α : Type} {p : α → Bool} : ∀ {c : List α}, (∀ a ∈ c, p a = true) → c.takeWhile p = c := fun h => tw_all h

/-- What New takes: no byte of it is 0, all are below 128. -/
theorem ascii_good (s : ByteArray) (h : ∀ c ∈ s.data.toList, 0 < c.toNat ∧ c.toNat < 128) : badAt s = none := by
  have hb : ∀ (j : Nat) (hj : j < s.size), 0 < (s[j]'hj).toNat ∧ (s[j]'hj).toNat < 128 := fun j hj => h _ (List.mem_of_getElem? (get_list s hj))
  have go : ∀ f pos, badFrom s f pos = none := by
    intro f
    induction f with
    | zero => intro pos; rfl
    | succ f ih =>
      intro pos
      unfold badFrom
      split
      · rename_i hp
        obtain ⟨h0, h1⟩ := hb pos hp
        rw [decode_ascii s pos hp h1]
        simp only
        rw [if_neg (by omega), ih]
      · rfl
  exact go _ _
theorem trim_none (l : List UInt8) (h : l.head? ≠ some 239) : Lib.trimPrefix l [239, 187, 191] = l := by
  unfold Lib.trimPrefix Lib.hasPrefix
  cases l with
  | nil => rfl
  | cons c r =>
    have hc : ¬ (239 : UInt8) = c := fun e => h (by rw [← e]; rfl)
    rw [if_neg (by simp [List.isPrefixOf, hc])]
theorem nls_none {l : List UInt8} (h : (10 : UInt8) ∉ l) : nls l = 0 := by
  unfold nls Lib.countByte
  exact List.count_eq_zero.2 h
theorem nls_append (a b : List UInt8) : nls (a ++ b) = nls a + nls b := by
  unfold nls Lib.countByte
  exact List.count_append

/-- A step, its blanks and its token known. -/
theorem nxt_of {l : List UInt8} {line : Nat} {semi : Bool} (p l1 : List UInt8) (hl : l = p ++ l1) (hp : ∀ c ∈ p, blankB semi c = true) (hh : ∀ c r, l1 = c :: r → blankB semi c = false) {k : Int} {t : List UInt8} {n : Int} (ht : tokL l1 = (k, t, n)) :
    nxt l line semi = nxtTok l1 (line + nls p) semi k t n := by
  have htw : l.takeWhile (blankB semi) = p := by
    rw [hl]
    cases l1 with
    | nil => rw [List.append_nil]; exact tw_all hp
    | cons c r => exact tw_stop hp (hh c r rfl)
  have hd : l.drop p.length = l1 := by rw [hl, List.drop_left]
  unfold nxt
  rw [htw, hd, ht]
theorem nxtTok_fault {l1 : List UInt8} {line1 : Nat} {semi : Bool} {k : Int} {t : List UInt8} {n : Int} (h : n < 0) : nxtTok l1 line1 semi k t n = ⟨0, [], 0, 100, line1, l1, line1, semi⟩ := by unfold nxtTok; rw [if_pos h]
theorem nxtTok_feed {l1 : List UInt8} {line1 : Nat} {semi : Bool} {n : Int} (h : 0 ≤ n) : nxtTok l1 line1 semi 3 [10] n = ⟨3, [10], line1, 0, 0, l1.drop 1, line1 + nls (l1.take 1), false⟩ := by
  unfold nxtTok; rw [if_neg (by omega), if_pos ⟨rfl, rfl⟩]
theorem nxtTok_semi {l1 : List UInt8} {line1 : Nat} {k : Int} {t : List UInt8} {n : Int} (h : 0 ≤ n) (hk : k = 0 ∨ (k = 4 ∧ 10 ∈ t)) : nxtTok l1 line1 true k t n = ⟨3, [10], line1, 0, 0, l1, line1, false⟩ := by
  unfold nxtTok
  rw [if_neg (by omega), if_neg (by rcases hk with h | h <;> omega), if_pos ⟨rfl, hk⟩]
theorem nxtTok_plain {l1 : List UInt8} {line1 : Nat} {semi : Bool} {k : Int} {t : List UInt8} {n : Nat} (h3 : ¬ (k = 3 ∧ t = [10])) (h4 : ¬ (semi = true ∧ (k = 0 ∨ (k = 4 ∧ 10 ∈ t)))) :
    nxtTok l1 line1 semi k t n = ⟨k, t, line1, 0, 0, l1.drop n, line1 + nls (l1.take n), if k = 4 then semi else decide (k = 1 ∨ k = 2) || (decide (k = 3) && closeB t)⟩ := by
  unfold nxtTok
  rw [if_neg (by omega), if_neg h3, if_neg h4, Int.toNat_natCast]
/-- A name, up to what can't stand in it. -/
theorem tok_name (c : UInt8) (t : List UInt8) (x : UInt8) (r : List UInt8) (hc : letterN c.toNat = true) (ht : ∀ a ∈ t, idB a = true) (hx : idB x = false) : tokL (c :: (t ++ x :: r)) = ((1 : Int), c :: t, (((c :: t).length : Nat) : Int)) := by
  have hid : idB c = true := by unfold idB; rw [hc]; rfl
  have htw : (c :: (t ++ x :: r)).takeWhile idB = c :: t := tw_stop (c := c :: t) (fun a ha => by rcases List.mem_cons.1 ha with rfl | h; exact hid; exact ht a h) hx
  rw [tokL_cons, if_pos hc, htw]
end Go.Proofs.YtkcjembmdiaclaaDoor
