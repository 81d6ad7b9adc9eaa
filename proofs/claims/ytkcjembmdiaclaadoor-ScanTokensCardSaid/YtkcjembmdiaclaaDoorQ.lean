/- The walk of the program's Next. -/
import Derived.Test.YtkcjembmdiaclaaDoorP
import Derived.Test.YtkcjembmdiaclaaDoorC
import Derived.Deep.DeepCutAuto
import Derived.Deep.RegionWith
import Derived.IntWalk
namespace Go.Proofs.YtkcjembmdiaclaaDoor
open Go.RowKit Go.Lib Go.Maps
set_option linter.unusedVariables false
set_option linter.unusedSimpArgs false

/-- A blank. -/
def blankB (semi : Bool) (c : UInt8) : Bool := c == 32 || c == 9 || c == 13 || (!semi && c == 10)
def blankSet (semi : Bool) : List UInt8 := if semi then [32, 9, 13] else [32, 9, 13, 10]

theorem cutFrom_eq (set s : ByteArray) (hset : ∀ (j : Nat) (h : j < set.size), (set[j]'h).toNat < 128) : ∀ (f pos : Nat), pos ≤ s.size → s.size ≤ pos + f →
    cutFrom set s f pos = pos + ((s.data.toList.drop pos).takeWhile fun c => inSet set c.toNat).length
  | 0, pos, hp, hf => by
    have : pos = s.size := by omega
    subst this
    rw [drop_end s (by omega)]
    simp [cutFrom]
  | f + 1, pos, hp, hf => by
    by_cases hlt : pos < s.size
    · unfold cutFrom
      rw [if_pos hlt]
      by_cases ha : (s[pos]'hlt).toNat < 128
      · rw [decode_ascii s pos hlt ha]
        simp only
        rw [drop_at s hlt, List.takeWhile_cons]
        by_cases hin : inSet set (s[pos]'hlt).toNat = true
        · rw [if_pos hin, if_pos hin, cutFrom_eq set s hset f (pos + 1) (by omega) (by omega), List.length_cons]
          omega
        · rw [if_neg hin, if_neg hin]
          simp
      · obtain ⟨h1, h2, h3⟩ := decode_wide s pos hlt (by omega)
        have hno : ∀ R, 128 ≤ R → ¬ inSet set R = true := by
          intro R hR hin
          unfold inSet at hin
          rw [List.any_eq_true] at hin
          obtain ⟨d, hd, he⟩ := hin
          obtain ⟨j, hj, hjd⟩ := List.mem_iff_getElem.1 hd
          have hj' : j < set.size := by rw [Lib.size_eq]; exact hj
          have := hset j hj'
          have hdd : set[j]'hj' = d := hjd
          rw [hdd] at this
          rw [beq_iff_eq] at he
          omega
        rw [if_neg (hno _ h2), drop_at s hlt, List.takeWhile_cons, if_neg (hno _ (by omega))]
        simp
    · have : pos = s.size := by omega
      subst this
      rw [drop_end s (by omega)]
      unfold cutFrom
      rw [if_neg hlt]
      simp
theorem blank_in (semi : Bool) (c : UInt8) : inSet (bs (blankSet semi)) c.toNat = blankB semi c := by
  unfold inSet blankB blankSet
  rw [bs_list]
  have e : ∀ k : UInt8, (k.toNat == c.toNat) = (c == k) := by
    intro k
    rw [Bool.eq_iff_iff, beq_iff_eq, beq_iff_eq]
    exact ⟨fun h => (UInt8.toNat_inj.1 h).symm, fun h => by rw [h]⟩
  cases semi <;> simp [e, Bool.or_assoc]
theorem blank_ascii (semi : Bool) : ∀ (j : Nat) (h : j < (bs (blankSet semi)).size), ((bs (blankSet semi))[j]'h).toNat < 128 := by
  cases semi <;> decide
theorem cutLeft_bs (l : List UInt8) (semi : Bool) (w : World) (hl : l.length ≤ 1048576) :
    Calls Tryd.prog 20 #[.string (bs l), .string (bs (blankSet semi))] w fun e w' => e = .returned (.string (bs (l.drop (l.takeWhile (blankB semi)).length))) ∧ Below w.heap.size w w' := by
  have h := cutLeft_any (bs l) (bs (blankSet semi)) w (by rw [bs_size]; omega) (blank_ascii semi)
  rw [cutFrom_eq _ _ (blank_ascii semi) _ 0 (by omega) (by omega), bs_drop, bs_list, Nat.zero_add, List.drop_zero] at h
  have e : (fun c : UInt8 => inSet (bs (blankSet semi)) c.toNat) = blankB semi := funext fun c => blank_in semi c
  rw [e] at h
  exact h

/-- A token of a source, and a fault, as the program hands them back. -/
def tkV (k : Int) (t : List UInt8) (line : Int) : Value := .agg #[.int .i64 k, .string (bs t), .int .i64 line]

/-- The scanner behind its blanks, and what the call has laid. -/
def Mid (w : World) (b : Nat) (l : List UInt8) (line : Nat) (semi : Bool) (m : Int) (wc : World) : Prop :=
  Sc wc b (l.drop (l.takeWhile (blankB semi)).length) ((line + nls (l.takeWhile (blankB semi)) : Nat) : Int) semi ∧ But b w wc ∧
  wc.heap[w.heap.size]? = some (.cells #[.int .i64 0, .string ⟨#[]⟩, .int .i64 0] 33 (0, 0)) ∧ wc.heap[w.heap.size + 1]? = some (.cells #[.int .i64 0, .string ⟨#[]⟩, .int .i64 0] 26 (0, 0)) ∧
  wc.cell? ⟨2, 0, none⟩ = some (.int .i64 m)

theorem Mid.of {w W0 w1 w2 : World} {b : Nat} {l : List UInt8} {line : Nat} {semi : Bool} {m : Int} {C : Nat} (hb2 : 2 < b) (hlt : b < w.heap.size) (hbut : But b w W0)
    (hF : W0.heap[w.heap.size]? = some (.cells #[.int .i64 0, .string ⟨#[]⟩, .int .i64 0] 33 (0, 0))) (hG : W0.heap[w.heap.size + 1]? = some (.cells #[.int .i64 0, .string ⟨#[]⟩, .int .i64 0] 26 (0, 0))) (hm : W0.cell? ⟨2, 0, none⟩ = some (.int .i64 m))
    (hb1 : Below W0.drew.heap.size W0.drew w1) (hC : (l.takeWhile (blankB semi)).length = C) (htk : l.take C = l.takeWhile (blankB semi)) (hs2 : Sc w2 b (l.drop C) ((line + nls (l.take C) : Nat) : Int) semi) (hbut2 : But b w1 w2) : Mid w b l line semi m w2 := by
  have h1 : Below W0.heap.size W0 w1 := ⟨hb1.os, hb1.tape, hb1.output, hb1.size, hb1.block⟩
  have hbt : But b w w2 := (hbut.trans (.of_below h1)).trans hbut2
  have keep : ∀ (i : Nat) (o : Obj), W0.heap[i]? = some o → i ≠ b → w2.heap[i]? = some o := fun i o hi hne => by
    have hlt' := lt_of_block hi
    exact (hbut2.block i (Nat.lt_of_lt_of_le hlt' h1.size) (fun e => hne (by injection e))).trans ((h1.block i hlt').trans hi)
  refine ⟨?_, hbt, keep _ _ hF (by omega), keep _ _ hG (by omega), ?_⟩
  · rw [hC, ← htk]
    exact hs2
  · have hlt2 := cell_below hm
    have hm1 := maxLen_later hm h1
    rw [← hm1]
    exact World.cell?_of_block (hbut2.block 2 (Nat.lt_of_lt_of_le hlt2 h1.size) (fun e => by injection e with e; omega))
/-- The scanner with its next token told, and what the call has laid. -/
def Late (w : World) (b M : Nat) (l1 : List UInt8) (line1 : Nat) (semi : Bool) (k : Int) (T : ByteArray) (m : Int) (wd : World) : Prop :=
  Sc wd b l1 (line1 : Int) semi ∧ But b w wd ∧
  wd.heap[w.heap.size]? = some (.cells #[.int .i64 0, .string ⟨#[]⟩, .int .i64 0] 33 (0, 0)) ∧ wd.heap[w.heap.size + 1]? = some (.cells #[.int .i64 0, .string ⟨#[]⟩, .int .i64 0] 26 (0, 0)) ∧
  wd.heap[M]? = some (.cells #[.int .i64 k, .string T, .int .i64 line1] 33 (0, 0)) ∧ wd.heap[M + 1]? = some (.cells #[.int .i64 3, .string ⟨#[10]⟩, .int .i64 line1] 33 (0, 0)) ∧ w.heap.size + 2 ≤ M ∧
  wd.cell? ⟨2, 0, none⟩ = some (.int .i64 m)
theorem Late.of {w wc w1 : World} {b : Nat} {l1 : List UInt8} {line1 : Nat} {semi : Bool} {k : Int} {T : ByteArray} {m : Int} (hsc : Sc wc b l1 (line1 : Int) semi) (hbut : But b w wc)
    (hF : wc.heap[w.heap.size]? = some (.cells #[.int .i64 0, .string ⟨#[]⟩, .int .i64 0] 33 (0, 0))) (hG : wc.heap[w.heap.size + 1]? = some (.cells #[.int .i64 0, .string ⟨#[]⟩, .int .i64 0] 26 (0, 0))) (hm : wc.cell? ⟨2, 0, none⟩ = some (.int .i64 m))
    (hb1 : Below wc.heap.size wc w1) : Late w b w1.heap.size l1 line1 semi k T m ((w1.alloc (.cells #[.int .i64 k, .string T, .int .i64 line1] 33)).alloc (.cells #[.int .i64 3, .string ⟨#[10]⟩, .int .i64 line1] 33)) := by
  have hbb : Below wc.heap.size wc ((w1.alloc (.cells #[.int .i64 k, .string T, .int .i64 line1] 33)).alloc (.cells #[.int .i64 3, .string ⟨#[10]⟩, .int .i64 line1] 33)) := (hb1.alloc hb1.size _).alloc (by have := hb1.size; simp; omega) _
  refine ⟨hsc.below hbb, hbut.trans (.of_below hbb), (hbb.block _ (lt_of_block hF)).trans hF, (hbb.block _ (lt_of_block hG)).trans hG, ?_, ?_, ?_, maxLen_later hm hbb⟩
  · exact (Below.heap_alloc (w1.alloc _) _ _ (by simp)).trans (heap_alloc_new w1 _)
  · have h := heap_alloc_new (w1.alloc (.cells #[.int .i64 k, .string T, .int .i64 line1] 33)) (.cells #[.int .i64 3, .string ⟨#[10]⟩, .int .i64 line1] 33)
    simpa using h
  · have h1 := lt_of_block hG
    have h2 := hb1.size
    omega
/-- A scanner's cells in a world with new blocks. -/
theorem Sc.new1 {w1 : World} {b : Nat} {l : List UInt8} {line : Int} {semi : Bool} (h : Sc w1 b l line semi) : ∀ o, (w1.alloc o).cell? ⟨b, 1, none⟩ = some (.int .i64 line) := fun o => (h.alloc o).c1
theorem Sc.new2 {w1 : World} {b : Nat} {l : List UInt8} {line : Int} {semi : Bool} (h : Sc w1 b l line semi) : ∀ o o', ((w1.alloc o).alloc o').cell? ⟨b, 1, none⟩ = some (.int .i64 line) := fun o o' => ((h.alloc o).alloc o').c1
theorem But.keep {b : Nat} {w w' : World} (h : But b w w') {i : Nat} {o : Obj} (hi : w.heap[i]? = some o) (hne : i ≠ b) : w'.heap[i]? = some o :=
  (h.block i (lt_of_block hi) (fun e => hne (by injection e))).trans hi

/-- What Next hands back: the token, the fault, the scanner behind it. -/
structure NR where
  k : Int
  t : List UInt8
  ln : Nat
  e : Int
  el : Nat
  l : List UInt8
  line : Nat
  semi : Bool
def closeB (t : List UInt8) : Bool := Lib.contains [41, 93, 125] t
def nxtTok (l1 : List UInt8) (line1 : Nat) (semi : Bool) (k : Int) (t : List UInt8) (n : Int) : NR :=
  if n < 0 then ⟨0, [], 0, 100, line1, l1, line1, semi⟩
  else if k = 3 ∧ t = [10] then ⟨3, [10], line1, 0, 0, l1.drop 1, line1 + nls (l1.take 1), false⟩
  else if semi = true ∧ (k = 0 ∨ (k = 4 ∧ 10 ∈ t)) then ⟨3, [10], line1, 0, 0, l1, line1, false⟩
  else ⟨k, t, line1, 0, 0, l1.drop n.toNat, line1 + nls (l1.take n.toNat), if k = 4 then semi else decide (k = 1 ∨ k = 2) || (decide (k = 3) && closeB t)⟩
def nxt (l : List UInt8) (line : Nat) (semi : Bool) : NR :=
  nxtTok (l.drop (l.takeWhile (blankB semi)).length) (line + nls (l.takeWhile (blankB semi))) semi
    (tokL (l.drop (l.takeWhile (blankB semi)).length)).1 (tokL (l.drop (l.takeWhile (blankB semi)).length)).2.1 (tokL (l.drop (l.takeWhile (blankB semi)).length)).2.2
def NextPost (w : World) (b : Nat) (r : NR) (e : Ending) (w' : World) : Prop :=
  e = .returned (.tuple #[tkV r.k r.t r.ln, faultV r.e r.el]) ∧ Sc w' b r.l (r.line : Int) r.semi ∧ But b w w'

theorem index_mem (l : List UInt8) (c : UInt8) : 0 ≤ Lib.indexByte l c ↔ c ∈ l := by
  induction l with
  | nil => simp [Lib.indexByte]
  | cons b l ih =>
    unfold Lib.indexByte
    by_cases h : b = c
    · subst h
      simp
    · have h' : ¬ c = b := fun e => h e.symm
      have hb : (b == c) = false := by simpa using h
      rw [hb]
      simp only [Bool.false_eq_true, if_false, List.mem_cons, h', false_or]
      rw [← ih]
      have := Lib.indexByte_ge l c
      by_cases h1 : Lib.indexByte l c = -1
      · rw [h1]; simp
      · have hn : ¬ (Lib.indexByte l c == -1) = true := by simpa using h1
        rw [if_neg hn]
        omega
/-- What a token may be. -/
theorem tok_cases (l : List UInt8) : ((tokL l).2.2 = -1 ∧ (tokL l).1 = 0 ∧ (tokL l).2.1 = []) ∨ (0 ≤ (tokL l).2.2 ∧ (tokL l).2.2 ≤ l.length ∧
    (((tokL l).1 = 0 ∧ (tokL l).2.1 = [] ∧ l = [] ∧ (tokL l).2.2 = 0) ∨ ((tokL l).1 = 1 ∧ 1 ≤ (tokL l).2.2) ∨ ((tokL l).1 = 2 ∧ 1 ≤ (tokL l).2.2) ∨ ((tokL l).1 = 3 ∧ (tokL l).2.2 = 1 ∧ ∃ c r, l = c :: r ∧ (tokL l).2.1 = [c]) ∨ ((tokL l).1 = 4 ∧ 1 ≤ (tokL l).2.2))) := by
  cases l with
  | nil => exact .inr ⟨by simp [tokL], by simp [tokL], .inl ⟨rfl, rfl, rfl, rfl⟩⟩
  | cons c r =>
    rw [tokL_cons]
    by_cases h1 : letterN c.toNat = true
    · rw [if_pos h1]
      have hid : idB c = true := by unfold idB; rw [h1]; rfl
      have hlen := tw_le idB (c :: r)
      have hpos : 1 ≤ ((c :: r).takeWhile idB).length := by rw [List.takeWhile_cons, if_pos hid]; simp
      exact .inr ⟨by simp only; omega, by simp only; omega, .inr (.inl ⟨rfl, by simp only; omega⟩)⟩
    · rw [if_neg h1]
      by_cases h2 : c.toNat = 96
      · rw [if_pos h2]
        by_cases h3 : (96 : UInt8) ∈ r
        · rw [if_pos h3]
          have hlt : (r.takeWhile (· != 96)).length < r.length := by
            rcases Nat.lt_or_ge (r.takeWhile (· != (96 : UInt8))).length r.length with h | h
            · exact h
            · have hle := tw_le (· != (96 : UInt8)) r
              have he := take_tw (· != (96 : UInt8)) r
              rw [List.take_of_length_le h] at he
              exact absurd (he ▸ h3) (takeWhile_no 96 r)
          exact .inr ⟨by simp only; omega, by simp only [List.length_cons]; omega, .inr (.inr (.inl ⟨rfl, by simp only; omega⟩))⟩
        · rw [if_neg h3]
          exact .inl ⟨rfl, rfl, rfl⟩
      · rw [if_neg h2]
        by_cases h3 : c.toNat = 34
        · rw [if_pos h3]
          by_cases hq : quotedL (c :: r) = 0
          · rw [if_pos hq]
            exact .inl ⟨rfl, rfl, rfl⟩
          · rw [if_neg hq]
            have := quotedL_bd _ hq
            cases unquoteL (r.take (quotedL (c :: r) - 2)) with
            | none => exact .inl ⟨rfl, rfl, rfl⟩
            | some u => exact .inr ⟨by simp only; omega, by simp only; omega, .inr (.inr (.inl ⟨rfl, by simp only; omega⟩))⟩
        · rw [if_neg h3]
          by_cases h4 : Lib.hasPrefix (c :: r) [47, 47] = true
          · rw [if_pos h4]
            have hc : c = 47 := by
              unfold Lib.hasPrefix at h4
              simp [List.isPrefixOf] at h4
              exact h4.1.symm
            have hlen := tw_le (· != (10 : UInt8)) (c :: r)
            have hpos : 1 ≤ ((c :: r).takeWhile (· != (10 : UInt8))).length := by
              rw [List.takeWhile_cons, if_pos (by rw [hc]; decide)]
              simp
            exact .inr ⟨by simp only; omega, by simp only; omega, .inr (.inr (.inr (.inr ⟨rfl, by simp only; omega⟩)))⟩
          · rw [if_neg h4]
            by_cases h5 : Lib.hasPrefix (c :: r) [47, 42] = true
            · rw [if_pos h5]
              have hc := cut_end (r.drop 1)
              have h5' : Lib.hasPrefix (bs (c :: r)).data.toList [47, 42] = true := by rw [bs_list]; exact h5
              have hsz := hasPrefix_two h5'
              rw [bs_size] at hsz
              simp at hsz
              cases hf : findEnd (r.drop 1) with
              | none => exact .inl ⟨rfl, rfl, rfl⟩
              | some i =>
                rw [hf] at hc
                have hi := hc.2
                rw [List.length_drop] at hi
                exact .inr ⟨by simp only; omega, by simp only [List.length_cons]; omega, .inr (.inr (.inr (.inr ⟨rfl, by simp only; omega⟩)))⟩
            · rw [if_neg h5]
              exact .inr ⟨by simp only; omega, by simp only [List.length_cons]; omega, .inr (.inr (.inr (.inl ⟨rfl, rfl, c, r, rfl, rfl⟩)))⟩
/-- The results' six cells written: the scanner is as it was. -/
theorem Sc.six {W : World} {b : Nat} {l : List UInt8} {line : Int} {semi : Bool} (h : Sc W b l line semi) {N : Nat} (hN : b < N) (a0 a1 a2 a3 a4 a5 : Value) :
    Sc ((((((W.setCell ⟨N, 0, none⟩ a0).setCell ⟨N, 1, none⟩ a1).setCell ⟨N, 2, none⟩ a2).setCell ⟨N + 1, 0, none⟩ a3).setCell ⟨N + 1, 1, none⟩ a4).setCell ⟨N + 1, 2, none⟩ a5) b l line semi :=
  (((((h.setCell ⟨N, 0, none⟩ (by simp; omega) _).setCell ⟨N, 1, none⟩ (by simp; omega) _).setCell ⟨N, 2, none⟩ (by simp; omega) _).setCell ⟨N + 1, 0, none⟩ (by simp; omega) _).setCell ⟨N + 1, 1, none⟩ (by simp; omega) _).setCell ⟨N + 1, 2, none⟩ (by simp; omega) _
theorem But.six {w W : World} {b : Nat} (h : But b w W) (a0 a1 a2 a3 a4 a5 : Value) :
    But b w ((((((W.setCell ⟨w.heap.size, 0, none⟩ a0).setCell ⟨w.heap.size, 1, none⟩ a1).setCell ⟨w.heap.size, 2, none⟩ a2).setCell ⟨w.heap.size + 1, 0, none⟩ a3).setCell ⟨w.heap.size + 1, 1, none⟩ a4).setCell ⟨w.heap.size + 1, 2, none⟩ a5) :=
  (((((h.setNew ⟨w.heap.size, 0, none⟩ (Nat.le_refl _) _).setNew ⟨w.heap.size, 1, none⟩ (Nat.le_refl _) _).setNew ⟨w.heap.size, 2, none⟩ (Nat.le_refl _) _).setNew ⟨w.heap.size + 1, 0, none⟩ (Nat.le_succ _) _).setNew ⟨w.heap.size + 1, 1, none⟩ (Nat.le_succ _) _).setNew ⟨w.heap.size + 1, 2, none⟩ (Nat.le_succ _) _
end Go.Proofs.YtkcjembmdiaclaaDoor
