/- The document's Wide, whole, and what it has to do with runes; the walk of the document's New. -/
import Derived.Test.YtkcjembmdiaclaaDoorRb
import Derived.Lib.DecodeN
namespace Go.Proofs.YtkcjembmdiaclaaDoor
open Go.RowKit Go.Lib Go.Maps
set_option linter.unusedVariables false
set_option linter.unusedSimpArgs false

def okN (p : Nat × Nat) : Nat := if p.1 = 65533 ∧ p.2 = 1 then 0 else p.2
theorem okN_bad : okN (65533, 1) = 0 := rfl
/-- What Wide says of the bytes, by number. -/
def wideN (n b0 b1 b2 b3 : Nat) : Nat :=
  if b0 < 128 then 1
  else if 192 ≤ b0 ∧ b0 < 224 then (if n < 2 then 0 else if ¬ (128 ≤ b1 ∧ b1 < 192) then 0 else if badRune 2 ((b0 - 192) * 64 + b1 % 64) = true then 0 else 2)
  else if 224 ≤ b0 ∧ b0 < 240 then (if n < 3 then 0 else if ¬ ((128 ≤ b1 ∧ b1 < 192) ∧ (128 ≤ b2 ∧ b2 < 192)) then 0 else if badRune 3 (((b0 - 224) * 64 + b1 % 64) * 64 + b2 % 64) = true then 0 else 3)
  else if 240 ≤ b0 ∧ b0 < 248 then (if n < 4 then 0 else if ¬ ((128 ≤ b1 ∧ b1 < 192) ∧ (128 ≤ b2 ∧ b2 < 192) ∧ (128 ≤ b3 ∧ b3 < 192)) then 0 else if badRune 4 ((((b0 - 240) * 64 + b1 % 64) * 64 + b2 % 64) * 64 + b3 % 64) = true then 0 else 4)
  else 0
theorem wideN_eq (n b0 b1 b2 b3 : Nat) (h0 : b0 < 256) (h1 : b1 < 256) (h2 : b2 < 256) (h3 : b3 < 256) : wideN n b0 b1 b2 b3 = okN (Lib.decodeN n b0 b1 b2 b3) := by
  obtain ⟨D, hD⟩ : ∃ D, Lib.decodeN n b0 b1 b2 b3 = D := ⟨_, rfl⟩
  rw [hD]
  unfold Lib.decodeN at hD
  unfold wideN
  by_cases c1 : b0 < 128
  · rw [if_pos c1] at hD ⊢; subst hD; unfold okN; rw [if_neg (by simp only; omega)]
  · rw [if_neg c1] at hD ⊢
    by_cases c2 : 192 ≤ b0 ∧ b0 < 224
    · rw [if_pos c2]
      have e1 : b0 % 32 = b0 - 192 := by omega
      have e2 : ¬ b0 / 16 = 14 := by omega
      have e3 : ¬ b0 / 8 = 30 := by omega
      by_cases d : 1 < n ∧ b1 / 64 = 2
      · rw [if_pos ⟨by omega, d⟩, e1] at hD
        rw [if_neg (by omega), if_neg (by omega)]
        by_cases f : (b0 - 192) * 64 + b1 % 64 ≥ 128
        · rw [if_pos f] at hD; subst hD; rw [if_neg (by unfold badRune; rw [decide_eq_true_eq]; omega)]; unfold okN; rw [if_neg (by simp only; omega)]
        · rw [if_neg f] at hD; subst hD; rw [if_pos (by unfold badRune; rw [decide_eq_true_eq]; omega)]; rfl
      · rw [if_neg (fun h => d h.2), if_neg (fun h => e2 h.1), if_neg (fun h => e3 h.1)] at hD
        subst hD
        by_cases f : n < 2
        · rw [if_pos f]; rfl
        · rw [if_neg f, if_pos (by omega)]; rfl
    · rw [if_neg c2]
      have e0 : ¬ b0 / 32 = 6 := by omega
      rw [if_neg (fun h => e0 h.1)] at hD
      by_cases c3 : 224 ≤ b0 ∧ b0 < 240
      · rw [if_pos c3]
        have e1 : b0 % 16 = b0 - 224 := by omega
        have e3 : ¬ b0 / 8 = 30 := by omega
        by_cases d : (1 < n ∧ b1 / 64 = 2) ∧ (2 < n ∧ b2 / 64 = 2)
        · have e4 : (b0 - 224) * 4096 + b1 % 64 * 64 + b2 % 64 = ((b0 - 224) * 64 + b1 % 64) * 64 + b2 % 64 := by omega
          rw [if_pos ⟨by omega, d⟩, e1, e4] at hD
          rw [if_neg (by omega), if_neg (by omega)]
          generalize ((b0 - 224) * 64 + b1 % 64) * 64 + b2 % 64 = x at hD ⊢
          unfold badRune
          by_cases f : x ≥ 2048 ∧ (x < 55296 ∨ (57344 ≤ x ∧ x ≤ 1114111))
          · rw [if_pos f] at hD; subst hD; unfold okN; rw [if_neg (by rw [decide_eq_true_eq]; omega), if_neg (by simp only; omega)]
          · rw [if_neg f] at hD; subst hD; rw [if_pos (by rw [decide_eq_true_eq]; omega)]; rfl
        · rw [if_neg (fun h => d h.2), if_neg (fun h => e3 h.1)] at hD
          subst hD
          by_cases f : n < 3
          · rw [if_pos f]; rfl
          · rw [if_neg f, if_pos (by omega)]; rfl
      · rw [if_neg c3]
        have e2 : ¬ b0 / 16 = 14 := by omega
        rw [if_neg (fun h => e2 h.1)] at hD
        by_cases c4 : 240 ≤ b0 ∧ b0 < 248
        · rw [if_pos c4]
          have e1 : b0 % 8 = b0 - 240 := by omega
          by_cases d : (1 < n ∧ b1 / 64 = 2) ∧ (2 < n ∧ b2 / 64 = 2) ∧ (3 < n ∧ b3 / 64 = 2)
          · have e4 : (b0 - 240) * 262144 + b1 % 64 * 4096 + b2 % 64 * 64 + b3 % 64 = (((b0 - 240) * 64 + b1 % 64) * 64 + b2 % 64) * 64 + b3 % 64 := by omega
            rw [if_pos ⟨by omega, d⟩, e1, e4] at hD
            rw [if_neg (by omega), if_neg (by omega)]
            generalize (((b0 - 240) * 64 + b1 % 64) * 64 + b2 % 64) * 64 + b3 % 64 = x at hD ⊢
            unfold badRune
            by_cases f : x ≥ 65536 ∧ (x < 55296 ∨ (57344 ≤ x ∧ x ≤ 1114111))
            · rw [if_pos f] at hD; subst hD; unfold okN; rw [if_neg (by rw [decide_eq_true_eq]; omega), if_neg (by simp only; omega)]
            · rw [if_neg f] at hD; subst hD; rw [if_pos (by rw [decide_eq_true_eq]; omega)]; rfl
          · rw [if_neg (fun h => d h.2)] at hD
            subst hD
            by_cases f : n < 4
            · rw [if_pos f]; rfl
            · rw [if_neg f, if_pos (by omega)]; rfl
        · rw [if_neg c4]
          rw [if_neg (fun h => c4 (by omega))] at hD; subst hD; rfl
def at8 (l : List UInt8) (k : Nat) : Nat := (l[k]?.getD 0).toNat
theorem wideL_eq (l : List UInt8) (h : l ≠ []) : wideL l = wideN l.length (at8 l 0) (at8 l 1) (at8 l 2) (at8 l 3) := by
  have hc : ∀ c : UInt8, (contB c = false) = ¬ (128 ≤ c.toNat ∧ c.toNat < 192) := by
    intro c; unfold contB; rw [decide_eq_false_iff_not]
  have ht : ∀ c : UInt8, (contB c = true) = (128 ≤ c.toNat ∧ c.toNat < 192) := by
    intro c; unfold contB; rw [decide_eq_true_eq]
  match l, h with
  | [c], _ => simp [wideL, wideN, at8, wideAt]
  | [c, d], _ => simp [wideL, wideN, at8, wideAt, sumB, hc]
  | [c, d, e], _ => simp [wideL, wideN, at8, wideAt, sumB, hc, ht]
  | c :: d :: e :: f :: r, _ => simp [wideL, wideN, at8, wideAt, sumB, hc, ht]

set_option maxRecDepth 100000 in
theorem wide_low (s : ByteArray) (w : World) (hs : s.size ≤ 1048576) (h0 : 0 < s.size) (c : Nat) (hc : (s[0]'h0).toNat = c) (hlo : (c : Int) < 128) :
    Calls Tryd.prog 17 #[.string s] w fun e w' => e = .returned (.int .i64 (1 : Nat)) ∧ w' = w := by
  go_enter Tryd.func17, Tryd.ntmps17
  go_wp2
  go_ret
  exact ⟨rfl, rfl⟩
set_option maxRecDepth 100000 in
theorem wide_mid (s : ByteArray) (w : World) (hs : s.size ≤ 1048576) (h0 : 0 < s.size) (c : Nat) (hc : (s[0]'h0).toNat = c) (hlo : (128 : Int) ≤ (c : Int)) (hhi : (c : Int) < 192) :
    Calls Tryd.prog 17 #[.string s] w fun e w' => e = .returned (.int .i64 (0 : Nat)) ∧ w' = w := by
  go_enter Tryd.func17, Tryd.ntmps17
  go_wp2
  go_ret
  exact ⟨rfl, rfl⟩
set_option maxRecDepth 100000 in
theorem wide_high (s : ByteArray) (w : World) (hs : s.size ≤ 1048576) (h0 : 0 < s.size) (c : Nat) (hc : (s[0]'h0).toNat = c) (hlo : (248 : Int) ≤ (c : Int)) (hhi : (c : Int) < 256) :
    Calls Tryd.prog 17 #[.string s] w fun e w' => e = .returned (.int .i64 (0 : Nat)) ∧ w' = w := by
  go_enter Tryd.func17, Tryd.ntmps17
  go_wp2
  go_ret
  exact ⟨rfl, rfl⟩
theorem wide_any (s : ByteArray) (w : World) (hs : s.size ≤ 1048576) (h0 : 0 < s.size) :
    Calls Tryd.prog 17 #[.string s] w fun e w' => e = .returned (.int .i64 (wideL s.data.toList : Nat)) ∧ w' = w := by
  obtain ⟨c, hc⟩ : ∃ c : Nat, (s[0]'h0).toNat = c := ⟨_, rfl⟩
  have hl : s.data.toList = s[0]'h0 :: s.data.toList.drop 1 := by have := drop_at s h0; simpa using this
  have hW : wideL s.data.toList = if c < 128 then 1 else if 192 ≤ c ∧ c < 224 then wideAt s.data.toList 2 (c - 192) else if 224 ≤ c ∧ c < 240 then wideAt s.data.toList 3 (c - 224) else if 240 ≤ c ∧ c < 248 then wideAt s.data.toList 4 (c - 240) else 0 := by
    subst hc
    generalize s.data.toList = l at hl ⊢
    generalize s[0]'h0 = b at hl ⊢
    rw [hl]
    rfl
  rw [hW]
  by_cases c1 : c < 128
  · rw [if_pos c1]; exact wide_low s w hs h0 c hc (by omega)
  · rw [if_neg c1]
    by_cases c2 : 192 ≤ c ∧ c < 224
    · rw [if_pos c2]; exact wide_2 s w hs h0 c hc (by omega) (by omega)
    · rw [if_neg c2]
      by_cases c3 : 224 ≤ c ∧ c < 240
      · rw [if_pos c3]; exact wide_3 s w hs h0 c hc (by omega) (by omega)
      · rw [if_neg c3]
        by_cases c4 : 240 ≤ c ∧ c < 248
        · rw [if_pos c4]; exact wide_4 s w hs h0 c hc (by omega) (by omega)
        · rw [if_neg c4]
          by_cases c5 : c < 192
          · exact wide_mid s w hs h0 c hc (by omega) (by omega)
          · exact wide_high s w hs h0 c hc (by omega) (by have := UInt8.toNat_lt (s[0]'h0); omega)


theorem at8_get (s : ByteArray) (p k : Nat) : at8 (s.data.toList.drop p) k = (s.get! (p + k)).toNat := by
  unfold at8
  rw [List.getElem?_drop]
  congr 1
  by_cases h : p + k < s.size
  · rw [get_list s h]
    show s[p + k]'h = s.get! (p + k)
    simp [ByteArray.get!, h, getElem!_pos]
    rfl
  · have h1 : s.data.toList[p + k]? = none := List.getElem?_eq_none (by rw [Array.length_toList]; exact Nat.le_of_not_lt h)
    rw [h1]
    simp [ByteArray.get!, h]
    rfl
theorem at8_lt (l : List UInt8) (k : Nat) : at8 l k < 256 := UInt8.toNat_lt _
theorem wideL_dec (s : ByteArray) (p : Nat) (h : p < s.size) : wideL (s.data.toList.drop p) = okN (Utf8.decode s p) := by
  rw [wideL_eq _ (by intro e; have := congrArg List.length e; rw [List.length_drop, Array.length_toList] at this; have h' : p < s.data.size := h; simp at this; omega)]
  rw [wideN_eq _ _ _ _ _ (at8_lt _ _) (at8_lt _ _) (at8_lt _ _) (at8_lt _ _), Lib.decode_at]
  rw [at8_get, at8_get, at8_get, at8_get, List.length_drop]
  rfl
theorem rune_zero (s : ByteArray) (p : Nat) (h : p < s.size) : (Utf8.decode s p).1 = 0 ↔ (s[p]'h).toNat = 0 := by
  have e : s.get! p = s[p]'h := by simp [ByteArray.get!, h, getElem!_pos]; rfl
  rw [Lib.decode_at, e]
  unfold Lib.decodeN
  constructor
  · intro h0
    by_cases c1 : (s[p]'h).toNat < 128
    · rw [if_pos c1] at h0; exact h0
    · exfalso
      rw [if_neg c1] at h0
      repeat' split at h0
      all_goals simp only at h0
      all_goals omega
  · intro h0
    rw [if_pos (by omega)]
    exact h0
theorem wide_le (s : ByteArray) (p : Nat) (h : p < s.size) : wideL (s.data.toList.drop p) ≤ 4 := by
  rw [wideL_dec s p h]
  unfold okN
  split
  · omega
  · rw [Lib.decode_at]
    unfold Lib.decodeN
    repeat' split
    all_goals simp
/-- A step of the search for a rune that may not be, by Wide. -/
theorem badFrom_wide (s : ByteArray) (g p : Nat) (h : p < s.size) :
    badFrom s (g + 1) p = if wideL (s.data.toList.drop p) = 0 ∨ (s[p]'h).toNat = 0 then some p else badFrom s g (p + wideL (s.data.toList.drop p)) := by
  have hw := Lib.width_pos s p
  have hz := rune_zero s p h
  show (if p < s.size then _ else _) = _
  rw [if_pos h, wideL_dec s p h]
  unfold okN
  by_cases c1 : (Utf8.decode s p).1 = 65533 ∧ (Utf8.decode s p).2 = 1
  · rw [if_pos c1, if_pos (.inr c1), if_pos (.inl rfl)]
  · rw [if_neg c1]
    by_cases c2 : (Utf8.decode s p).1 = 0
    · rw [if_pos (.inl c2), if_pos (.inr (hz.1 c2))]
    · rw [if_neg (by intro k; rcases k with k | k; exact c2 k; exact c1 k), if_neg (by intro k; rcases k with k | k; omega; exact c2 (hz.2 k))]

/-- Block b is the document's scanner. -/
def RSc (w : World) (b : Nat) (s : ByteArray) (at_ : Int) (semi : Bool) : Prop := w.heap[b]? = some (.cells #[.string s, .int .i64 at_, .bool semi] 53 (0, 0))
theorem RSc.c0 {w : World} {b : Nat} {s : ByteArray} {at_ : Int} {semi : Bool} (h : RSc w b s at_ semi) : w.cell? ⟨b, 0, none⟩ = some (.string s) := by rw [Lib.cell_of_heap h]; rfl
theorem RSc.c1 {w : World} {b : Nat} {s : ByteArray} {at_ : Int} {semi : Bool} (h : RSc w b s at_ semi) : w.cell? ⟨b, 1, none⟩ = some (.int .i64 at_) := by rw [Lib.cell_of_heap h]; rfl
theorem RSc.c2 {w : World} {b : Nat} {s : ByteArray} {at_ : Int} {semi : Bool} (h : RSc w b s at_ semi) : w.cell? ⟨b, 2, none⟩ = some (.bool semi) := by rw [Lib.cell_of_heap h]; rfl
theorem RSc.fz {w : World} {b : Nat} {s : ByteArray} {at_ : Int} {semi : Bool} (h : RSc w b s at_ semi) (j : Nat) : w.frozen? ⟨b, j, none⟩ = false := Lib.frozen_of_heap h j
theorem RSc.lt {w : World} {b : Nat} {s : ByteArray} {at_ : Int} {semi : Bool} (h : RSc w b s at_ semi) : b < w.heap.size := lt_of_block h
theorem RSc.put1 {w : World} {b : Nat} {s : ByteArray} {at_ at' : Int} {semi : Bool} (h : RSc w b s at_ semi) : RSc (w.setCell ⟨b, 1, none⟩ (.int .i64 at')) b s at' semi := by
  unfold RSc at *
  simp [World.setCell, Array.getElem?_modify, h]
theorem RSc.put2 {w : World} {b : Nat} {s : ByteArray} {at_ : Int} {semi semi' : Bool} (h : RSc w b s at_ semi) : RSc (w.setCell ⟨b, 2, none⟩ (.bool semi')) b s at_ semi' := by
  unfold RSc at *
  simp [World.setCell, Array.getElem?_modify, h]
theorem RSc.below {w w' : World} {b : Nat} {s : ByteArray} {at_ : Int} {semi : Bool} (h : RSc w b s at_ semi) (hb : Below w.heap.size w w') : RSc w' b s at_ semi := (hb.block b h.lt).trans h
theorem RSc.alloc {w : World} {b : Nat} {s : ByteArray} {at_ : Int} {semi : Bool} (h : RSc w b s at_ semi) (o : Obj) : RSc (w.alloc o) b s at_ semi := h.below ((Below.refl _ _).alloc (Nat.le_refl _) _)
theorem RSc.setCell {w : World} {b : Nat} {s : ByteArray} {at_ : Int} {semi : Bool} (h : RSc w b s at_ semi) (p : Addr) (hp : p.block ≠ b) (v : Value) : RSc (w.setCell p v) b s at_ semi :=
  (Below.heap_setCell w p v b (fun e => hp e.symm)).trans h
theorem RSc.but {w w' : World} {b b' : Nat} {s : ByteArray} {at_ : Int} {semi : Bool} (h : RSc w b s at_ semi) (k : But b' w w') (hne : b ≠ b') : RSc w' b s at_ semi :=
  (k.block b h.lt (fun e => hne (by injection e))).trans h
/-- What stands ahead of a source and is none of it. -/
def markL (l : List UInt8) : Nat := if Lib.hasPrefix l [239, 187, 191] = true then 3 else 0
/-- What the document's New hands back. -/
def RNewPost (w : World) (s : ByteArray) (r : Option Nat) (e : Ending) (w' : World) : Prop :=
  match r with
  | some p => NewBad w p s e w'
  | none => ∃ b, w.heap.size ≤ b ∧ e = .returned (.tuple #[.pointer (some ⟨b, 0, none⟩), faultV 0 0]) ∧ RSc w' b s (markL s.data.toList : Nat) false ∧ Below w.heap.size w w'

set_option maxRecDepth 100000 in
set_option maxHeartbeats 4000000 in
theorem rnew_any (s : ByteArray) (w : World) (hs : s.size ≤ 1048576) :
    Calls Tryd.prog 11 #[.string s] w (RNewPost w s (badAt s)) := by
  obtain ⟨R0, hR0⟩ : ∃ R0, badAt s = R0 := ⟨_, rfl⟩
  rw [hR0]
  have HR := Lib.hid hR0
  clear hR0
  go_enter Tryd.func11, Tryd.ntmps11
  go_wp2
  go_loopg [4] s.size (fun gf iv wx => ∃ pos : Nat, iv = .int .i64 pos ∧ pos ≤ s.size + 4 ∧ Hid (wx = w.alloc (.cells #[.int .i64 0, .string ⟨#[]⟩, .int .i64 0] 26)) ∧ Hid (badFrom s gf pos = R0) ∧ s.size ≤ pos + gf)
  case atStart => exact ⟨0, rfl, by omega, rfl, HR, by omega⟩
  case round =>
    obtain ⟨pos, rfl, hp4, hw, HK, hfu⟩ := hrel
    obtain rfl := hw.out
    clear hw HR
    by_cases hps : pos < s.size
    · obtain ⟨g', rfl⟩ : ∃ g', gk = g' + 1 := ⟨gk - 1, by omega⟩
      have hst := badFrom_wide s g' pos hps
      rw [HK.out] at hst
      have hwl := wide_le s pos hps
      have hsl := sl_l s pos (by omega)
      have cW := fun W => wide_any (bs (s.data.toList.drop pos)) W (by rw [bs_size, List.length_drop, ← Lib.size_eq]; omega) (by rw [bs_size, List.length_drop, ← Lib.size_eq]; omega)
      rw [bs_list] at cW
      have cL := fun W => rline_any s pos W hs (by omega)
      obtain ⟨K, hK⟩ : ∃ K, wideL (s.data.toList.drop pos) = K := ⟨_, rfl⟩
      obtain ⟨T, hT⟩ : ∃ T, bs (s.data.toList.drop pos) = T := ⟨_, rfl⟩
      obtain ⟨c, hc⟩ : ∃ c, (s[pos]'hps).toNat = c := ⟨_, rfl⟩
      obtain ⟨LN, hLN⟩ : ∃ LN, 1 + nls (s.data.toList.take pos) = LN := ⟨_, rfl⟩
      rw [hT] at hsl
      rw [hK, hT] at cW
      rw [hK, hc] at hst
      rw [hK] at hwl
      rw [hLN] at cL
      have HLN := Lib.hid hLN
      have HST := Lib.hid hst
      clear hst hK hT hLN HK
      by_cases hk0 : ((K : Int) == 0) = true
      · have hR0 : R0 = some pos := by rw [HST.out, if_pos (.inl (by simp at hk0; omega))]
        subst hR0
        clear HST hwl
        go_wp2_with (first | (go_at_call 17; refine (cW _).mono ?_; rintro e w1 ⟨rfl, hw1⟩; obtain rfl := hw1.symm) | (go_at_call 18; refine (cL _).mono ?_; rintro e w1 ⟨rfl, hw1⟩; obtain rfl := hw1.symm))
        refine bodyPost_ret (v := .tuple #[.pointer none, .agg #[.int .i64 100, .string ⟨#[]⟩, .int .i64 LN]]) (by simp [results, Tryd.results11, go_sem]) rfl ⟨by rw [← HLN.out]; rfl, (Below.refl _ w).alloc (Nat.le_refl _) _⟩
      · have hk0f : ((K : Int) == 0) = false := by simpa using hk0
        have hkn : ¬ K = 0 := by simp at hk0; omega
        by_cases hc0 : ((c : Int) == 0) = true
        · have hR0 : R0 = some pos := by rw [HST.out, if_pos (.inr (by simp at hc0; omega))]
          subst hR0
          clear HST hwl hkn hk0
          go_wp2_with (first | (go_at_call 17; refine (cW _).mono ?_; rintro e w1 ⟨rfl, hw1⟩; obtain rfl := hw1.symm) | (go_at_call 18; refine (cL _).mono ?_; rintro e w1 ⟨rfl, hw1⟩; obtain rfl := hw1.symm))
          refine bodyPost_ret (v := .tuple #[.pointer none, .agg #[.int .i64 100, .string ⟨#[]⟩, .int .i64 LN]]) (by simp [results, Tryd.results11, go_sem]) rfl ⟨by rw [← HLN.out]; rfl, (Below.refl _ w).alloc (Nat.le_refl _) _⟩
        · have hc0f : ((c : Int) == 0) = false := by simpa using hc0
          have hcn : ¬ c = 0 := by simp at hc0; omega
          have hnext : badFrom s g' (pos + K) = R0 := by rw [HST.out, if_neg (by intro k; rcases k with k | k; exact hkn k; exact hcn k)]
          have HN := Lib.hid hnext
          have hk1 : 1 ≤ K := by omega
          clear HST hkn hk0 hc0 hcn hnext
          go_wp2_with (go_at_call 17; refine (cW _).mono ?_; rintro e w1 ⟨rfl, hw1⟩; obtain rfl := hw1.symm)
          go_roundg g'
          case measure => omega
          case rel => exact ⟨pos + K, by go_num, by omega, rfl, HN, by omega⟩
    · have hleft := HK.out
      have he : badFrom s gk pos = none := by cases gk <;> simp [badFrom, hps]
      rw [he] at hleft
      subst hleft
      clear HK he
      obtain ⟨W1, hW1⟩ : ∃ W1, w.alloc (.cells #[.int .i64 0, .string ⟨#[]⟩, .int .i64 0] 26) = W1 := ⟨_, rfl⟩
      have hF1 : W1.heap[w.heap.size]? = some (.cells #[.int .i64 0, .string ⟨#[]⟩, .int .i64 0] 26 (0, 0)) := by rw [← hW1]; exact heap_alloc_new w _
      have hb1 : Below w.heap.size w W1 := by rw [← hW1]; exact (Below.refl _ w).alloc (Nat.le_refl _) _
      rw [hW1]
      clear hW1
      have hF2 : (W1.alloc (.cells #[.string s, .int .i64 0, .bool false] 53)).heap[w.heap.size]? = some (.cells #[.int .i64 0, .string ⟨#[]⟩, .int .i64 0] 26 (0, 0)) := (Below.heap_alloc W1 _ _ (lt_of_block hF1)).trans hF1
      have hN2 : (W1.alloc (.cells #[.string s, .int .i64 0, .bool false] 53)).heap[W1.heap.size]? = some (.cells #[.string s, .int .i64 0, .bool false] 53 (0, 0)) := heap_alloc_new W1 _
      obtain ⟨⟨k0, k1, k2⟩, q0, q1, q2⟩ := block_cells hF2
      obtain ⟨⟨j0, j1, j2⟩, p0, p1, p2⟩ := block_cells hN2
      by_cases h3 : (3 : Int) ≤ (s.size : Int)
      · have hsl : ∀ W, (Instr.slice 9 (.string s) none (some (.int .i64 3)) none).run Tryd.prog W = .ok (.string (bs (s.data.toList.take 3))) W := fun W => sl_h s 3 (by omega) W
        by_cases hm : bs (s.data.toList.take 3) = ⟨#[239, 187, 191]⟩
        · rw [hm] at hsl
          have hK : markL s.data.toList = 3 := by
            unfold markL
            rw [if_pos]
            have h := congrArg (fun b : ByteArray => b.data.toList) hm
            simp only [bs_list] at h
            exact List.isPrefixOf_iff_prefix.2 (h ▸ List.take_prefix 3 _)
          have hF3 : (W1.alloc (.cells #[.string s, .int .i64 3, .bool false] 53)).heap[w.heap.size]? = some (.cells #[.int .i64 0, .string ⟨#[]⟩, .int .i64 0] 26 (0, 0)) := (Below.heap_alloc W1 _ _ (lt_of_block hF1)).trans hF1
          obtain ⟨⟨x0, x1, x2⟩, y0, y1, y2⟩ := block_cells hF3
          clear hm k0 k1 k2 q0 q1 q2
          go_wp2
          refine bodyPost_ret (v := .tuple #[.pointer (some ⟨W1.heap.size, 0, none⟩), .agg #[.int .i64 0, .string ⟨#[]⟩, .int .i64 0]]) (by simp [results, Tryd.results11, go_sem, x0, x1, x2, y0, y1, y2]) rfl ⟨W1.heap.size, hb1.size, rfl, ?_, ?_⟩
          · rw [hK]
            have h : RSc (W1.alloc (.cells #[.string s, .int .i64 3, .bool false] 53)) W1.heap.size s ((3 : Nat) : Int) false := heap_alloc_new W1 _
            have hlt := lt_of_block hF1
            exact ((h.setCell _ (by simp; omega) _).setCell _ (by simp; omega) _).setCell _ (by simp; omega) _
          · exact (((hb1.alloc hb1.size _).setCell (by simp) _).setCell (by simp) _).setCell (by simp) _
        · obtain ⟨T, hT⟩ : ∃ T, bs (s.data.toList.take 3) = T := ⟨_, rfl⟩
          rw [hT] at hsl hm
          have hm2 : (T.toList == [239, 187, 191]) = false := by
            rw [beq_eq_false_iff_ne, Lib.toList_data]
            intro e
            exact hm (by rw [← bs_of T, e]; rfl)
          have hK : markL s.data.toList = 0 := by
            unfold markL
            rw [if_neg]
            intro h
            obtain ⟨r, hr⟩ : ∃ r, [239, 187, 191] ++ r = s.data.toList := List.isPrefixOf_iff_prefix.1 h
            rw [← hr] at hT
            exact hm hT.symm
          clear hT hm
          go_wp2
          refine bodyPost_ret (v := .tuple #[.pointer (some ⟨W1.heap.size, 0, none⟩), .agg #[.int .i64 0, .string ⟨#[]⟩, .int .i64 0]]) (by simp [results, Tryd.results11, go_sem, k0, k1, k2, q0, q1, q2]) rfl ⟨W1.heap.size, hb1.size, rfl, ?_, ?_⟩
          · rw [hK]
            have h : RSc (W1.alloc (.cells #[.string s, .int .i64 0, .bool false] 53)) W1.heap.size s ((0 : Nat) : Int) false := heap_alloc_new W1 _
            have hlt := lt_of_block hF1
            exact ((h.setCell _ (by simp; omega) _).setCell _ (by simp; omega) _).setCell _ (by simp; omega) _
          · exact (((hb1.alloc hb1.size _).setCell (by simp) _).setCell (by simp) _).setCell (by simp) _
      · have h3' : (s.size : Int) < 3 := by omega
        clear h3
        have hK : markL s.data.toList = 0 := by
          unfold markL
          rw [if_neg]
          intro h
          obtain ⟨r, hr⟩ : ∃ r, [239, 187, 191] ++ r = s.data.toList := List.isPrefixOf_iff_prefix.1 h
          have hl := congrArg List.length hr
          rw [Array.length_toList] at hl
          have hl2 : s.data.size = s.size := rfl
          simp at hl
          omega
        go_wp2
        refine bodyPost_ret (v := .tuple #[.pointer (some ⟨W1.heap.size, 0, none⟩), .agg #[.int .i64 0, .string ⟨#[]⟩, .int .i64 0]]) (by simp [results, Tryd.results11, go_sem, k0, k1, k2, q0, q1, q2]) rfl ⟨W1.heap.size, hb1.size, rfl, ?_, ?_⟩
        · rw [hK]
          have h : RSc (W1.alloc (.cells #[.string s, .int .i64 0, .bool false] 53)) W1.heap.size s ((0 : Nat) : Int) false := heap_alloc_new W1 _
          have hlt := lt_of_block hF1
          exact ((h.setCell _ (by simp; omega) _).setCell _ (by simp; omega) _).setCell _ (by simp; omega) _
        · exact (((hb1.alloc hb1.size _).setCell (by simp) _).setCell (by simp) _).setCell (by simp) _
/-- The document's New at a source that may be. -/
theorem rnew_good (s : ByteArray) (w : World) (hs : s.size ≤ 1048576) (hbad : badAt s = none) (K : Nat) (hK : markL s.data.toList = K) :
    Calls Tryd.prog 11 #[.string s] w fun e w' => ∃ b, w.heap.size ≤ b ∧ e = .returned (.tuple #[.pointer (some ⟨b, 0, none⟩), .agg #[.int .i64 0, .string ⟨#[]⟩, .int .i64 0]]) ∧ RSc w' b s (K : Int) false ∧ Below w.heap.size w w' := by
  have h := rnew_any s w hs
  rw [hbad] at h
  subst hK
  exact h
/-- .. and at one that may not be. -/
theorem rnew_bad (s : ByteArray) (w : World) (hs : s.size ≤ 1048576) (p : Nat) (hbad : badAt s = some p) (n : Nat) (hn : 1 + nls (s.data.toList.take p) = n) :
    Calls Tryd.prog 11 #[.string s] w fun e w' => e = .returned (.tuple #[.pointer none, .agg #[.int .i64 100, .string ⟨#[]⟩, .int .i64 n]]) ∧ Below w.heap.size w w' := by
  have h := rnew_any s w hs
  rw [hbad] at h
  subst hn
  exact h
end Go.Proofs.YtkcjembmdiaclaaDoor
