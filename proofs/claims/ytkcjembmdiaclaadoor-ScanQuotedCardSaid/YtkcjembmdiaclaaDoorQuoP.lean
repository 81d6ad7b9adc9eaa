/- The plain law under ScanQuoted: a text told byte by byte in quotes, and one in backquotes. -/
import Derived.Test.YtkcjembmdiaclaaDoorU
namespace Go.Proofs.YtkcjembmdiaclaaDoor
open Go.RowKit Go.Lib Go.Maps
set_option linter.unusedVariables false
set_option linter.unusedSimpArgs false

def lowD : List UInt8 := [48, 49, 50, 51, 52, 53, 54, 55, 56, 57, 97, 98, 99, 100, 101, 102]
def upD : List UInt8 := [48, 49, 50, 51, 52, 53, 54, 55, 56, 57, 65, 66, 67, 68, 69, 70]
def hexLo (c : Nat) : UInt8 := lowD.getD (c / 16) 0
def hexUp (c : Nat) : UInt8 := upD.getD (c % 16) 0
def hexB (c : UInt8) : List UInt8 := [92, 120, hexLo c.toNat, hexUp c.toNat]
def hexAll (l : List UInt8) : List UInt8 := l.flatMap hexB
/-- Such a byte is none that ends a quote or begins an escape. -/
def tame (c : Nat) : Bool := decide (c ≠ 34 ∧ c ≠ 92 ∧ c ≠ 10 ∧ 0 < c ∧ c < 128)
set_option maxRecDepth 100000 in
theorem hex_table : ∀ c : Fin 256, vFrom 16 [hexLo c.val, hexUp c.val] 0 = some (c.val : Int) ∧ tame (hexLo c.val).toNat = true ∧ tame (hexUp c.val).toNat = true := by decide +kernel
theorem hex_at (c : UInt8) : vFrom 16 [hexLo c.toNat, hexUp c.toNat] 0 = some (c.toNat : Int) ∧ tame (hexLo c.toNat).toNat = true ∧ tame (hexUp c.toNat).toNat = true := hex_table ⟨c.toNat, c.toNat_lt⟩
theorem tame_bd {c : UInt8} (h : tame c.toNat = true) : ((c.toNat : Int) == 34) = false ∧ ((c.toNat : Int) == 92) = false ∧ ((c.toNat : Int) == 10) = false ∧ 0 < c.toNat ∧ c.toNat < 128 := by
  have := of_decide_eq_true h
  refine ⟨?_, ?_, ?_, this.2.2.2.1, this.2.2.2.2⟩
  all_goals (rw [beq_eq_false_iff_ne]; omega)

theorem qFrom_tame {c : UInt8} (h : tame c.toNat = true) {r : List UInt8} (hr : r ≠ []) (i : Nat) : qFrom (c :: r) i = qFrom r (i + 1) := by
  obtain ⟨h1, h2, h3, _⟩ := tame_bd h
  cases r with
  | nil => exact absurd rfl hr
  | cons d r =>
    show (if ((c.toNat : Int) == 34) = true then i + 1 else if ((c.toNat : Int) == 92) = true then (if ((d.toNat : Int) == 10) = true then 0 else qFrom r (i + 2)) else if ((c.toNat : Int) == 10) = true then 0 else qFrom (d :: r) (i + 1)) = _
    rw [h1, h2, h3]
    rfl
theorem qFrom_hex : ∀ (l : List UInt8) (i : Nat), qFrom (hexAll l ++ [34]) i = i + 4 * l.length + 1
  | [], i => by show qFrom [34] i = _; simp [qFrom]
  | c :: l, i => by
    obtain ⟨_, h2, h3⟩ := hex_at c
    show qFrom (92 :: 120 :: hexLo c.toNat :: hexUp c.toNat :: (hexAll l ++ [34])) i = _
    have e : qFrom (92 :: 120 :: hexLo c.toNat :: hexUp c.toNat :: (hexAll l ++ [34])) i = qFrom (hexLo c.toNat :: hexUp c.toNat :: (hexAll l ++ [34])) (i + 2) := by
      show (if _ then _ else _) = _
      rw [if_neg (by decide), if_pos (by decide), if_neg (by decide)]
    rw [e, qFrom_tame h2 (by simp), qFrom_tame h3 (by simp), qFrom_hex l]
    simp
    omega
theorem hexAll_len (l : List UInt8) : (hexAll l).length = 4 * l.length := by
  induction l with
  | nil => rfl
  | cons c l ih =>
    show (hexB c ++ hexAll l).length = _
    rw [List.length_append, ih]
    simp [hexB]
    omega
theorem esc_hex (c : UInt8) (r : List UInt8) : escL (120 :: hexLo c.toNat :: hexUp c.toNat :: r) = ([c], 3) := by
  have hix : ¬ (0 : Int) ≤ escIx (UInt8.toNat 120) := by decide +kernel
  rw [escL_cons, if_neg hix, if_neg (by decide), if_pos (by decide)]
  have hv : valueL (hexLo c.toNat :: hexUp c.toNat :: r) 2 16 = some (c.toNat : Int) := by
    unfold valueL
    rw [if_neg (by simp)]
    exact (hex_at c).1
  rw [hv]
  simp
theorem unq_hex : ∀ (l acc : List UInt8) (f : Nat), 4 * l.length < f → unqF f (hexAll l) acc = some (acc ++ l)
  | [], acc, 0, h => by omega
  | [], acc, f + 1, h => by show unqF (f + 1) [] acc = _; simp [unqF]
  | c :: l, acc, 0, h => by omega
  | c :: l, acc, f + 1, h => by
    show unqF (f + 1) (92 :: 120 :: hexLo c.toNat :: hexUp c.toNat :: hexAll l) acc = _
    unfold unqF
    rw [if_neg (by decide), if_neg (by decide), if_pos (by decide), esc_hex]
    rw [if_neg (by simp)]
    have := unq_hex l (acc ++ [c]) f (by simp at h; omega)
    show unqF f (hexAll l) (acc ++ [c]) = _
    rw [this]
    simp
theorem hex_tok (l : List UInt8) : tokL (34 :: (hexAll l ++ [34])) = ((2 : Int), l, (((34 :: (hexAll l ++ [34])).length : Nat) : Int)) := by
  have hq : quotedL (34 :: (hexAll l ++ [34])) = 4 * l.length + 2 := by
    show qFrom (hexAll l ++ [34]) 1 = _
    rw [qFrom_hex]
    omega
  rw [tokL_cons, if_neg (by decide), if_neg (by decide), if_pos (by decide), hq, if_neg (by omega)]
  have ht : (hexAll l ++ [34]).take (4 * l.length + 2 - 2) = hexAll l := by
    rw [Nat.add_sub_cancel, ← hexAll_len, List.take_left]
  have hu : unquoteL (hexAll l) = some l := by
    unfold unquoteL
    rw [unq_hex l [] _ (by rw [hexAll_len]; omega)]
    rfl
  rw [ht, hu]
  simp [hexAll_len]
  omega
theorem hexAll_mem {l : List UInt8} {c : UInt8} (h : c ∈ hexAll l) : c = 92 ∨ tame c.toNat = true := by
  unfold hexAll at h
  obtain ⟨a, ha, hc⟩ := List.mem_flatMap.1 h
  obtain ⟨_, h2, h3⟩ := hex_at a
  unfold hexB at hc
  simp at hc
  rcases hc with rfl | rfl | rfl | rfl
  · exact .inl rfl
  · exact .inr (by decide)
  · exact .inr h2
  · exact .inr h3
theorem hex_good (l : List UInt8) : ∀ c ∈ 34 :: (hexAll l ++ [34]), 0 < c.toNat ∧ c.toNat < 128 ∧ c ≠ 10 := by
  intro c hc
  simp at hc
  have : c = 34 ∨ c = 92 ∨ tame c.toNat = true := by
    rcases hc with rfl | hc | rfl
    · exact .inl rfl
    · exact .inr (hexAll_mem hc)
    · exact .inl rfl
  rcases this with rfl | rfl | h
  · decide
  · decide
  · obtain ⟨h1, h2, h3, h4, h5⟩ := tame_bd h
    rw [beq_eq_false_iff_ne] at h3
    exact ⟨h4, h5, fun e => by subst e; simp at h3⟩
/-- What Next says of a text in quotes. -/
theorem hex_next (l : List UInt8) : nxt (34 :: (hexAll l ++ [34])) 1 false = ⟨2, l, 1, 0, 0, [], 1, true⟩ := by
  have h10 : (10 : UInt8) ∉ 34 :: (hexAll l ++ [34]) := fun h => (hex_good l 10 h).2.2 rfl
  rw [nxt_of (l := 34 :: (hexAll l ++ [34])) (line := 1) (semi := false) [] (34 :: (hexAll l ++ [34])) rfl (by simp) (fun c r e => by injection e with e1 _; rw [← e1]; decide) (hex_tok l)]
  rw [nxtTok_plain (by simp) (by simp), List.drop_length, List.take_length, nls_none h10]
  rfl

/-- A byte that may stand in backquotes, as the law has it. -/
def rawOk (c : Nat) : Bool := decide (32 ≤ c ∧ c < 127 ∧ c ≠ 96)
theorem raw_good {l : List UInt8} (h : ∀ c ∈ l, rawOk c.toNat = true) : ∀ c ∈ 96 :: (l ++ [96]), 0 < c.toNat ∧ c.toNat < 128 ∧ c ≠ 10 := by
  intro c hc
  simp at hc
  rcases hc with rfl | hc | rfl
  · decide
  · have := of_decide_eq_true (h c hc)
    exact ⟨by omega, by omega, fun e => by subst e; simp at this⟩
  · decide
theorem raw_next {l : List UInt8} (h : ∀ c ∈ l, rawOk c.toNat = true) : nxt (96 :: (l ++ [96])) 1 false = ⟨2, l, 1, 0, 0, [], 1, true⟩ := by
  have hok : ∀ c ∈ l, 32 ≤ c.toNat ∧ c.toNat < 127 ∧ c.toNat ≠ 96 := fun c hc => of_decide_eq_true (h c hc)
  have h10 : (10 : UInt8) ∉ 96 :: (l ++ [96]) := fun hm => (raw_good h 10 hm).2.2 rfl
  have htw : (l ++ [96]).takeWhile (· != 96) = l := tw_stop (r := []) (fun a ha => by have := hok a ha; simp; intro e; subst e; simp at this) (by decide)
  have hf : l.filter (· != 13) = l := List.filter_eq_self.2 fun a ha => by have := hok a ha; simp; intro e; subst e; simp at this
  have ht : tokL (96 :: (l ++ [96])) = ((2 : Int), l, (((96 :: (l ++ [96])).length : Nat) : Int)) := by
    rw [tokL_cons, if_neg (by decide), if_pos (by decide), if_pos (by simp), htw, hf]
    simp
    omega
  rw [nxt_of (l := 96 :: (l ++ [96])) (line := 1) (semi := false) [] (96 :: (l ++ [96])) rfl (by simp) (fun c r e => by injection e with e1 _; rw [← e1]; decide) ht]
  rw [nxtTok_plain (by simp) (by simp), List.drop_length, List.take_length, nls_none h10]
  rfl
theorem raw_end : nxt [] 1 true = ⟨3, [10], 1, 0, 0, [], 1, false⟩ := by kernel_rfl
end Go.Proofs.YtkcjembmdiaclaaDoor
