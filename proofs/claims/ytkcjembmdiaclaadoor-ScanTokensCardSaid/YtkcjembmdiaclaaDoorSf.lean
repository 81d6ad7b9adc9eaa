/- The walk of the document's token: the end, a sign, a name. -/
import Derived.Test.YtkcjembmdiaclaaDoorSe
import Derived.Test.YtkcjembmdiaclaaDoorRc
namespace Go.Proofs.YtkcjembmdiaclaaDoor
open Go.RowKit Go.Lib Go.Maps
set_option linter.unusedVariables false
set_option linter.unusedSimpArgs false

/-- A token of the document, and where it ends, as its function hands them back. -/
def rtkV (k : Int) (t : List UInt8) (line : Int) (n : Int) : Value := .tuple #[.agg #[.int .i64 k, .string (bs t), .int .i64 line], .int .i64 n]
theorem two_below (w : World) (A B : Obj) : Below w.heap.size w ((w.alloc A).alloc B) := ((Below.refl _ w).alloc (Nat.le_refl _) _).alloc (by simp) _

set_option maxRecDepth 100000 in
set_option maxHeartbeats 4000000 in
theorem rtok_empty (b : Nat) (s : ByteArray) (at_ : Nat) (a0 : Int) (semi : Bool) (w : World) (hs : s.size ≤ 1048576) (h : RSc w b s a0 semi) (hat : at_ = s.size) (LN : Nat) (hLN : 1 + nls (s.data.toList.take at_) = LN) :
    Calls Tryd.prog 23 #[.pointer (some ⟨b, 0, none⟩), .int .i64 at_] w fun e w' => e = .returned (rtkV 0 [] LN at_) ∧ Below w.heap.size w w' := by
  have hsl := sl_l s at_ (by omega)
  rw [List.drop_of_length_le (by rw [Array.length_toList, hat]; exact Nat.le_refl _), show bs [] = ⟨#[]⟩ from rfl] at hsl
  have cL := fun W => rline_any s at_ W hs (by omega)
  rw [hLN] at cL
  have c0 := h.c0
  have hlt := h.lt
  have HLN := Lib.hid hLN
  clear hLN hat
  go_enter Tryd.func23, Tryd.ntmps23
  go_wp2_with (go_at_call 18; refine (cL _).mono ?_; rintro e w1 ⟨rfl, hw1⟩; obtain rfl := hw1.symm)
  refine bodyPost_ret (v := rtkV 0 [] LN at_) (by simp [results, Tryd.results23, go_sem, rtkV, bs]) rfl ⟨rfl, two_below w _ _⟩

/-- What the walks of a token know ahead. -/
structure TokIn (w : World) (b : Nat) (s : ByteArray) (at_ : Nat) (T : ByteArray) (LN : Nat) : Prop where
  c0 : w.cell? ⟨b, 0, none⟩ = some (.string s)
  lt : b < w.heap.size
  hs : s.size ≤ 1048576
  hat : at_ + T.size = s.size
  h0 : 0 < T.size
  hsl : ∀ W, (Instr.slice 9 (.string s) (some (.int .i64 (at_ : Int))) none none).run Tryd.prog W = .ok (.string T) W
  cL : ∀ W, Calls Tryd.prog 18 #[.string s, .int .i64 at_] W fun e w' => e = .returned (.int .i64 (LN : Int)) ∧ w' = W
  em : T.toList.isEmpty = false
theorem TokIn.of {w : World} {b : Nat} {s : ByteArray} {at_ : Nat} {a0 : Int} {semi : Bool} (hs : s.size ≤ 1048576) (h : RSc w b s a0 semi) (hat : at_ < s.size) {T : ByteArray} (hT : bs (s.data.toList.drop at_) = T) {LN : Nat} (hLN : 1 + nls (s.data.toList.take at_) = LN) : TokIn w b s at_ T LN := by
  have hz : T.size = s.size - at_ := by rw [← hT, bs_size, List.length_drop, ← Lib.size_eq]
  refine ⟨h.c0, h.lt, hs, by omega, by omega, ?_, ?_, not_empty (by omega)⟩
  · rw [← hT]
    exact sl_l s at_ (by omega)
  · rw [← hLN]
    exact fun W => rline_any s at_ W hs (by omega)

theorem one_sign (T : ByteArray) (h0 : 0 < T.size) (W : World) : (Instr.slice 9 (.string T) none (some (.int .i64 1)) none).run Tryd.prog W = .ok (.string (bs [T[0]'h0])) W := by
  have h := sl_h T 1 (by omega) W
  have e : T.data.toList.take 1 = [T[0]'h0] := by
    have := drop_at T h0
    rw [List.drop_zero] at this
    rw [this]
    rfl
  rw [e] at h
  exact h
set_option maxRecDepth 100000 in
set_option maxHeartbeats 4000000 in
theorem rtok_sign (b : Nat) (s : ByteArray) (at_ : Nat) (w : World) (T : ByteArray) (LN : Nat) (hI : TokIn w b s at_ T LN) (c : Nat) (hc : (T[0]'hI.h0).toNat = c) (hl : letterN c = false) (h96 : ((c : Int) == 96) = false) (h34 : ((c : Int) == 34) = false)
    (hno : T.size = 1 ∨ ¬ c = 47 ∨ ∃ h1 : 1 < T.size, ¬ (T[1]'h1).toNat = 47 ∧ ¬ (T[1]'h1).toNat = 42) :
    Calls Tryd.prog 23 #[.pointer (some ⟨b, 0, none⟩), .int .i64 at_] w fun e w' => e = .returned (rtkV 3 [T[0]'hI.h0] LN ((at_ : Int) + 1)) ∧ Below w.heap.size w w' := by
  obtain ⟨c0, hlt, hs, hat, h0, hsl, cL, hem⟩ := hI
  have hone := one_sign T h0
  have hc256 : c < 256 := by rw [← hc]; exact UInt8.toNat_lt _
  have cl := fun W => rletter_any c W hc256
  rw [hl] at cl
  obtain ⟨X, hX⟩ : ∃ X, bs [T[0]'h0] = X := ⟨_, rfl⟩
  rw [hX] at hone
  have hv : rtkV 3 [T[0]'h0] LN ((at_ : Int) + 1) = .tuple #[.agg #[.int .i64 3, .string X, .int .i64 LN], .int .i64 ((at_ : Int) + 1)] := by rw [← hX]; rfl
  rw [hv]
  clear hv hX hl hc256
  by_cases h47 : ((c : Int) == 47) = true
  · rcases hno with h1 | h1 | ⟨h1, n47, n42⟩
    · have hz : (T.size : Int) = 1 := by omega
      go_enter Tryd.func23, Tryd.ntmps23
      go_wp2_with (first | (go_at_call 18; refine (cL _).mono ?_; rintro e w1 ⟨rfl, hw1⟩; obtain rfl := hw1.symm) | (go_at_call 39; refine (cl _).mono ?_; rintro e w1 ⟨rfl, hw1⟩; obtain rfl := hw1.symm))
      refine bodyPost_ret (v := .tuple #[.agg #[.int .i64 3, .string X, .int .i64 LN], .int .i64 ((at_ : Int) + 1)]) (by simp [results, Tryd.results23, go_sem]) rfl ⟨rfl, two_below w _ _⟩
    · exact absurd (by simp at h47; omega) h1
    · have hz : (1 : Int) < (T.size : Int) := by omega
      obtain ⟨d, hd⟩ : ∃ d : Nat, (T[1]'h1).toNat = d := ⟨_, rfl⟩
      rw [hd] at n47 n42
      have e47 : ((d : Int) == 47) = false := by rw [beq_eq_false_iff_ne]; omega
      have e42 : ((d : Int) == 42) = false := by rw [beq_eq_false_iff_ne]; omega
      clear n47 n42
      go_enter Tryd.func23, Tryd.ntmps23
      go_wp2_with (first | (go_at_call 18; refine (cL _).mono ?_; rintro e w1 ⟨rfl, hw1⟩; obtain rfl := hw1.symm) | (go_at_call 39; refine (cl _).mono ?_; rintro e w1 ⟨rfl, hw1⟩; obtain rfl := hw1.symm))
      refine bodyPost_ret (v := .tuple #[.agg #[.int .i64 3, .string X, .int .i64 LN], .int .i64 ((at_ : Int) + 1)]) (by simp [results, Tryd.results23, go_sem]) rfl ⟨rfl, two_below w _ _⟩
  · have h47' : ((c : Int) == 47) = false := by simpa using h47
    clear hno h47
    by_cases hz : (1 : Int) < (T.size : Int)
    · go_enter Tryd.func23, Tryd.ntmps23
      go_wp2_with (first | (go_at_call 18; refine (cL _).mono ?_; rintro e w1 ⟨rfl, hw1⟩; obtain rfl := hw1.symm) | (go_at_call 39; refine (cl _).mono ?_; rintro e w1 ⟨rfl, hw1⟩; obtain rfl := hw1.symm))
      refine bodyPost_ret (v := .tuple #[.agg #[.int .i64 3, .string X, .int .i64 LN], .int .i64 ((at_ : Int) + 1)]) (by simp [results, Tryd.results23, go_sem]) rfl ⟨rfl, two_below w _ _⟩
    · have hz' : (T.size : Int) = 1 := by omega
      clear hz
      go_enter Tryd.func23, Tryd.ntmps23
      go_wp2_with (first | (go_at_call 18; refine (cL _).mono ?_; rintro e w1 ⟨rfl, hw1⟩; obtain rfl := hw1.symm) | (go_at_call 39; refine (cl _).mono ?_; rintro e w1 ⟨rfl, hw1⟩; obtain rfl := hw1.symm))
      refine bodyPost_ret (v := .tuple #[.agg #[.int .i64 3, .string X, .int .i64 LN], .int .i64 ((at_ : Int) + 1)]) (by simp [results, Tryd.results23, go_sem]) rfl ⟨rfl, two_below w _ _⟩
end Go.Proofs.YtkcjembmdiaclaaDoor
