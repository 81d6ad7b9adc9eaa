/- The walk of the program's escape. -/
import Derived.Test.YtkcjembmdiaclaaDoorE
import Derived.Maps.Own
import Derived.Carry
namespace Go.Proofs.YtkcjembmdiaclaaDoor
open Go.RowKit Go.Lib Go.Maps
set_option linter.unusedVariables false
set_option linter.unusedSimpArgs false

/-- How many digits an escape of this sign takes: what the program's map of three signs holds. -/
def manyN (c : Nat) : Nat := if c = 120 then 2 else if c = 117 then 4 else if c = 85 then 8 else 0

theorem key5 : Keyed Tryd.prog 5 := int_keyed Tryd.underlying5
theorem wf_u8 {c : Nat} (h : c < 256) : (Lit.int .u8 (c : Int)).wf = true := WalkArith.wf_u8 (by omega)
theorem zero3 (w : World) : (zeroValue 3).run Tryd.prog w = .ok (.int .i64 0) w := by kernel_rfl
theorem at_three (c : Nat) : ((((DataW.map (H := Unit) []).put (.int .u8 120) (.lit (.int .i64 2))).put (.int .u8 117) (.lit (.int .i64 4))).put (.int .u8 85) (.lit (.int .i64 8))).atKey (.int .u8 (c : Int)) (.lit (.int .i64 0)) = .lit (.int .i64 (manyN c : Int)) := by
  by_cases h1 : c = 120
  · subst h1; rfl
  · by_cases h2 : c = 117
    · subst h2; rfl
    · by_cases h3 : c = 85
      · subst h3; rfl
      · unfold manyN
        rw [if_neg h1, if_neg h2, if_neg h3]
        have e : (((DataW.map (H := Unit) []).put (.int .u8 120) (.lit (.int .i64 2))).put (.int .u8 117) (.lit (.int .i64 4))).put (.int .u8 85) (.lit (.int .i64 8)) = .map [(.int .u8 85, .lit (.int .i64 8)), (.int .u8 117, .lit (.int .i64 4)), (.int .u8 120, .lit (.int .i64 2))] := rfl
        rw [e]
        have n1 : ¬ (120 : Int) = (c : Int) := by omega
        have n2 : ¬ (117 : Int) = (c : Int) := by omega
        have n3 : ¬ (85 : Int) = (c : Int) := by omega
        simp [DataW.atKey, Lit.sameKey, n1, n2, n3]
theorem map_made (w : World) (c : Nat) (hc : c < 256) : ∃ w1 w2 w3,
    (Instr.mapUpdate 90 (.map (some w.heap.size)) (.int .u8 120) (.int .i64 2)).run Tryd.prog (w.alloc (.map #[] 0)) = .ok () w1 ∧
    (Instr.mapUpdate 90 (.map (some w.heap.size)) (.int .u8 117) (.int .i64 4)).run Tryd.prog w1 = .ok () w2 ∧
    (Instr.mapUpdate 90 (.map (some w.heap.size)) (.int .u8 85) (.int .i64 8)).run Tryd.prog w2 = .ok () w3 ∧
    (Instr.lookup 90 (.map (some w.heap.size)) (.int .u8 (c : Int)) false).run Tryd.prog w3 = .ok (.int .i64 (manyN c : Int)) w3 ∧ Below w.heap.size w w3 := by
  have h0 := World.ownsMap_made (H := Unit) w Tryd.prog 5 (plainElem Tryd.prog 3)
  obtain ⟨w1, r1, h1, g1⟩ := h0.update (t := 90) (e := 3) key5 Tryd.underlying90 (by unfold maxLen; omega) (key := .int .u8 120) (val := .int .i64 2) (keyOf_int_mk Tryd.underlying5 (by decide)) (plainElem_int Tryd.underlying3 (by decide))
  obtain ⟨w2, r2, h2, g2⟩ := h1.update (t := 90) (e := 3) key5 Tryd.underlying90 (by unfold maxLen; omega) (key := .int .u8 117) (val := .int .i64 4) (keyOf_int_mk Tryd.underlying5 (by decide)) (plainElem_int Tryd.underlying3 (by decide))
  obtain ⟨w3, r3, h3, g3⟩ := h2.update (t := 90) (e := 3) key5 Tryd.underlying90 (by unfold maxLen; omega) (key := .int .u8 85) (val := .int .i64 8) (keyOf_int_mk Tryd.underlying5 (by decide)) (plainElem_int Tryd.underlying3 (by decide))
  obtain ⟨q, r4, h4, _⟩ := h3.lookup_int (t := 90) (e := 3) key5 Tryd.underlying90 Tryd.underlying3 (zero3 _) (key := .int .u8 (c : Int)) (keyOf_int_mk Tryd.underlying5 (wf_u8 hc))
  rw [at_three] at h4
  have hq : q = (manyN c : Int) := by
    injection h4 with h
    injection h with _ h
    exact h.symm
  subst hq
  have hb0 : Below w.heap.size w (w.alloc (.map #[] 0)) := (Below.refl _ w).alloc (Nat.le_refl _) _
  have hb1 := hb0.grown g1 (by simp) (fun k hk => by cases hk; omega)
  have hb2 := hb1.grown g2 hb1.size (fun k hk => by cases hk; omega)
  have hb3 := hb2.grown g3 hb2.size (fun k hk => by cases hk; omega)
  exact ⟨w1, w2, w3, r1, r2, r3, r4, hb3⟩
end Go.Proofs.YtkcjembmdiaclaaDoor
