/- The walk of the document's Next: broken, and what its cases share. (Lines alike written by gennxt.py.) -/
import Derived.Test.YtkcjembmdiaclaaDoorSl
namespace Go.Proofs.YtkcjembmdiaclaaDoor
open Go.RowKit Go.Lib Go.Maps
set_option linter.unusedVariables false
set_option linter.unusedSimpArgs false

theorem RSc.six {W : World} {b : Nat} {s : ByteArray} {at_ : Int} {semi : Bool} (h : RSc W b s at_ semi) {N : Nat} (hN : b < N) (a0 a1 a2 a3 a4 a5 : Value) :
    RSc ((((((W.setCell ⟨N, 0, none⟩ a0).setCell ⟨N, 1, none⟩ a1).setCell ⟨N, 2, none⟩ a2).setCell ⟨N + 1, 0, none⟩ a3).setCell ⟨N + 1, 1, none⟩ a4).setCell ⟨N + 1, 2, none⟩ a5) b s at_ semi :=
  (((((h.setCell ⟨N, 0, none⟩ (by simp; omega) _).setCell ⟨N, 1, none⟩ (by simp; omega) _).setCell ⟨N, 2, none⟩ (by simp; omega) _).setCell ⟨N + 1, 0, none⟩ (by simp; omega) _).setCell ⟨N + 1, 1, none⟩ (by simp; omega) _).setCell ⟨N + 1, 2, none⟩ (by simp; omega) _
set_option maxRecDepth 100000 in
theorem rbroken_any (s : ByteArray) (w : World) (hs : s.size ≤ 1048576) (q : Bool) (hq : decide (0 < nls s.data.toList) = q) :
    Calls Tryd.prog 24 #[.string s] w fun e w' => e = .returned (.bool q) ∧ w' = w := by
  have cL := fun W => rline_any s s.size W hs (Nat.le_refl _)
  rw [List.take_of_length_le (by rw [Lib.size_eq]; exact Nat.le_refl _)] at cL
  obtain ⟨M, hM⟩ : ∃ M, nls s.data.toList = M := ⟨_, rfl⟩
  rw [hM] at cL hq
  have hq2 : decide ((1 : Int) < ((1 + M : Nat) : Int)) = q := by rw [← hq]; exact decide_eq_decide.2 (by omega)
  obtain ⟨L, hL⟩ : ∃ L : Nat, 1 + M = L := ⟨_, rfl⟩
  rw [hL] at cL hq2
  clear hq hM hL
  go_enter Tryd.func24, Tryd.ntmps24
  go_wp2_with (go_at_call 18; refine (cL _).mono ?_; rintro e w1 ⟨rfl, hw1⟩; obtain rfl := hw1.symm)
  go_ret
  exact ⟨rfl, rfl⟩
theorem no_blank {c : UInt8} {d : Nat} (hdd : c.toNat = d) (hd : blankB false c = false) : ((d : Int) == 32) = false ∧ ((d : Int) == 9) = false ∧ ((d : Int) == 13) = false ∧ ((d : Int) == 10) = false := by
  have key : ∀ k : UInt8, (c == k) = false → ((d : Int) == (k.toNat : Int)) = false := by
    intro k h
    rw [beq_eq_false_iff_ne] at h ⊢
    intro e
    exact h (UInt8.toNat_inj.1 (by omega))
  unfold blankB at hd
  simp only [Bool.or_eq_false_iff, Bool.not_false, Bool.true_and] at hd
  obtain ⟨⟨⟨h32, h9⟩, h13⟩, h10⟩ := hd
  exact ⟨key 32 h32, key 9 h9, key 13 h13, key 10 h10⟩
theorem blank_at (s : ByteArray) (at_ p : Nat) (semi : Bool) (hp0 : at_ ≤ p) (hps : p < s.size) (hp : p < at_ + ((s.data.toList.drop at_).takeWhile (blankB semi)).length) : blankB semi (s[p]'hps) = true := by
  have hl : p - at_ < (s.data.toList.drop at_).length := by rw [List.length_drop, ← Lib.size_eq]; omega
  have h := tw_in (p := blankB semi) (s.data.toList.drop at_) (p - at_) hl (by omega)
  rw [List.getElem_drop] at h
  have e : at_ + (p - at_) = p := by omega
  simp only [e] at h
  exact h
theorem blank_cases {c : UInt8} {y : Nat} {semi : Bool} (hy : c.toNat = y) (h : blankB semi c = true) : y = 32 ∨ y = 9 ∨ y = 13 ∨ (y = 10 ∧ semi = false) := by
  have key : ∀ k : UInt8, c = k → y = k.toNat := fun k e => by rw [← hy, e]
  unfold blankB at h
  simp only [Bool.or_eq_true, beq_iff_eq, Bool.and_eq_true, Bool.not_eq_true'] at h
  rcases h with ((h | h) | h) | ⟨h1, h⟩
  · exact .inl (key 32 h)
  · exact .inr (.inl (key 9 h))
  · exact .inr (.inr (.inl (key 13 h)))
  · exact .inr (.inr (.inr ⟨key 10 h, h1⟩))
/-- The cells of the results and of the scanner behind the token's call. -/
theorem rn_cells {w w1 : World} {b : Nat} {s : ByteArray} {at_ : Int} {semi : Bool} (h : RSc w b s at_ semi) (A B : Obj) (hb1 : Below ((w.alloc A).alloc B).heap.size ((w.alloc A).alloc B) w1) (O : Obj) :
    RSc (w1.alloc O) b s at_ semi ∧ (w1.alloc O).heap[w.heap.size]? = some A ∧ (w1.alloc O).heap[w.heap.size + 1]? = some B ∧ (w1.alloc O).heap[w1.heap.size]? = some O ∧ But b w (w1.alloc O) ∧ w.heap.size + 2 ≤ w1.heap.size := by
  obtain ⟨hF, hY⟩ := pair_blocks2 w A B
  have hsz : w.heap.size + 2 ≤ w1.heap.size := by have := hb1.size; simp at this; omega
  have hbb : Below ((w.alloc A).alloc B).heap.size ((w.alloc A).alloc B) (w1.alloc O) := hb1.alloc hb1.size _
  refine ⟨((h.alloc A).alloc B).below hbb, (hbb.block _ (lt_of_block hF)).trans hF, (hbb.block _ (lt_of_block hY)).trans hY, heap_alloc_new w1 O, ?_, hsz⟩
  exact ((But.refl b w).alloc A |>.alloc B).trans (.of_below hbb)
end Go.Proofs.YtkcjembmdiaclaaDoor
