/- The walks of the program's Line and skip. -/
import Derived.Test.YtkcjembmdiaclaaDoorD
import Derived.OneCell
import Derived.Deep.RegionWith
namespace Go.Proofs.YtkcjembmdiaclaaDoor
open Go.RowKit Go.Lib
set_option linter.unusedVariables false
set_option linter.unusedSimpArgs false

/-- How many line feeds. -/
def nls (l : List UInt8) : Nat := Lib.countByte l 10

theorem run_min (a b : Int) (h : a ≤ b) (ats : Array TypeId) (ty : TypeId) (W : World) : (Builtin.min_ ats ty #[.int .i64 a, .int .i64 b]).run Tryd.prog W = .ok (.int .i64 a) W := by
  simp only [Builtin.min_, List.foldlM_cons, List.foldlM_nil, Builtin.min2]
  rw [if_neg (by omega)]
  rfl
theorem run_max (a b : Int) (h : a ≤ b) (ats : Array TypeId) (ty : TypeId) (W : World) : (Builtin.max_ ats ty #[.int .i64 a, .int .i64 b]).run Tryd.prog W = .ok (.int .i64 b) W := by
  simp only [Builtin.max_, List.foldlM_cons, List.foldlM_nil, Builtin.max2]
  by_cases e : a < b
  · rw [if_pos (by omega)]
    rfl
  · rw [if_neg (by omega), show a = b by omega]
    rfl

set_option maxHeartbeats 1000000 in
theorem line_any (s : ByteArray) (k : Nat) (w : World) (hs : s.size ≤ 1048576) (hk : k ≤ s.size) :
    Calls Tryd.prog 14 #[.string s, .int .i64 k] w fun e w' => e = .returned (.int .i64 ((1 + nls (s.data.toList.take k) : Nat) : Int)) ∧ w' = w := by
  have hsl := sl_h s k hk
  have hn : nls (s.data.toList.take k) ≤ s.size := by
    unfold nls Lib.countByte
    refine Nat.le_trans List.count_le_length ?_
    rw [List.length_take, ← Lib.size_eq]
    omega
  have cC := fun W => Tryd.strings_Count_one (bs (s.data.toList.take k)) 10 W
  rw [bs_list] at cC
  obtain ⟨N, hN⟩ : ∃ N, nls (s.data.toList.take k) = N := ⟨_, rfl⟩
  have hN' : Lib.countByte (s.data.toList.take k) 10 = N := hN
  rw [hN] at hn ⊢
  rw [hN'] at cC
  clear hN hN'
  have hmn := run_min (k : Int) (s.size : Int) (by omega)
  have hmx := run_max 0 (k : Int) (by omega)
  go_enter Tryd.func14, Tryd.ntmps14
  go_wp2_with (go_at_call 25; refine (cC _).mono ?_; rintro e w' ⟨rfl, rfl⟩)
  go_ret
  exact ⟨ret_int (by omega), rfl⟩

/-- Block b is a scanner: what is left, the line, whether a semicolon may come. -/
def Sc (w : World) (b : Nat) (l : List UInt8) (line : Int) (semi : Bool) : Prop := w.heap[b]? = some (.cells #[.string (bs l), .int .i64 line, .bool semi] 50 (0, 0))
theorem Sc.c0 {w : World} {b : Nat} {l : List UInt8} {line : Int} {semi : Bool} (h : Sc w b l line semi) : w.cell? ⟨b, 0, none⟩ = some (.string (bs l)) := by rw [Lib.cell_of_heap h]; rfl
theorem Sc.c1 {w : World} {b : Nat} {l : List UInt8} {line : Int} {semi : Bool} (h : Sc w b l line semi) : w.cell? ⟨b, 1, none⟩ = some (.int .i64 line) := by rw [Lib.cell_of_heap h]; rfl
theorem Sc.c2 {w : World} {b : Nat} {l : List UInt8} {line : Int} {semi : Bool} (h : Sc w b l line semi) : w.cell? ⟨b, 2, none⟩ = some (.bool semi) := by rw [Lib.cell_of_heap h]; rfl
theorem Sc.fz {w : World} {b : Nat} {l : List UInt8} {line : Int} {semi : Bool} (h : Sc w b l line semi) (j : Nat) : w.frozen? ⟨b, j, none⟩ = false := Lib.frozen_of_heap h j
theorem Sc.lt {w : World} {b : Nat} {l : List UInt8} {line : Int} {semi : Bool} (h : Sc w b l line semi) : b < w.heap.size := lt_of_block h

theorem Sc.put0 {w : World} {b : Nat} {l l' : List UInt8} {line : Int} {semi : Bool} (h : Sc w b l line semi) : Sc (w.setCell ⟨b, 0, none⟩ (.string (bs l'))) b l' line semi := by
  unfold Sc at *
  simp [World.setCell, Array.getElem?_modify, h]
theorem Sc.put1 {w : World} {b : Nat} {l : List UInt8} {line line' : Int} {semi : Bool} (h : Sc w b l line semi) : Sc (w.setCell ⟨b, 1, none⟩ (.int .i64 line')) b l line' semi := by
  unfold Sc at *
  simp [World.setCell, Array.getElem?_modify, h]
theorem Sc.put2 {w : World} {b : Nat} {l : List UInt8} {line : Int} {semi semi' : Bool} (h : Sc w b l line semi) : Sc (w.setCell ⟨b, 2, none⟩ (.bool semi')) b l line semi' := by
  unfold Sc at *
  simp [World.setCell, Array.getElem?_modify, h]
theorem Sc.drew {w : World} {b : Nat} {l : List UInt8} {line : Int} {semi : Bool} (h : Sc w b l line semi) : Sc w.drew b l line semi := h
theorem Sc.drewN {w : World} {b : Nat} {l : List UInt8} {line : Int} {semi : Bool} (h : Sc w b l line semi) : ∀ n, Sc (w.drewN n) b l line semi
  | 0 => h
  | n + 1 => (h.drewN n).drew
theorem Sc.below {w w' : World} {b : Nat} {l : List UInt8} {line : Int} {semi : Bool} (h : Sc w b l line semi) (hb : Below w.heap.size w w') : Sc w' b l line semi := (hb.block b h.lt).trans h
theorem Sc.alloc {w : World} {b : Nat} {l : List UInt8} {line : Int} {semi : Bool} (h : Sc w b l line semi) (o : Obj) : Sc (w.alloc o) b l line semi := h.below ((Below.refl _ _).alloc (Nat.le_refl _) _)
theorem Sc.setCell {w : World} {b : Nat} {l : List UInt8} {line : Int} {semi : Bool} (h : Sc w b l line semi) (p : Addr) (hp : p.block ≠ b) (v : Value) : Sc (w.setCell p v) b l line semi :=
  (Below.heap_setCell w p v b (fun e => hp e.symm)).trans h

/-- But for block b, what lay lies as it lay. -/
def But (b : Nat) (w w' : World) : Prop := w.grownBy w' (some b)
theorem But.refl (b : Nat) (w : World) : But b w w := ⟨rfl, rfl, rfl, Nat.le_refl _, fun _ _ _ => rfl⟩
theorem But.trans {b : Nat} {w w1 w2 : World} (h : But b w w1) (k : But b w1 w2) : But b w w2 :=
  ⟨k.os.trans h.os, k.tape.trans h.tape, k.output.trans h.output, Nat.le_trans h.size k.size, fun i hi hn => (k.block i (Nat.lt_of_lt_of_le hi h.size) hn).trans (h.block i hi hn)⟩
theorem But.of_below {b : Nat} {w w' : World} (h : Below w.heap.size w w') : But b w w' := ⟨h.os, h.tape, h.output, h.size, fun i hi _ => h.block i hi⟩
theorem But.setCell {b : Nat} {w w1 : World} (h : But b w w1) (o : Nat) (v : Value) : But b w (w1.setCell ⟨b, o, none⟩ v) :=
  h.trans ⟨rfl, rfl, rfl, by simp [World.setCell], fun i hi hn => Below.heap_setCell w1 _ v i (fun e => hn (by rw [e]))⟩
theorem But.alloc {b : Nat} {w w1 : World} (h : But b w w1) (o : Obj) : But b w (w1.alloc o) := h.trans (.of_below ((Below.refl _ _).alloc (Nat.le_refl _) _))
theorem But.drew {b : Nat} {w w1 : World} (h : But b w w1) : But b w w1.drew := ⟨h.os, h.tape, h.output, h.size, h.block⟩
/-- .. and a store into a block that is newer. -/
theorem But.setNew {b : Nat} {w w1 : World} (h : But b w w1) (p : Addr) (hp : w.heap.size ≤ p.block) (v : Value) : But b w (w1.setCell p v) :=
  ⟨h.os, h.tape, h.output, by simp [World.setCell]; exact h.size, fun i hi hn => (Below.heap_setCell w1 _ v i (fun e => by omega)).trans (h.block i hi hn)⟩
/-- From a world on in which the block was not. -/
theorem But.below {b : Nat} {w0 w w' : World} (h : But b w w') (h0 : Below w0.heap.size w0 w) (hb : w0.heap.size ≤ b) : Below w0.heap.size w0 w' :=
  ⟨h.os.trans h0.os, h.tape.trans h0.tape, h.output.trans h0.output, Nat.le_trans h0.size h.size, fun i hi => (h.block i (Nat.lt_of_lt_of_le hi h0.size) (fun e => by cases e; omega)).trans (h0.block i hi)⟩

theorem skip_any (b : Nat) (l : List UInt8) (line : Nat) (semi : Bool) (n : Nat) (w : World) (hl : l.length ≤ 1048576) (hline : line ≤ 1048576) (hn : n ≤ l.length) (h : Sc w b l line semi) :
    Calls Tryd.prog 19 #[.pointer (some ⟨b, 0, none⟩), .int .i64 n] w fun e w' => e = .returned (.tuple #[]) ∧ Sc w' b (l.drop n) ((line + nls (l.take n) : Nat) : Int) semi ∧ But b w w' := by
  have c0 := h.c0
  have c1 := h.c1
  have f0 := h.fz 0
  have f1 := h.fz 1
  have hsl := sl_h (bs l) n (by rw [bs_size]; exact hn)
  have hsl2 := sl_l (bs l) n (by rw [bs_size]; exact hn)
  rw [bs_list] at hsl hsl2
  have hN0 : nls (l.take n) ≤ l.length := by
    unfold nls Lib.countByte
    refine Nat.le_trans List.count_le_length ?_
    rw [List.length_take]
    omega
  have cC := fun W => Tryd.strings_Count_one (bs (l.take n)) 10 W
  rw [bs_list] at cC
  obtain ⟨N, hN⟩ : ∃ N, nls (l.take n) = N := ⟨_, rfl⟩
  have hN' : Lib.countByte (l.take n) 10 = N := hN
  rw [hN] at hN0 ⊢
  rw [hN'] at cC
  clear hN hN'
  go_enter Tryd.func19, Tryd.ntmps19
  go_wp2
  go_region_with (go_at_call 25; refine (cC _).mono ?_; rintro e w' ⟨rfl, rfl⟩)
  all_goals
    go_wp2
    go_end0
    refine ⟨rfl, ?_, ?_⟩
    · have e : ((line + N : Nat) : Int) = (line : Int) + N := by omega
      rw [e]
      exact h.put1.put0
    · exact (((But.refl b w).setCell 1 _).setCell 0 _).drew
end Go.Proofs.YtkcjembmdiaclaaDoor
