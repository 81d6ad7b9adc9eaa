/- The walk of the program's token, case by case. -/
import Derived.Test.YtkcjembmdiaclaaDoorB
import Derived.Test.YtkcjembmdiaclaaDoorJ
import Derived.Test.YtkcjembmdiaclaaDoorK
import Derived.Laws.ResultCell
namespace Go.Proofs.YtkcjembmdiaclaaDoor
open Go.RowKit Go.Lib Go.Maps
set_option linter.unusedVariables false
set_option linter.unusedSimpArgs false

/-- What the package variables of the library hold. -/
structure Glob (w : World) : Prop where
  tabs : Lib.Utf8Tabs 0 1 w
  maxLen : ∃ m, w.cell? ⟨2, 0, none⟩ = some (.int .i64 m)

def stopN (x : Nat) : Bool := !letterN x && !digitN x
theorem stop_any (r : Int) (w : World) (h0 : 0 ≤ r) :
    Calls Tryd.prog 30 #[.int .i32 r] w fun e w' => e = .returned (.bool (stopN r.toNat)) ∧ w' = w := by
  have cl := fun W => letter_any r W h0
  have cd := fun W => digit_any r W h0
  unfold stopN
  obtain ⟨a, ha⟩ : ∃ a, letterN r.toNat = a := ⟨_, rfl⟩
  obtain ⟨b, hb⟩ : ∃ b, digitN r.toNat = b := ⟨_, rfl⟩
  rw [ha] at cl ⊢
  rw [hb] at cd ⊢
  clear ha hb
  cases a
  · go_enter Tryd.func30, Tryd.ntmps30
    go_wp2_with (first | (go_at_call 28; refine (cl _).mono ?_; rintro e w' ⟨rfl, rfl⟩) | (go_at_call 31; refine (cd _).mono ?_; rintro e w' ⟨rfl, rfl⟩))
    go_ret
    exact ⟨ret_bool (by simp), rfl⟩
  · go_enter Tryd.func30, Tryd.ntmps30
    go_wp2_with (first | (go_at_call 28; refine (cl _).mono ?_; rintro e w' ⟨rfl, rfl⟩) | (go_at_call 31; refine (cd _).mono ?_; rintro e w' ⟨rfl, rfl⟩))
    go_ret
    exact ⟨ret_bool (by simp), rfl⟩
theorem stop_pays (w : World) : PredAtRunes Tryd.prog 30 #[] stopN w := fun W x hx hb => by
  have h := stop_any (x : Int) W (by omega)
  unfold FnGives
  refine h.mono ?_
  rintro e w' ⟨rfl, rfl⟩
  exact ⟨by simp, 0, rfl⟩

/-- A token of a text, as the program hands it back: without its line; how many bytes it takes. -/
def tokV (k : Int) (t : List UInt8) (n : Int) : Value := .tuple #[.agg #[.int .i64 k, .string (bs t), .int .i64 0], .int .i64 n]

/-- The three cells of a struct of the call's own, in a later world. -/
theorem three_cells {w w1 : World} {a b c : Value} {T : TypeId} (h : Below (w.alloc (.cells #[a, b, c] T)).heap.size (w.alloc (.cells #[a, b, c] T)) w1) :
    (w1.cell? ⟨w.heap.size, 0, none⟩ = some a ∧ w1.cell? ⟨w.heap.size, 1, none⟩ = some b ∧ w1.cell? ⟨w.heap.size, 2, none⟩ = some c) ∧ w1.frozen? ⟨w.heap.size, 0, none⟩ = false ∧ w1.frozen? ⟨w.heap.size, 1, none⟩ = false ∧ w1.frozen? ⟨w.heap.size, 2, none⟩ = false := by
  have hb : w1.heap[w.heap.size]? = some (.cells #[a, b, c] T (0, 0)) := (h.block _ (by simp)).trans (heap_alloc_new w _)
  refine ⟨⟨?_, ?_, ?_⟩, Lib.frozen_of_heap hb 0, Lib.frozen_of_heap hb 1, Lib.frozen_of_heap hb 2⟩ <;> (rw [Lib.cell_of_heap hb]; rfl)

theorem token_empty (w : World) : Calls Tryd.prog 21 #[.string ⟨#[]⟩] w fun e w' => e = .returned (tokV 0 [] 0) ∧ Below w.heap.size w w' := by
  go_enter Tryd.func21, Tryd.ntmps21
  go_wp2
  exact bodyPost_ret (v := .tuple #[.agg #[.int .i64 0, .string ⟨#[]⟩, .int .i64 0], .int .i64 0]) (by simp [results, Tryd.results21, go_sem]) rfl ⟨rfl, (Below.refl _ _).alloc (Nat.le_refl _) _⟩

set_option maxRecDepth 100000 in
set_option maxHeartbeats 1000000 in
/-- A name. -/
theorem token_name (s : ByteArray) (w : World) (hs : s.size ≤ 1048576) (h0 : 0 < s.size) (c : Nat) (hc : (s[0]'h0).toNat = c) (hl : letterN c = true) (n : Nat) (hn : n ≤ s.size) (hi : Lib.idxFunc stopN true s = if n = s.size then -1 else (n : Int)) :
    Calls Tryd.prog 21 #[.string s] w fun e w' => e = .returned (tokV 1 (s.data.toList.take n) n) ∧ Below w.heap.size w w' := by
  have hc256 : c < 256 := by rw [← hc]; exact UInt8.toNat_lt _
  have hemp := not_empty h0
  have cl := fun W => letter_any (c : Int) W (by omega)
  rw [Int.toNat_natCast, hl] at cl
  have cF := fun W => Tryd.strings_IndexFunc_runes 30 #[] (enters_of Tryd.func30 (by kernel_rfl) rfl) stopN s W (stop_pays W)
  have hsl := sl_h s n hn
  obtain ⟨T, hT⟩ : ∃ T, bs (s.data.toList.take n) = T := ⟨_, rfl⟩
  unfold tokV
  rw [hT] at hsl ⊢
  clear hT hl
  have hbel : Below w.heap.size w (w.alloc (.cells #[.int .i64 0, .string ⟨#[]⟩, .int .i64 0] 33)) := (Below.refl _ _).alloc (Nat.le_refl _) _
  by_cases he : n = s.size
  · subst he
    rw [if_pos rfl] at hi
    rw [hi] at cF
    clear hi
    go_enter Tryd.func21, Tryd.ntmps21
    go_wp2_with (first | (go_at_call 28; refine (cl _).mono ?_; rintro e w' ⟨rfl, rfl⟩) | (go_at_call 29; refine (cF _).mono ?_; rintro e w1 ⟨rfl, hb1⟩; obtain ⟨⟨k0, k1, k2⟩, q0, q1, q2⟩ := three_cells hb1))
    refine bodyPost_ret (v := .tuple #[.agg #[.int .i64 1, .string T, .int .i64 0], .int .i64 s.size]) (by simp [results, Tryd.results21, go_sem, k0, k1, k2, q0, q1, q2]) rfl ⟨rfl, ?_⟩
    exact (((hbel.trans (hb1.mono (by simp))).setCell (by simp) _).setCell (by simp) _).setCell (by simp) _
  · rw [if_neg he] at hi
    rw [hi] at cF
    clear hi he
    go_enter Tryd.func21, Tryd.ntmps21
    go_wp2_with (first | (go_at_call 28; refine (cl _).mono ?_; rintro e w' ⟨rfl, rfl⟩) | (go_at_call 29; refine (cF _).mono ?_; rintro e w1 ⟨rfl, hb1⟩; obtain ⟨⟨k0, k1, k2⟩, q0, q1, q2⟩ := three_cells hb1))
    refine bodyPost_ret (v := .tuple #[.agg #[.int .i64 1, .string T, .int .i64 0], .int .i64 n]) (by simp [results, Tryd.results21, go_sem, k0, k1, k2, q0, q1, q2]) rfl ⟨rfl, ?_⟩
    exact (((hbel.trans (hb1.mono (by simp))).setCell (by simp) _).setCell (by simp) _).setCell (by simp) _

theorem unquote_some (s : ByteArray) (w : World) (hs : s.size ≤ 1048576) (u : List UInt8) (hu : unquoteL s.data.toList = some u) :
    Calls Tryd.prog 35 #[.string s] w fun e w' => e = .returned (.tuple #[.string (bs u), .bool true]) ∧ Below w.heap.size w w' := by
  have h := unquote_any s w hs
  rw [hu] at h
  exact h
theorem unquote_none (s : ByteArray) (w : World) (hs : s.size ≤ 1048576) (hu : unquoteL s.data.toList = none) :
    Calls Tryd.prog 35 #[.string s] w fun e w' => e = .returned (.tuple #[.string (bs []), .bool false]) ∧ Below w.heap.size w w' := by
  have h := unquote_any s w hs
  rw [hu] at h
  exact h
theorem cut_any (s sep : ByteArray) (w : World) (hs : s.size ≤ 1048576) (m : Int) (hm : w.cell? ⟨2, 0, none⟩ = some (.int .i64 m)) (a b : List UInt8) (c : Bool) (hc : Lib.cut s.data.toList sep.data.toList = (a, b, c)) :
    Calls Tryd.prog 32 #[.string s, .string sep] w fun e w' => e = .returned (.tuple #[.string (bs a), .string (bs b), .bool c]) ∧ Below w.heap.size w w' := by
  have h := Tryd.strings_Cut s sep m w (by omega) hm
  rw [hc] at h
  refine h.mono ?_
  rintro e w' ⟨rfl, n, rfl⟩
  exact ⟨rfl, below_drewN w n⟩
theorem cell_below {w : World} {b o : Nat} {v : Value} (h : w.cell? ⟨b, o, none⟩ = some v) : b < w.heap.size := by
  rcases Nat.lt_or_ge b w.heap.size with h' | h'
  · exact h'
  · simp [World.cell?, Array.getElem?_eq_none h'] at h
/-- The library's variable in a later world. -/
theorem maxLen_later {w W : World} {m : Int} (hm : w.cell? ⟨2, 0, none⟩ = some (.int .i64 m)) (hb : Below w.heap.size w W) : W.cell? ⟨2, 0, none⟩ = some (.int .i64 m) := by
  rw [hb.cell (p := ⟨2, 0, none⟩) (cell_below hm)]
  exact hm

set_option maxRecDepth 100000 in
set_option maxHeartbeats 1000000 in
/-- A text in backquotes. -/
theorem token_raw (s : ByteArray) (w : World) (hs : s.size ≤ 1048576) (m : Int) (hm : w.cell? ⟨2, 0, none⟩ = some (.int .i64 m)) (h0 : 0 < s.size) (c : Nat) (hc : (s[0]'h0).toNat = c) (hl : letterN c = false) (h96 : ((c : Int) == 96) = true)
    (a b : List UInt8) (hcut : Lib.cut (s.data.toList.drop 1) [96] = (a, b, true)) (hal : a.length ≤ s.size) :
    Calls Tryd.prog 21 #[.string s] w fun e w' => e = .returned (tokV 2 (Lib.replaceAll a [13] []) (a.length + 2 : Int)) ∧ Below w.heap.size w w' := by
  have hc256 : c < 256 := by rw [← hc]; exact UInt8.toNat_lt _
  have hemp := not_empty h0
  have cl := fun W => letter_any (c : Int) W (by omega)
  rw [Int.toNat_natCast, hl] at cl
  have hsl : ∀ W, (Instr.slice 9 (.string s) (some (.int .i64 1)) none none).run Tryd.prog W = .ok (.string (bs (s.data.toList.drop 1))) W := sl_l s 1 (by omega)
  have cC := fun W (hW : Below w.heap.size w W) => cut_any (bs (s.data.toList.drop 1)) ⟨#[96]⟩ W (by rw [bs_size, List.length_drop, ← Lib.size_eq]; omega) m (maxLen_later hm hW) a b true (by rw [bs_list]; exact hcut)
  have cR := fun W (hW : Below w.heap.size w W) => Tryd.strings_ReplaceAll (bs a) ⟨#[13]⟩ ⟨#[]⟩ m W (by rw [bs_size]; omega) (maxLen_later hm hW) (by decide) (by rw [bs_size]; show a.length + _ * 0 ≤ _; omega)
  rw [bs_list] at cR
  obtain ⟨T, hT⟩ : ∃ T, bs (Lib.replaceAll a [13] []) = T := ⟨_, rfl⟩
  have hT' : (⟨(Lib.replaceAll a (⟨#[13]⟩ : ByteArray).data.toList (⟨#[]⟩ : ByteArray).data.toList).toArray⟩ : ByteArray) = T := hT
  rw [hT'] at cR
  have hA : (bs a).size = a.length := bs_size a
  obtain ⟨A, hA'⟩ : ∃ A, bs a = A := ⟨_, rfl⟩
  obtain ⟨S1, hS1⟩ : ∃ S1, bs (s.data.toList.drop 1) = S1 := ⟨_, rfl⟩
  rw [hA'] at cR hA cC
  rw [hS1] at hsl cC
  unfold tokV
  rw [hT]
  have hAA := Lib.hid hA
  have hal2 : A.size ≤ s.size := by omega
  have e : (a.length : Int) + 2 = (A.size : Int) + 2 := by omega
  rw [e]
  have hbel : Below w.heap.size w (w.alloc (.cells #[.int .i64 0, .string ⟨#[]⟩, .int .i64 0] 33)) := (Below.refl _ _).alloc (Nat.le_refl _) _
  clear hT hT' hA' hS1 hl hA hcut hal e
  go_enter Tryd.func21, Tryd.ntmps21
  go_wp2_with (first | (go_at_call 28; refine (cl _).mono ?_; rintro e w' ⟨rfl, rfl⟩) | (go_at_call 32; refine (cC _ hbel).mono ?_; rintro e w1 ⟨rfl, hb1⟩) | (go_at_call 33; refine (cR _ (hbel.trans (hb1.mono (by simp)))).mono ?_; rintro e w2 ⟨rfl, hb2⟩; obtain ⟨⟨k0, k1, k2⟩, q0, q1, q2⟩ := three_cells (hb1.trans (hb2.mono hb1.size))))
  refine bodyPost_ret (v := .tuple #[.agg #[.int .i64 2, .string T, .int .i64 0], .int .i64 (A.size + 2)]) (by simp [results, Tryd.results21, go_sem, k0, k1, k2, q0, q1, q2]) rfl ⟨rfl, ?_⟩
  exact ((((hbel.trans (hb1.mono (by simp))).trans (hb2.mono (Nat.le_trans (by simp) hb1.size))).setCell (by simp) _).setCell (by simp) _).setCell (by simp) _

set_option maxRecDepth 100000 in
set_option maxHeartbeats 1000000 in
/-- A backquote with no end. -/
theorem token_raw_none (s : ByteArray) (w : World) (hs : s.size ≤ 1048576) (m : Int) (hm : w.cell? ⟨2, 0, none⟩ = some (.int .i64 m)) (h0 : 0 < s.size) (c : Nat) (hc : (s[0]'h0).toNat = c) (hl : letterN c = false) (h96 : ((c : Int) == 96) = true)
    (a b : List UInt8) (hcut : Lib.cut (s.data.toList.drop 1) [96] = (a, b, false)) :
    Calls Tryd.prog 21 #[.string s] w fun e w' => e = .returned (tokV 0 [] (-1)) ∧ Below w.heap.size w w' := by
  have hc256 : c < 256 := by rw [← hc]; exact UInt8.toNat_lt _
  have hemp := not_empty h0
  have cl := fun W => letter_any (c : Int) W (by omega)
  rw [Int.toNat_natCast, hl] at cl
  have hsl : ∀ W, (Instr.slice 9 (.string s) (some (.int .i64 1)) none none).run Tryd.prog W = .ok (.string (bs (s.data.toList.drop 1))) W := sl_l s 1 (by omega)
  have cC := fun W (hW : Below w.heap.size w W) => cut_any (bs (s.data.toList.drop 1)) ⟨#[96]⟩ W (by rw [bs_size, List.length_drop, ← Lib.size_eq]; omega) m (maxLen_later hm hW) a b false (by rw [bs_list]; exact hcut)
  obtain ⟨S1, hS1⟩ : ∃ S1, bs (s.data.toList.drop 1) = S1 := ⟨_, rfl⟩
  rw [hS1] at hsl cC
  have hbel : Below w.heap.size w (w.alloc (.cells #[.int .i64 0, .string ⟨#[]⟩, .int .i64 0] 33)) := (Below.refl _ _).alloc (Nat.le_refl _) _
  clear hS1 hl hcut
  go_enter Tryd.func21, Tryd.ntmps21
  go_wp2_with (first | (go_at_call 28; refine (cl _).mono ?_; rintro e w' ⟨rfl, rfl⟩) | (go_at_call 32; refine (cC _ hbel).mono ?_; rintro e w1 ⟨rfl, hb1⟩; obtain ⟨⟨k0, k1, k2⟩, q0, q1, q2⟩ := three_cells hb1))
  refine bodyPost_ret (v := .tuple #[.agg #[.int .i64 0, .string ⟨#[]⟩, .int .i64 0], .int .i64 (-1)]) (by simp [results, Tryd.results21, go_sem, k0, k1, k2, q0, q1, q2]) rfl ⟨rfl, ?_⟩
  exact (((hbel.trans (hb1.mono (by simp))).setCell (by simp) _).setCell (by simp) _).setCell (by simp) _
end Go.Proofs.YtkcjembmdiaclaaDoor
