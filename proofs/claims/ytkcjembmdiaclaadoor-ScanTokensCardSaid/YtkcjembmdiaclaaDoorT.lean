/- The program's Next, whole; the walk of the laws' 'shown'. -/
import Derived.Test.YtkcjembmdiaclaaDoorR1
import Derived.Test.YtkcjembmdiaclaaDoorR2
import Derived.Laws.StructEq
namespace Go.Proofs.YtkcjembmdiaclaaDoor
open Go.RowKit Go.Lib Go.Maps
set_option linter.unusedVariables false
set_option linter.unusedSimpArgs false

theorem next_any (b : Nat) (l : List UInt8) (line : Nat) (semi : Bool) (w : World) (hl : l.length ≤ 1048576) (hline : line + l.length ≤ 1048576) (h : Sc w b l line semi) (m : Int) (hm : w.cell? ⟨2, 0, none⟩ = some (.int .i64 m)) (hb2 : 2 < b) :
    Calls Tryd.prog 12 #[.pointer (some ⟨b, 0, none⟩)] w (NextPost w b (nxt l line semi)) := by
  cases semi
  · exact next_f b l line w hl hline h m hm hb2
  · exact next_t b l line w hl hline h m hm hb2

theorem glob_lt {w : World} (h : Glob w) : 2 < w.heap.size := by
  obtain ⟨m, hm⟩ := h.maxLen
  exact cell_below hm
theorem Glob.below {w w' : World} (h : Glob w) (hb : Below w.heap.size w w') : Glob w' := by
  obtain ⟨m, hm⟩ := h.maxLen
  exact ⟨Utf8Tabs_below h.tabs hb, m, maxLen_later hm hb⟩

/-- New at a source that may be. -/
theorem new_good (s : ByteArray) (w : World) (hs : s.size ≤ 1048576) (hG : Glob w) (hbad : badAt s = none) (l : List UInt8) (hl : Lib.trimPrefix s.data.toList [239, 187, 191] = l) :
    Calls Tryd.prog 10 #[.string s] w fun e w' => ∃ b, w.heap.size ≤ b ∧ e = .returned (.tuple #[.pointer (some ⟨b, 0, none⟩), .agg #[.int .i64 0, .string ⟨#[]⟩, .int .i64 0]]) ∧ Sc w' b l 1 false ∧ Below w.heap.size w w' := by
  have h := new_any s w hs hG.tabs
  rw [hbad] at h
  subst hl
  exact h
/-- New at one that may not be. -/
theorem new_bad (s : ByteArray) (w : World) (hs : s.size ≤ 1048576) (hG : Glob w) (p : Nat) (hbad : badAt s = some p) (n : Nat) (hn : 1 + nls (s.data.toList.take p) = n) :
    Calls Tryd.prog 10 #[.string s] w fun e w' => e = .returned (.tuple #[.pointer none, .agg #[.int .i64 100, .string ⟨#[]⟩, .int .i64 n]]) ∧ Below w.heap.size w w' := by
  have h := new_any s w hs hG.tabs
  rw [hbad] at h
  subst hn
  exact h
/-- Next, its token and its fault told. -/
theorem next_is (b : Nat) (l : List UInt8) (line : Nat) (semi : Bool) (w : World) (hl : l.length ≤ 1048576) (hline : line + l.length ≤ 1048576) (h : Sc w b l line semi) (m : Int) (hm : w.cell? ⟨2, 0, none⟩ = some (.int .i64 m)) (hb2 : 2 < b)
    (k : Int) (t : List UInt8) (T : ByteArray) (ln : Nat) (e0 : Int) (el : Nat) (l' : List UInt8) (line' : Nat) (semi' : Bool) (hr : nxt l line semi = ⟨k, t, ln, e0, el, l', line', semi'⟩) (hT : bs t = T) :
    Calls Tryd.prog 12 #[.pointer (some ⟨b, 0, none⟩)] w fun e w' => e = .returned (.tuple #[.agg #[.int .i64 k, .string T, .int .i64 ln], .agg #[.int .i64 e0, .string ⟨#[]⟩, .int .i64 el]]) ∧ Sc w' b l' line' semi' ∧ But b w w' := by
  have h := next_any b l line semi w hl hline h m hm hb2
  rw [hr] at h
  subst hT
  exact h

set_option maxRecDepth 100000 in
set_option maxHeartbeats 4000000 in
theorem shown_any (w : World) (hG : Glob w) : Calls Tryd.prog 9 #[] w fun e w' => e = .returned (.bool true) ∧ Below w.heap.size w w' := by
  have hbad : badAt ⟨#[97]⟩ = none := by decide
  have cN := new_good ⟨#[97]⟩ w (by decide) hG hbad [97] (by decide)
  have hlt := glob_lt hG
  have hx : nxt [97] 1 false = ⟨1, [97], 1, 0, 0, [], 1, true⟩ := by kernel_rfl
  have HX := Lib.hid hx
  clear hbad hx
  have HGl := Lib.hid hG
  go_enter Tryd.func9, Tryd.ntmps9
  go_wp2_with (first | (go_at_call 10; refine cN.mono ?_; rintro e w1 ⟨b, hb, rfl, hs1, hb1⟩; have hG1 := hG.below (hb1.alloc hb1.size (.cells #[.int .i64 0, .string ⟨#[]⟩, .int .i64 0] 26)); obtain ⟨m, hm1⟩ := hG1.maxLen) | (go_at_call 12; refine (next_is b [97] 1 false _ (by decide) (by decide) (hs1.alloc _) m hm1 (by omega) 1 [97] ⟨#[97]⟩ 1 0 0 [] 1 true HX.out rfl).mono ?_; rintro e w2 ⟨rfl, hs2, hb2⟩))
  go_ret
  exact ⟨rfl, ((hb2.below (hb1.alloc hb1.size _) hb).alloc (hb2.below (hb1.alloc hb1.size _) hb).size _).alloc (by have := (hb2.below (hb1.alloc hb1.size _) hb).size; simp; omega) _⟩
end Go.Proofs.YtkcjembmdiaclaaDoor
