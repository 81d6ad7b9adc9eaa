/- The walk of the law ScanLines. -/
import Derived.Test.YtkcjembmdiaclaaDoorLinP
import Derived.Test.YtkcjembmdiaclaaDoorRc
namespace Go.Proofs.YtkcjembmdiaclaaDoor
open Go.RowKit Go.Lib Go.Maps
set_option linter.unusedVariables false
set_option linter.unusedSimpArgs false

/-- Two blocks laid one behind the other, read behind the draw of an order. -/
theorem pair_blocks (w3 : World) (O1 O2 : Obj) : ((w3.alloc O1).alloc O2).heap[w3.heap.size]? = some O1 ∧ ((w3.alloc O1).alloc O2).heap[w3.heap.size + 1]? = some O2 := by
  refine ⟨(Below.heap_alloc (w3.alloc _) _ _ (by simp)).trans (heap_alloc_new w3 _), ?_⟩
  have h := heap_alloc_new (w3.alloc O1) O2
  simpa using h

set_option maxRecDepth 100000 in
set_option maxHeartbeats 4000000 in
theorem lines_big (s : ByteArray) (w : World) (hG : Glob w) (hs : 1024 < s.size) :
    Calls Tryd.prog 4 #[.string s] w fun e w' => e = .returned (.bool true) ∧ Below w.heap.size w w' := by
  have cS := shown_any w hG
  go_enter Tryd.func4, Tryd.ntmps4
  go_wp2_with (go_at_call 9; refine cS.mono ?_; rintro e w1 ⟨rfl, hb1⟩)
  go_ret
  exact ⟨rfl, hb1⟩

set_option maxRecDepth 100000 in
set_option maxHeartbeats 4000000 in
theorem lines_bad (s : ByteArray) (w : World) (hG : Glob w) (hs : s.size ≤ 1024) (p : Nat) (hp : badAt s = some p) :
    Calls Tryd.prog 4 #[.string s] w fun e w' => e = .returned (.bool true) ∧ Below w.heap.size w w' := by
  have cS := shown_any w hG
  obtain ⟨N1, hN1⟩ : ∃ N1 : Nat, 1 + nls (s.data.toList.take p) = N1 := ⟨_, rfl⟩
  have HP := Lib.hid hp
  have HN1 := Lib.hid hN1
  clear hp hN1
  go_enter Tryd.func4, Tryd.ntmps4
  go_upto_region 4 with (first | (go_at_call 9; refine cS.mono ?_; rintro e w1 ⟨rfl, hb1⟩; have hG1 := hG.below hb1) | (go_at_call 10; refine (new_bad s w1 (by omega) hG1 p HP.out N1 HN1.out).mono ?_; rintro e w2 ⟨rfl, hb2⟩; have hbA := hb1.trans (hb2.mono hb1.size); have hbA1 := hbA.alloc hbA.size (.cells #[.int .i64 100, .string ⟨#[]⟩, .int .i64 N1] 26)))
  go_upto_region 5 with (go_at_call 11; refine (rnew_bad s _ (by omega) p HP.out N1 HN1.out).mono ?_; rintro e w3 ⟨rfl, hb3⟩; have hbB := hbA1.trans (hb3.mono hbA1.size))
  have hlt3 : w2.heap.size < w3.heap.size := by have := hb3.size; simp at this; omega
  have hA : (w3.alloc (.cells #[.int .i64 100, .string ⟨#[]⟩, .int .i64 N1] 26)).heap[w2.heap.size]? = some (.cells #[.int .i64 100, .string ⟨#[]⟩, .int .i64 N1] 26 (0, 0)) := (Below.heap_alloc w3 _ _ hlt3).trans ((hb3.block _ (by simp)).trans (heap_alloc_new w2 _))
  have f0 : (w3.alloc (.cells #[.int .i64 100, .string ⟨#[]⟩, .int .i64 N1] 26)).cell? ⟨w2.heap.size, 0, none⟩ = some (.int .i64 100) := by rw [Lib.cell_of_heap hA]; rfl
  have f1 : (w3.alloc (.cells #[.int .i64 100, .string ⟨#[]⟩, .int .i64 N1] 26)).cell? ⟨w2.heap.size, 1, none⟩ = some (.string ⟨#[]⟩) := by rw [Lib.cell_of_heap hA]; rfl
  have f2 : (w3.alloc (.cells #[.int .i64 100, .string ⟨#[]⟩, .int .i64 N1] 26)).cell? ⟨w2.heap.size, 2, none⟩ = some (.int .i64 N1) := by rw [Lib.cell_of_heap hA]; rfl
  clear hA
  go_wp2
  go_ret
  exact ⟨rfl, hbB.alloc hbB.size _⟩

set_option maxRecDepth 100000 in
set_option maxHeartbeats 4000000 in
theorem lines_good (s : ByteArray) (w : World) (hG : Glob w) (hs : s.size ≤ 1024) (hp : badAt s = none) (L1 : List UInt8) (hL1 : Lib.trimPrefix s.data.toList [239, 187, 191] = L1) (hLlen : L1.length ≤ s.size) (N1 : Nat) (hN1 : 1 + nls s.data.toList = N1) (hLN : 1 + nls L1 = N1) :
    Calls Tryd.prog 4 #[.string s] w fun e w' => e = .returned (.bool true) ∧ Below w.heap.size w w' := by
  have cS := shown_any w hG
  have cL := fun W => line_any s s.size W (by omega) (Nat.le_refl _)
  rw [List.take_of_length_le (by rw [Lib.size_eq]; exact Nat.le_refl _), hN1] at cL
  obtain ⟨K0, hK0⟩ : ∃ K0 : Nat, markL s.data.toList = K0 := ⟨_, rfl⟩
  have HP := Lib.hid hp
  have HL1 := Lib.hid hL1
  have HLN := Lib.hid hLN
  have HK0 := Lib.hid hK0
  have hNle : N1 ≤ 1025 := by rw [← hN1]; have := nls_le s.data.toList; rw [← Lib.size_eq] at this; omega
  clear hp hL1 hLN hN1 hK0
  go_enter Tryd.func4, Tryd.ntmps4
  go_upto_region 4 with (first | (go_at_call 9; refine cS.mono ?_; rintro e w1 ⟨rfl, hb1⟩; have hG1 := hG.below hb1) | (go_at_call 10; refine (new_good s w1 (by omega) hG1 HP.out L1 HL1.out).mono ?_; rintro e w2 ⟨bx, hbx, rfl, hsx, hb2⟩; have hbA := hb1.trans (hb2.mono hb1.size); have hbA1 := hbA.alloc hbA.size (.cells #[.int .i64 0, .string ⟨#[]⟩, .int .i64 0] 26)))
  go_upto_region 5 with (go_at_call 11; refine (rnew_good s _ (by omega) HP.out K0 HK0.out).mono ?_; rintro e w3 ⟨bb, hbb, rfl, hsy, hb3⟩; have hbB := hbA1.trans (hb3.mono hbA1.size))
  have hlt3 : w2.heap.size < w3.heap.size := by have := hb3.size; simp at this; omega
  have hA : (w3.alloc (.cells #[.int .i64 0, .string ⟨#[]⟩, .int .i64 0] 26)).heap[w2.heap.size]? = some (.cells #[.int .i64 0, .string ⟨#[]⟩, .int .i64 0] 26 (0, 0)) := (Below.heap_alloc w3 _ _ hlt3).trans ((hb3.block _ (by simp)).trans (heap_alloc_new w2 _))
  have f0 : (w3.alloc (.cells #[.int .i64 0, .string ⟨#[]⟩, .int .i64 0] 26)).cell? ⟨w2.heap.size, 0, none⟩ = some (.int .i64 0) := by rw [Lib.cell_of_heap hA]; rfl
  have f1 : (w3.alloc (.cells #[.int .i64 0, .string ⟨#[]⟩, .int .i64 0] 26)).cell? ⟨w2.heap.size, 1, none⟩ = some (.string ⟨#[]⟩) := by rw [Lib.cell_of_heap hA]; rfl
  have f2 : (w3.alloc (.cells #[.int .i64 0, .string ⟨#[]⟩, .int .i64 0] 26)).cell? ⟨w2.heap.size, 2, none⟩ = some (.int .i64 0) := by rw [Lib.cell_of_heap hA]; rfl
  clear hA
  go_wp2
  clear f0 f1 f2
  have hbC := hbB.alloc hbB.size (.cells #[.int .i64 0, .string ⟨#[]⟩, .int .i64 0] 26)
  have hxlt := hsx.lt
  have hx0 : w.heap.size ≤ bx := Nat.le_trans hb1.size hbx
  have hlt2 := glob_lt hG
  have hsx3 := ((hsx.alloc (.cells #[.int .i64 0, .string ⟨#[]⟩, .int .i64 0] 26)).below hb3).alloc (.cells #[.int .i64 0, .string ⟨#[]⟩, .int .i64 0] 26)
  have h0s : sOf false = 0 := rfl
  clear hsx hsy hbA hbA1 cS
  go_loopg [7, 8] (2 * s.size + 4) (fun gf lv iv wx => ∃ (k last : Nat) (a : List UInt8) (line : Nat) (semi : Bool), lv = .int .i64 last ∧ iv = .int .i64 k ∧ Sc wx bx a line semi ∧ k + 2 * a.length + sOf semi ≤ 2 * s.size ∧ line + a.length ≤ 1025 ∧ last ≤ line ∧ Hid (line + nls a = N1) ∧ Below w.heap.size w wx ∧ 2 * s.size + 4 ≤ k + gf)
  case atStart => exact ⟨0, 1, L1, 1, false, rfl, rfl, hsx3, by omega, by omega, by omega, HLN, hbC, by omega⟩
  case round =>
    obtain ⟨k, last, a, line, semi, rfl, rfl, hsx, hpot, hline, hlast, HA, hbw, hfu⟩ := hrel
    clear hsx3 hbC hbB hb3 HLN
    obtain ⟨g', rfl⟩ : ∃ g', gk = g' + 1 := ⟨gk - 1, by omega⟩
    have hk1 : (k : Int) < 2 * (s.size : Int) + 4 := by omega
    obtain ⟨m, hm⟩ := (hG.below hbw).maxLen
    have hst := nxt_lines a line semi
    cases hN : nxt a line semi with
    | mk kk tt ln e0 el l' line' semi' =>
      rw [hN] at hst
      obtain ⟨hkeep, hlen, hwhat⟩ := hst
      simp only at hkeep hlen hwhat
      have hsum := HA.out
      rcases hwhat with ⟨rfl, rfl, rfl, rfl, hel1, hel2⟩ | ⟨rfl, rfl, hln1, hln2, hkk0, hkk4, htt, hpt⟩
      · have cX := next_is bx a line semi wr (by omega) (by omega) hsx m hm (by omega) 0 [] ⟨#[]⟩ 0 100 el l' line' semi' hN rfl
        have hA1 : (last : Int) ≤ (el : Int) := by omega
        have hA2 : (el : Int) ≤ (N1 : Int) := by omega
        clear hN hkeep hlen hel1 hel2 hsum HA
        go_upto_region 15 with (go_at_call 12; refine cX.mono ?_; rintro e w3 ⟨rfl, hs3, hbt3⟩)
        obtain ⟨hP, hZ⟩ := pair_blocks w3 (.cells #[.int .i64 0, .string ⟨#[]⟩, .int .i64 0] 33) (.cells #[.int .i64 100, .string ⟨#[]⟩, .int .i64 el] 26)
        obtain ⟨⟨p0, p1, p2⟩, _, _, _⟩ := block_cells hP
        obtain ⟨⟨z0, z1, z2⟩, _, _, _⟩ := block_cells hZ
        go_quiet ((go_at_call 14; exact Calls.quiet_of_same (cL _)))
        clear p0 p1 p2 z0 z1 z2
        go_wp2
        have hbw3 := hbt3.below hbw hx0
        go_ret
        exact ⟨rfl, ((hbw3.alloc hbw3.size _).alloc (by have := hbw3.size; simp; omega) _).trans ((below_drewN _ nq).mono (by have := hbw3.size; simp; omega))⟩
      · have hl1 : (last : Int) ≤ (ln : Int) := by omega
        have hl2 : (ln : Int) ≤ (N1 : Int) := by omega
        have hd1 : decide ((ln : Int) < (last : Int)) = false := decide_eq_false (by omega)
        have hd2 : decide ((N1 : Int) < (ln : Int)) = false := decide_eq_false (by omega)
        have he1 : decide (ln < last) = false := decide_eq_false (by omega)
        have he2 : decide (N1 < ln) = false := decide_eq_false (by omega)
        by_cases h0 : kk = 0
        · subst h0
          have ht := htt rfl
          subst ht
          have cX := next_is bx a line semi wr (by omega) (by omega) hsx m hm (by omega) 0 [] ⟨#[]⟩ ln 0 0 l' line' semi' hN rfl
          clear hN hkeep hlen hln1 hln2 hsum HA htt hpt hkk0 hkk4
          go_upto_region 16 with (go_at_call 12; refine cX.mono ?_; rintro e w3 ⟨rfl, hs3, hbt3⟩)
          obtain ⟨hP, hZ⟩ := pair_blocks w3 (.cells #[.int .i64 0, .string ⟨#[]⟩, .int .i64 ln] 33) (.cells #[.int .i64 0, .string ⟨#[]⟩, .int .i64 0] 26)
          obtain ⟨⟨p0, p1, p2⟩, _, _, _⟩ := block_cells hP
          obtain ⟨⟨z0, z1, z2⟩, _, _, _⟩ := block_cells hZ
          go_quiet ((go_at_call 14; exact Calls.quiet_of_same (cL _)))
          clear p0 p1 p2 z0 z1 z2
          go_wp2
          have hbw3 := hbt3.below hbw hx0
          go_ret
          exact ⟨rfl, ((hbw3.alloc hbw3.size _).alloc (by have := hbw3.size; simp; omega) _).trans ((below_drewN _ nq).mono (by have := hbw3.size; simp; omega))⟩
        · have hp2 := hpt h0
          obtain ⟨T, hT⟩ : ∃ T, bs tt = T := ⟨_, rfl⟩
          have cX := next_is bx a line semi wr (by omega) (by omega) hsx m hm (by omega) kk tt T ln 0 0 l' line' semi' hN hT
          have hk0 : (kk == (0 : Int)) = false := by rw [beq_eq_false_iff_ne]; exact h0
          have hd3 : decide (kk < 0) = false := decide_eq_false (by omega)
          have hd4 : decide (4 < kk) = false := decide_eq_false (by omega)
          have HA' := Lib.hid (show line' + nls l' = N1 by omega)
          have HP2 := Lib.hid (And.intro hp2 (And.intro hlen hln2))
          clear hN hkeep hlen hln1 hln2 hsum HA htt hpt h0 hT hp2
          go_upto_region 16 with (go_at_call 12; refine cX.mono ?_; rintro e w3 ⟨rfl, hs3, hbt3⟩)
          obtain ⟨hP, hZ⟩ := pair_blocks w3 (.cells #[.int .i64 kk, .string T, .int .i64 ln] 33) (.cells #[.int .i64 0, .string ⟨#[]⟩, .int .i64 0] 26)
          obtain ⟨⟨p0, p1, p2⟩, _, _, _⟩ := block_cells hP
          obtain ⟨⟨z0, z1, z2⟩, _, _, _⟩ := block_cells hZ
          go_quiet ((go_at_call 14; exact Calls.quiet_of_same (cL _)))
          clear p0 p1 p2 z0 z1 z2
          go_wp2
          obtain ⟨hp2, hlen, hln2⟩ := HP2.out
          have hbw3 := hbt3.below hbw hx0
          go_roundg g'
          case measure => omega
          case rel => exact ⟨k + 1, ln, l', line', semi', rfl, by go_num, ((hs3.alloc _).alloc _).drewN nq, by omega, by omega, by omega, HA', ((hbw3.alloc hbw3.size _).alloc (by have := hbw3.size; simp; omega) _).trans ((below_drewN _ nq).mono (by have := hbw3.size; simp; omega)), by omega⟩
theorem lines_law (s : ByteArray) (w : World) (hG : Glob w) :
    Calls Tryd.prog 4 #[.string s] w fun e w' => e = .returned (.bool true) ∧ Below w.heap.size w w' := by
  by_cases hs : s.size ≤ 1024
  · cases hp : badAt s with
    | some p => exact lines_bad s w hG hs p hp
    | none =>
      have h := trim_split s.data.toList
      refine lines_good s w hG hs hp _ rfl (by rw [Lib.size_eq]; exact h.1) _ rfl (by rw [h.2])
  · exact lines_big s w hG (by omega)
end Go.Proofs.YtkcjembmdiaclaaDoor
