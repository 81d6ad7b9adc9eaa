/- The walk of the law ScanTokens. -/
import Derived.Test.YtkcjembmdiaclaaDoorTokP
namespace Go.Proofs.YtkcjembmdiaclaaDoor
open Go.RowKit Go.Lib Go.Maps
set_option linter.unusedVariables false
set_option linter.unusedSimpArgs false

theorem Sc.but' {w w' : World} {b b' : Nat} {l : List UInt8} {line : Int} {semi : Bool} (h : Sc w b l line semi) (k : But b' w w') (hne : b ≠ b') : Sc w' b l line semi :=
  (k.block b h.lt (fun e => hne (by injection e))).trans h
/-- A block, two blocks later. -/
theorem two_later {w4 : World} {i : Nat} {o : Obj} (h : w4.heap[i]? = some o) (A B : Obj) : ((w4.alloc A).alloc B).heap[i]? = some o :=
  (Below.heap_alloc (w4.alloc _) _ _ (by have := lt_of_block h; simp; omega)).trans ((Below.heap_alloc w4 _ _ (lt_of_block h)).trans h)
theorem Sc.two {w : World} {b : Nat} {l : List UInt8} {line : Int} {semi : Bool} (h : Sc w b l line semi) (A B : Obj) : Sc ((w.alloc A).alloc B) b l line semi := (h.alloc A).alloc B
theorem RSc.two {w : World} {b : Nat} {s : ByteArray} {at_ : Int} {semi : Bool} (h : RSc w b s at_ semi) (A B : Obj) : RSc ((w.alloc A).alloc B) b s at_ semi := (h.alloc A).alloc B
theorem below_two {w W : World} (h : Below w.heap.size w W) (A B : Obj) : Below w.heap.size w ((W.alloc A).alloc B) := (h.alloc h.size _).alloc (by have := h.size; simp; omega) _

set_option maxRecDepth 100000 in
set_option maxHeartbeats 4000000 in
theorem tokens_big (s : ByteArray) (w : World) (hG : Glob w) (hs : 1024 < s.size) :
    Calls Tryd.prog 3 #[.string s] w fun e w' => e = .returned (.bool true) ∧ Below w.heap.size w w' := by
  have cS := shown_any w hG
  go_enter Tryd.func3, Tryd.ntmps3
  go_wp2_with (go_at_call 9; refine cS.mono ?_; rintro e w1 ⟨rfl, hb1⟩)
  go_ret
  exact ⟨rfl, hb1⟩

set_option maxRecDepth 100000 in
set_option maxHeartbeats 4000000 in
theorem tokens_bad (s : ByteArray) (w : World) (hG : Glob w) (hs : s.size ≤ 1024) (p : Nat) (hp : badAt s = some p) :
    Calls Tryd.prog 3 #[.string s] w fun e w' => e = .returned (.bool true) ∧ Below w.heap.size w w' := by
  have cS := shown_any w hG
  obtain ⟨N1, hN1⟩ : ∃ N1 : Nat, 1 + nls (s.data.toList.take p) = N1 := ⟨_, rfl⟩
  have HP := Lib.hid hp
  have HN1 := Lib.hid hN1
  clear hp hN1
  go_enter Tryd.func3, Tryd.ntmps3
  go_upto_region 4 with (first | (go_at_call 9; refine cS.mono ?_; rintro e w1 ⟨rfl, hb1⟩; have hG1 := hG.below hb1) | (go_at_call 10; refine (new_bad s w1 (by omega) hG1 p HP.out N1 HN1.out).mono ?_; rintro e w2 ⟨rfl, hb2⟩; have hbA := hb1.trans (hb2.mono hb1.size); have hbA1 := hbA.alloc hbA.size (.cells #[.int .i64 100, .string ⟨#[]⟩, .int .i64 N1] 26)))
  go_upto_region 5 with (go_at_call 11; refine (rnew_bad s _ (by omega) p HP.out N1 HN1.out).mono ?_; rintro e w3 ⟨rfl, hb3⟩; have hbB := hbA1.trans (hb3.mono hbA1.size))
  have hlt3 : w2.heap.size < w3.heap.size := by have := hb3.size; simp at this; omega
  have hA : (w3.alloc (.cells #[.int .i64 100, .string ⟨#[]⟩, .int .i64 N1] 26)).heap[w2.heap.size]? = some (.cells #[.int .i64 100, .string ⟨#[]⟩, .int .i64 N1] 26 (0, 0)) := (Below.heap_alloc w3 _ _ hlt3).trans ((hb3.block _ (by simp)).trans (heap_alloc_new w2 _))
  have f0 : (w3.alloc (.cells #[.int .i64 100, .string ⟨#[]⟩, .int .i64 N1] 26)).cell? ⟨w2.heap.size, 0, none⟩ = some (.int .i64 100) := by rw [Lib.cell_of_heap hA]; rfl
  have f1 : (w3.alloc (.cells #[.int .i64 100, .string ⟨#[]⟩, .int .i64 N1] 26)).cell? ⟨w2.heap.size, 1, none⟩ = some (.string ⟨#[]⟩) := by rw [Lib.cell_of_heap hA]; rfl
  have f2 : (w3.alloc (.cells #[.int .i64 100, .string ⟨#[]⟩, .int .i64 N1] 26)).cell? ⟨w2.heap.size, 2, none⟩ = some (.int .i64 N1) := by rw [Lib.cell_of_heap hA]; rfl
  clear hA
  go_wp2
  go_loopg [7] 0 (fun gf iv wx => iv = .int .i64 0 ∧ Below w.heap.size w wx)
  case atStart => exact ⟨rfl, hbB.alloc hbB.size _⟩
  case round =>
    obtain ⟨rfl, hbw⟩ := hrel
    go_wp2
    go_ret
    exact ⟨rfl, hbw⟩

set_option maxRecDepth 100000 in
set_option maxHeartbeats 8000000 in
theorem tokens_good (s : ByteArray) (w : World) (hG : Glob w) (hs : s.size ≤ 1024) (hp : badAt s = none) (K0 : Nat) (hK0 : markL s.data.toList = K0) (hK0s : K0 ≤ s.size) (hL1 : Lib.trimPrefix s.data.toList [239, 187, 191] = s.data.toList.drop K0) (hn0 : 1 + nls (s.data.toList.take K0) = 1) :
    Calls Tryd.prog 3 #[.string s] w fun e w' => e = .returned (.bool true) ∧ Below w.heap.size w w' := by
  have cS := shown_any w hG
  have HP := Lib.hid hp
  have HL1 := Lib.hid hL1
  have HN0 := Lib.hid hn0
  have HK0 := Lib.hid hK0
  clear hp hL1 hn0 hK0
  obtain ⟨L1, hLL⟩ : ∃ L1, s.data.toList.drop K0 = L1 := ⟨_, rfl⟩
  have HL2 : Hid (Lib.trimPrefix s.data.toList [239, 187, 191] = L1) := by rw [← hLL]; exact HL1
  have HLL := Lib.hid hLL
  clear HL1 hLL
  go_enter Tryd.func3, Tryd.ntmps3
  go_upto_region 4 with (first | (go_at_call 9; refine cS.mono ?_; rintro e w1 ⟨rfl, hb1⟩; have hG1 := hG.below hb1) | (go_at_call 10; refine (new_good s w1 (by omega) hG1 HP.out L1 HL2.out).mono ?_; rintro e w2 ⟨bx, hbx, rfl, hsx, hb2⟩; have hbA := hb1.trans (hb2.mono hb1.size); have hbA1 := hbA.alloc hbA.size (.cells #[.int .i64 0, .string ⟨#[]⟩, .int .i64 0] 26)))
  go_upto_region 5 with (go_at_call 11; refine (rnew_good s _ (by omega) HP.out K0 HK0.out).mono ?_; rintro e w3 ⟨bb, hbb, rfl, hsy, hb3⟩; have hbB := hbA1.trans (hb3.mono hbA1.size))
  have hlt3 : w2.heap.size < w3.heap.size := by have := hb3.size; simp at this; omega
  have hA : (w3.alloc (.cells #[.int .i64 0, .string ⟨#[]⟩, .int .i64 0] 26)).heap[w2.heap.size]? = some (.cells #[.int .i64 0, .string ⟨#[]⟩, .int .i64 0] 26 (0, 0)) := (Below.heap_alloc w3 _ _ hlt3).trans ((hb3.block _ (by simp)).trans (heap_alloc_new w2 _))
  have f0 : (w3.alloc (.cells #[.int .i64 0, .string ⟨#[]⟩, .int .i64 0] 26)).cell? ⟨w2.heap.size, 0, none⟩ = some (.int .i64 0) := by rw [Lib.cell_of_heap hA]; rfl
  have f1 : (w3.alloc (.cells #[.int .i64 0, .string ⟨#[]⟩, .int .i64 0] 26)).cell? ⟨w2.heap.size, 1, none⟩ = some (.string ⟨#[]⟩) := by rw [Lib.cell_of_heap hA]; rfl
  have f2 : (w3.alloc (.cells #[.int .i64 0, .string ⟨#[]⟩, .int .i64 0] 26)).cell? ⟨w2.heap.size, 2, none⟩ = some (.int .i64 0) := by rw [Lib.cell_of_heap hA]; rfl
  clear hA
  go_wp2
  clear f0 f1 f2
  have hbC := hbB.alloc hbB.size (.cells #[.int .i64 0, .string ⟨#[]⟩, .int .i64 0] 26)
  have hxlt := hsx.lt
  have hx0 : w.heap.size ≤ bx := Nat.le_trans hb1.size hbx
  have hy0 : w.heap.size ≤ bb := Nat.le_trans hbA1.size hbb
  have hxy : bx < bb := by have h := hbb; simp at h; omega
  have hlt2 := glob_lt hG
  have hsx3 := ((hsx.alloc (.cells #[.int .i64 0, .string ⟨#[]⟩, .int .i64 0] 26)).below hb3).alloc (.cells #[.int .i64 0, .string ⟨#[]⟩, .int .i64 0] 26)
  have hsy3 := hsy.alloc (.cells #[.int .i64 0, .string ⟨#[]⟩, .int .i64 0] 26)
  clear hsx hsy hbA hbA1 cS hbx hbb
  go_loopg [7] (2 * s.size + 4) (fun gf iv wx => ∃ (k at_ : Nat) (a : List UInt8) (line : Nat) (semi : Bool), iv = .int .i64 k ∧ k ≤ 2 * s.size + 4 ∧ at_ ≤ s.size ∧ Sc wx bx a line semi ∧ RSc wx bb s at_ semi ∧ Hid (s.data.toList.drop at_ = a ∧ 1 + nls (s.data.toList.take at_) = line) ∧ Below w.heap.size w wx ∧ 2 * s.size + 4 ≤ k + gf)
  case atStart => exact ⟨0, K0, L1, 1, false, rfl, by omega, hK0s, hsx3, hsy3, ⟨HLL.out, HN0.out⟩, hbC, by omega⟩
  case round =>
    obtain ⟨k, at_, a, line, semi, rfl, hkb, hat, hsx, hsy, HA, hbw, hfu⟩ := hrel
    clear hsx3 hsy3 hbC hbB hb3
    by_cases hk : k < 2 * s.size + 4
    · obtain ⟨g', rfl⟩ : ∃ g', gk = g' + 1 := ⟨gk - 1, by omega⟩
      have hk1 : (k : Int) < 2 * (s.size : Int) + 4 := by omega
      obtain ⟨m, hm⟩ := (hG.below hbw).maxLen
      obtain ⟨hHa, hHl⟩ := HA.out
      have hal : a.length ≤ 1024 := by rw [← hHa, List.length_drop, ← Lib.size_eq]; omega
      have hll : line ≤ 1025 := by have := nls_take_le s.data.toList at_; omega
      have hst := nxt_lines a line semi
      have hag := nxt_again a line semi
      cases hN : nxt a line semi with
      | mk kk tt ln e0 el l' line' semi' =>
        have hNr : nxt (s.data.toList.drop at_) (1 + nls (s.data.toList.take at_)) semi = ⟨kk, tt, ln, e0, el, l', line', semi'⟩ := by rw [hHa, hHl]; exact hN
        rw [hN] at hst hag
        obtain ⟨hkeep, hlen, hwhat⟩ := hst
        simp only at hkeep hlen hwhat hag
        have hylt := hsy.lt
        have hxltr := hsx.lt
        rcases hwhat with ⟨rfl, rfl, rfl, rfl, hel1, hel2⟩ | ⟨rfl, rfl, hln1, hln2, hkk0, hkk4, htt, hpt⟩
        · -- a fault
          obtain ⟨l'', line'', semi'', hag⟩ := hag (.inl (by decide))
          have cX := next_is bx a line semi wr (by omega) (by omega) hsx m hm (by omega) 0 [] ⟨#[]⟩ 0 100 el l' line' semi' hN rfl
          have HNR := Lib.hid hNr
          have HAG := Lib.hid hag
          have HLEN := Lib.hid hlen
          clear hN hNr hag hkeep hlen hel1 hel2 hHa hHl HA
          go_upto_region 11 with (go_at_call 12; refine cX.mono ?_; rintro e w3 ⟨rfl, hs3, hbt3⟩)
          have hA3 := hbt3.size
          go_upto_region 12 with (go_at_call 13; refine (rnext_bad bb s at_ semi _ (by omega) ((hsy.but hbt3 (by omega)).two _ _) hat el l' line' semi' HNR.out).mono ?_; rintro e w4 ⟨rfl, hbt4⟩)
          have hbw3 := hbt3.below hbw hx0
          have hbwA := below_two hbw3 (.cells #[.int .i64 0, .string ⟨#[]⟩, .int .i64 0] 33) (.cells #[.int .i64 100, .string ⟨#[]⟩, .int .i64 el] 26)
          have hbw4 := hbt4.below hbwA hy0
          have hbwB := below_two hbw4 (.cells #[.int .i64 0, .string ⟨#[]⟩, .int .i64 0] 36) (.cells #[.int .i64 100, .string ⟨#[]⟩, .int .i64 el] 26)
          obtain ⟨hP, hQ⟩ := pair_blocks2 w3 (.cells #[.int .i64 0, .string ⟨#[]⟩, .int .i64 0] 33) (.cells #[.int .i64 100, .string ⟨#[]⟩, .int .i64 el] 26)
          have hPB := two_later (hbt4.keep hP (by omega)) (.cells #[.int .i64 0, .string ⟨#[]⟩, .int .i64 0] 36) (.cells #[.int .i64 100, .string ⟨#[]⟩, .int .i64 el] 26)
          have hQB := two_later (hbt4.keep hQ (by omega)) (.cells #[.int .i64 0, .string ⟨#[]⟩, .int .i64 0] 36) (.cells #[.int .i64 100, .string ⟨#[]⟩, .int .i64 el] 26)
          obtain ⟨⟨f0, f1, f2⟩, _, _, _⟩ := block_cells hPB
          obtain ⟨⟨g0, g1, g2⟩, _, _, _⟩ := block_cells hQB
          have hsB := ((hs3.two (.cells #[.int .i64 0, .string ⟨#[]⟩, .int .i64 0] 33) (.cells #[.int .i64 100, .string ⟨#[]⟩, .int .i64 el] 26)).but' hbt4 (by omega)).two (.cells #[.int .i64 0, .string ⟨#[]⟩, .int .i64 0] 36) (.cells #[.int .i64 100, .string ⟨#[]⟩, .int .i64 el] 26)
          clear hP hQ
          obtain ⟨m5, hm5⟩ := (hG.below hbwB).maxLen
          have hlen := HLEN.out
          have cX2 := next_is bx l' line' semi' _ (by omega) (by omega) hsB m5 hm5 (by omega) 0 [] ⟨#[]⟩ 0 100 el l'' line'' semi'' HAG.out rfl
          have h4s := hbt4.size
          have hA4 : w3.heap.size + 2 ≤ w4.heap.size := by simp at h4s; omega
          clear hlen hm5 hsB
          go_upto_region 16 with (go_at_call 12; refine cX2.mono ?_; rintro e w5 ⟨rfl, hs5, hbt5⟩)
          clear f0 f1 f2 g0 g1 g2 cX2
          have hbw5 := hbt5.below hbwB hx0
          have hPC := two_later (hbt5.keep hPB (by omega)) (.cells #[.int .i64 0, .string ⟨#[]⟩, .int .i64 0] 33) (.cells #[.int .i64 100, .string ⟨#[]⟩, .int .i64 el] 26)
          have hQC := two_later (hbt5.keep hQB (by omega)) (.cells #[.int .i64 0, .string ⟨#[]⟩, .int .i64 0] 33) (.cells #[.int .i64 100, .string ⟨#[]⟩, .int .i64 el] 26)
          obtain ⟨⟨f0, f1, f2⟩, _, _, _⟩ := block_cells hPC
          obtain ⟨⟨g0, g1, g2⟩, _, _, _⟩ := block_cells hQC
          clear hPB hQB hPC hQC
          go_wp2
          go_ret
          exact ⟨rfl, below_two hbw5 _ _⟩
        · by_cases h0 : kk = 0
          · subst h0
            have ht := htt rfl
            subst ht
            obtain ⟨l'', line'', semi'', hag⟩ := hag (.inr rfl)
            have cX := next_is bx a line semi wr (by omega) (by omega) hsx m hm (by omega) 0 [] ⟨#[]⟩ ln 0 0 l' line' semi' hN rfl
            have HNR := Lib.hid hNr
            have HAG := Lib.hid hag
            have HLEN := Lib.hid hlen
            clear hN hNr hag hkeep hlen hln1 hln2 hHa hHl HA htt hpt hkk0 hkk4
            go_upto_region 11 with (go_at_call 12; refine cX.mono ?_; rintro e w3 ⟨rfl, hs3, hbt3⟩)
            have hA3 := hbt3.size
            go_upto_region 12 with (go_at_call 13; refine (rnext_is bb s at_ semi _ (by omega) ((hsy.but hbt3 (by omega)).two _ _) hat 0 [] ⟨#[]⟩ ln l' line' semi' HNR.out rfl).mono ?_; rintro e w4 ⟨at', rfl, hbt4, hat', hry, hd', hl'⟩)
            have hbw3 := hbt3.below hbw hx0
            have hbwA := below_two hbw3 (.cells #[.int .i64 0, .string ⟨#[]⟩, .int .i64 ln] 33) (.cells #[.int .i64 0, .string ⟨#[]⟩, .int .i64 0] 26)
            have hbw4 := hbt4.below hbwA hy0
            have hbwB := below_two hbw4 (.cells #[.int .i64 0, .string ⟨#[]⟩, .int .i64 ln] 36) (.cells #[.int .i64 0, .string ⟨#[]⟩, .int .i64 0] 26)
            obtain ⟨hP, hQ⟩ := pair_blocks2 w3 (.cells #[.int .i64 0, .string ⟨#[]⟩, .int .i64 ln] 33) (.cells #[.int .i64 0, .string ⟨#[]⟩, .int .i64 0] 26)
            have hPB := two_later (hbt4.keep hP (by omega)) (.cells #[.int .i64 0, .string ⟨#[]⟩, .int .i64 ln] 36) (.cells #[.int .i64 0, .string ⟨#[]⟩, .int .i64 0] 26)
            have hQB := two_later (hbt4.keep hQ (by omega)) (.cells #[.int .i64 0, .string ⟨#[]⟩, .int .i64 ln] 36) (.cells #[.int .i64 0, .string ⟨#[]⟩, .int .i64 0] 26)
            obtain ⟨⟨f0, f1, f2⟩, _, _, _⟩ := block_cells hPB
            obtain ⟨⟨g0, g1, g2⟩, _, _, _⟩ := block_cells hQB
            have hsB := ((hs3.two (.cells #[.int .i64 0, .string ⟨#[]⟩, .int .i64 ln] 33) (.cells #[.int .i64 0, .string ⟨#[]⟩, .int .i64 0] 26)).but' hbt4 (by omega)).two (.cells #[.int .i64 0, .string ⟨#[]⟩, .int .i64 ln] 36) (.cells #[.int .i64 0, .string ⟨#[]⟩, .int .i64 0] 26)
            clear hP hQ
            obtain ⟨m5, hm5⟩ := (hG.below hbwB).maxLen
            have hlen := HLEN.out
            have cX2 := next_is bx l' line' semi' _ (by omega) (by omega) hsB m5 hm5 (by omega) 0 [] ⟨#[]⟩ ln 0 0 l'' line'' semi'' HAG.out rfl
            have h4s := hbt4.size
            have hA4 : w3.heap.size + 2 ≤ w4.heap.size := by simp at h4s; omega
            clear hlen hm5 hsB
            go_upto_region 16 with (go_at_call 12; refine cX2.mono ?_; rintro e w5 ⟨rfl, hs5, hbt5⟩)
            clear f0 f1 f2 g0 g1 g2 cX2
            have hbw5 := hbt5.below hbwB hx0
            have hPC := two_later (hbt5.keep hPB (by omega)) (.cells #[.int .i64 0, .string ⟨#[]⟩, .int .i64 ln] 33) (.cells #[.int .i64 0, .string ⟨#[]⟩, .int .i64 0] 26)
            have hQC := two_later (hbt5.keep hQB (by omega)) (.cells #[.int .i64 0, .string ⟨#[]⟩, .int .i64 ln] 33) (.cells #[.int .i64 0, .string ⟨#[]⟩, .int .i64 0] 26)
            obtain ⟨⟨f0, f1, f2⟩, _, _, _⟩ := block_cells hPC
            obtain ⟨⟨g0, g1, g2⟩, _, _, _⟩ := block_cells hQC
            clear hPB hQB hPC hQC
            go_wp2
            go_ret
            exact ⟨rfl, below_two hbw5 _ _⟩
          · obtain ⟨T, hT⟩ : ∃ T, bs tt = T := ⟨_, rfl⟩
            have cX := next_is bx a line semi wr (by omega) (by omega) hsx m hm (by omega) kk tt T ln 0 0 l' line' semi' hN hT
            have hk0 : (kk == (0 : Int)) = false := by rw [beq_eq_false_iff_ne]; exact h0
            have HNR := Lib.hid hNr
            have HT := Lib.hid hT
            clear hN hNr hag hkeep hlen hln1 hln2 hHa hHl HA htt hpt hT h0
            go_upto_region 11 with (go_at_call 12; refine cX.mono ?_; rintro e w3 ⟨rfl, hs3, hbt3⟩)
            have hA3 := hbt3.size
            go_upto_region 12 with (go_at_call 13; refine (rnext_is bb s at_ semi _ (by omega) ((hsy.but hbt3 (by omega)).two _ _) hat kk tt T ln l' line' semi' HNR.out HT.out).mono ?_; rintro e w4 ⟨at', rfl, hbt4, hat', hry, hd', hl'⟩)
            have hbw3 := hbt3.below hbw hx0
            have hbwA := below_two hbw3 (.cells #[.int .i64 kk, .string T, .int .i64 ln] 33) (.cells #[.int .i64 0, .string ⟨#[]⟩, .int .i64 0] 26)
            have hbw4 := hbt4.below hbwA hy0
            have hbwB := below_two hbw4 (.cells #[.int .i64 kk, .string T, .int .i64 ln] 36) (.cells #[.int .i64 0, .string ⟨#[]⟩, .int .i64 0] 26)
            obtain ⟨hP, hQ⟩ := pair_blocks2 w3 (.cells #[.int .i64 kk, .string T, .int .i64 ln] 33) (.cells #[.int .i64 0, .string ⟨#[]⟩, .int .i64 0] 26)
            have hPB := two_later (hbt4.keep hP (by omega)) (.cells #[.int .i64 kk, .string T, .int .i64 ln] 36) (.cells #[.int .i64 0, .string ⟨#[]⟩, .int .i64 0] 26)
            have hQB := two_later (hbt4.keep hQ (by omega)) (.cells #[.int .i64 kk, .string T, .int .i64 ln] 36) (.cells #[.int .i64 0, .string ⟨#[]⟩, .int .i64 0] 26)
            obtain ⟨⟨f0, f1, f2⟩, _, _, _⟩ := block_cells hPB
            obtain ⟨⟨g0, g1, g2⟩, _, _, _⟩ := block_cells hQB
            have hsB := ((hs3.two (.cells #[.int .i64 kk, .string T, .int .i64 ln] 33) (.cells #[.int .i64 0, .string ⟨#[]⟩, .int .i64 0] 26)).but' hbt4 (by omega)).two (.cells #[.int .i64 kk, .string T, .int .i64 ln] 36) (.cells #[.int .i64 0, .string ⟨#[]⟩, .int .i64 0] 26)
            clear hP hQ
            have HD := Lib.hid (And.intro hd' hl')
            clear hPB hQB hd' hl'
            go_wp2
            go_roundg g'
            case measure => omega
            case rel => exact ⟨k + 1, at', l', line', semi', by go_num, by omega, hat', hsB, hry.two _ _, HD, hbwB, by omega⟩
    · have hke : k = 2 * s.size + 4 := by omega
      have hk1 : decide ((k : Int) < 2 * (s.size : Int) + 4) = false := decide_eq_false (by omega)
      clear hk hsx hsy HA
      go_wp2
      go_ret
      exact ⟨rfl, hbw⟩
theorem tokens_law (s : ByteArray) (w : World) (hG : Glob w) :
    Calls Tryd.prog 3 #[.string s] w fun e w' => e = .returned (.bool true) ∧ Below w.heap.size w w' := by
  by_cases hs : s.size ≤ 1024
  · cases hp : badAt s with
    | some p => exact tokens_bad s w hG hs p hp
    | none =>
      obtain ⟨h1, h2, h3⟩ := mark_trim s.data.toList
      exact tokens_good s w hG hs hp _ rfl (by rw [Lib.size_eq]; exact h3) h1 (by rw [h2])
  · exact tokens_big s w hG (by omega)
end Go.Proofs.YtkcjembmdiaclaaDoor
