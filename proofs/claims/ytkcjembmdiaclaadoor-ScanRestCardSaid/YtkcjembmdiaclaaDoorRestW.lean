/- The walk of the law ScanRest. -/
import Derived.Test.YtkcjembmdiaclaaDoorRestP
namespace Go.Proofs.YtkcjembmdiaclaaDoor
open Go.RowKit Go.Lib Go.Maps
set_option linter.unusedVariables false
set_option linter.unusedSimpArgs false

theorem app_list' (a b : ByteArray) : (a ++ b).data.toList = a.data.toList ++ b.data.toList := by simp
theorem Sc.but {w w' : World} {b b' : Nat} {l : List UInt8} {line : Int} {semi : Bool} (h : Sc w b l line semi) (k : But b' w w') (hne : b ≠ b') : Sc w' b l line semi :=
  (k.block b h.lt (fun e => hne (by injection e))).trans h

set_option maxRecDepth 100000 in
set_option maxHeartbeats 4000000 in
theorem rest_big (s t : ByteArray) (w : World) (hG : Glob w) (hbig : 512 < s.size ∨ 512 < t.size) :
    Calls Tryd.prog 6 #[.string s, .string t] w fun e w' => e = .returned (.bool true) ∧ Below w.heap.size w w' := by
  have cS := shown_any w hG
  by_cases hs : 512 < s.size
  · clear hbig
    go_enter Tryd.func6, Tryd.ntmps6
    go_wp2_with (go_at_call 9; refine cS.mono ?_; rintro e w1 ⟨rfl, hb1⟩)
    go_ret
    exact ⟨rfl, hb1⟩
  · have ht : 512 < t.size := by omega
    clear hbig
    go_enter Tryd.func6, Tryd.ntmps6
    go_wp2_with (go_at_call 9; refine cS.mono ?_; rintro e w1 ⟨rfl, hb1⟩)
    go_ret
    exact ⟨rfl, hb1⟩

set_option maxRecDepth 100000 in
set_option maxHeartbeats 4000000 in
theorem rest_bad_bad (s t : ByteArray) (w : World) (hG : Glob w) (hs : s.size ≤ 512) (ht : t.size ≤ 512) (p : Nat) (hp : badAt (s ++ ({ data := #[10] } : ByteArray)) = some p) (q : Nat) (hq : badAt (s ++ ({ data := #[10] } : ByteArray) ++ t) = some q) :
    Calls Tryd.prog 6 #[.string s, .string t] w fun e w' => e = .returned (.bool true) ∧ Below w.heap.size w w' := by
  have cS := shown_any w hG
  have h1 : (s ++ ({ data := #[10] } : ByteArray)).size ≤ 513 := by rw [Lib.size_eq, app_list']; rw [Lib.size_eq] at hs; simp at hs ⊢; omega
  have h2 : (s ++ ({ data := #[10] } : ByteArray) ++ t).size ≤ 1025 := by rw [Lib.size_eq, app_list', app_list']; rw [Lib.size_eq] at hs ht; simp at hs ht ⊢; omega
  have HS1 := Lib.hid h1
  have HS2 := Lib.hid h2
  clear h1 h2
  obtain ⟨N1, hN1⟩ : ∃ N1 : Nat, 1 + nls ((s ++ ({ data := #[10] } : ByteArray)).data.toList.take p) = N1 := ⟨_, rfl⟩
  have HP := Lib.hid hp
  have HN1 := Lib.hid hN1
  obtain ⟨N2, hN2⟩ : ∃ N2 : Nat, 1 + nls ((s ++ ({ data := #[10] } : ByteArray) ++ t).data.toList.take q) = N2 := ⟨_, rfl⟩
  have HQ := Lib.hid hq
  have HN2 := Lib.hid hN2
  clear hp hq hN1 hN2
  go_enter Tryd.func6, Tryd.ntmps6
  go_upto_region 4 with (first | (go_at_call 9; refine cS.mono ?_; rintro e w1 ⟨rfl, hb1⟩; have hG1 := hG.below hb1) | (go_at_call 10; refine (new_bad (s ++ ({ data := #[10] } : ByteArray)) w1 (by have := HS1.out; omega) hG1 p HP.out N1 HN1.out).mono ?_; rintro e w2 ⟨rfl, hb2⟩; have hbA := hb1.trans (hb2.mono hb1.size); have hbA1 := hbA.alloc hbA.size (.cells #[.int .i64 100, .string ⟨#[]⟩, .int .i64 N1] 26)))
  go_upto_region 5 with (go_at_call 10; refine (new_bad (s ++ ({ data := #[10] } : ByteArray) ++ t) _ (by have := HS2.out; omega) (hG.below hbA1) q HQ.out N2 HN2.out).mono ?_; rintro e w3 ⟨rfl, hb3⟩; have hbB := hbA1.trans (hb3.mono hbA1.size))
  have hlt3 : w2.heap.size < w3.heap.size := by have := hb3.size; simp at this; omega
  have hA : (w3.alloc (.cells #[.int .i64 100, .string ⟨#[]⟩, .int .i64 N2] 26)).heap[w2.heap.size]? = some (.cells #[.int .i64 100, .string ⟨#[]⟩, .int .i64 N1] 26 (0, 0)) := (Below.heap_alloc w3 _ _ hlt3).trans ((hb3.block _ (by simp)).trans (heap_alloc_new w2 _))
  have f0 : (w3.alloc (.cells #[.int .i64 100, .string ⟨#[]⟩, .int .i64 N2] 26)).cell? ⟨w2.heap.size, 0, none⟩ = some (.int .i64 100) := by rw [Lib.cell_of_heap hA]; rfl
  have f1 : (w3.alloc (.cells #[.int .i64 100, .string ⟨#[]⟩, .int .i64 N2] 26)).cell? ⟨w2.heap.size, 1, none⟩ = some (.string ⟨#[]⟩) := by rw [Lib.cell_of_heap hA]; rfl
  have f2 : (w3.alloc (.cells #[.int .i64 100, .string ⟨#[]⟩, .int .i64 N2] 26)).cell? ⟨w2.heap.size, 2, none⟩ = some (.int .i64 N1) := by rw [Lib.cell_of_heap hA]; rfl
  clear hA
  go_wp2
  go_ret
  exact ⟨rfl, hbB.alloc hbB.size _⟩
set_option maxRecDepth 100000 in
set_option maxHeartbeats 4000000 in
theorem rest_bad_good (s t : ByteArray) (w : World) (hG : Glob w) (hs : s.size ≤ 512) (ht : t.size ≤ 512) (p : Nat) (hp : badAt (s ++ ({ data := #[10] } : ByteArray)) = some p) (L2 : List UInt8) (hL2 : Lib.trimPrefix (s ++ ({ data := #[10] } : ByteArray) ++ t).data.toList [239, 187, 191] = L2) (hq : badAt (s ++ ({ data := #[10] } : ByteArray) ++ t) = none) :
    Calls Tryd.prog 6 #[.string s, .string t] w fun e w' => e = .returned (.bool true) ∧ Below w.heap.size w w' := by
  have cS := shown_any w hG
  have h1 : (s ++ ({ data := #[10] } : ByteArray)).size ≤ 513 := by rw [Lib.size_eq, app_list']; rw [Lib.size_eq] at hs; simp at hs ⊢; omega
  have h2 : (s ++ ({ data := #[10] } : ByteArray) ++ t).size ≤ 1025 := by rw [Lib.size_eq, app_list', app_list']; rw [Lib.size_eq] at hs ht; simp at hs ht ⊢; omega
  have HS1 := Lib.hid h1
  have HS2 := Lib.hid h2
  clear h1 h2
  obtain ⟨N1, hN1⟩ : ∃ N1 : Nat, 1 + nls ((s ++ ({ data := #[10] } : ByteArray)).data.toList.take p) = N1 := ⟨_, rfl⟩
  have HP := Lib.hid hp
  have HN1 := Lib.hid hN1
  have HQ := Lib.hid hq
  have HL2 := Lib.hid hL2
  clear hp hq hL2 hN1
  go_enter Tryd.func6, Tryd.ntmps6
  go_upto_region 4 with (first | (go_at_call 9; refine cS.mono ?_; rintro e w1 ⟨rfl, hb1⟩; have hG1 := hG.below hb1) | (go_at_call 10; refine (new_bad (s ++ ({ data := #[10] } : ByteArray)) w1 (by have := HS1.out; omega) hG1 p HP.out N1 HN1.out).mono ?_; rintro e w2 ⟨rfl, hb2⟩; have hbA := hb1.trans (hb2.mono hb1.size); have hbA1 := hbA.alloc hbA.size (.cells #[.int .i64 100, .string ⟨#[]⟩, .int .i64 N1] 26)))
  go_upto_region 5 with (go_at_call 10; refine (new_good (s ++ ({ data := #[10] } : ByteArray) ++ t) _ (by have := HS2.out; omega) (hG.below hbA1) HQ.out L2 HL2.out).mono ?_; rintro e w3 ⟨bb, hbb, rfl, hsy, hb3⟩; have hbB := hbA1.trans (hb3.mono hbA1.size))
  have hlt3 : w2.heap.size < w3.heap.size := by have := hb3.size; simp at this; omega
  have hA : (w3.alloc (.cells #[.int .i64 0, .string ⟨#[]⟩, .int .i64 0] 26)).heap[w2.heap.size]? = some (.cells #[.int .i64 100, .string ⟨#[]⟩, .int .i64 N1] 26 (0, 0)) := (Below.heap_alloc w3 _ _ hlt3).trans ((hb3.block _ (by simp)).trans (heap_alloc_new w2 _))
  have f0 : (w3.alloc (.cells #[.int .i64 0, .string ⟨#[]⟩, .int .i64 0] 26)).cell? ⟨w2.heap.size, 0, none⟩ = some (.int .i64 100) := by rw [Lib.cell_of_heap hA]; rfl
  have f1 : (w3.alloc (.cells #[.int .i64 0, .string ⟨#[]⟩, .int .i64 0] 26)).cell? ⟨w2.heap.size, 1, none⟩ = some (.string ⟨#[]⟩) := by rw [Lib.cell_of_heap hA]; rfl
  have f2 : (w3.alloc (.cells #[.int .i64 0, .string ⟨#[]⟩, .int .i64 0] 26)).cell? ⟨w2.heap.size, 2, none⟩ = some (.int .i64 N1) := by rw [Lib.cell_of_heap hA]; rfl
  clear hA
  go_wp2
  go_ret
  exact ⟨rfl, hbB.alloc hbB.size _⟩
set_option maxRecDepth 100000 in
set_option maxHeartbeats 4000000 in
theorem rest_good_bad (s t : ByteArray) (w : World) (hG : Glob w) (hs : s.size ≤ 512) (ht : t.size ≤ 512) (L1 : List UInt8) (hL1 : Lib.trimPrefix (s ++ ({ data := #[10] } : ByteArray)).data.toList [239, 187, 191] = L1) (hp : badAt (s ++ ({ data := #[10] } : ByteArray)) = none) (q : Nat) (hq : badAt (s ++ ({ data := #[10] } : ByteArray) ++ t) = some q) :
    Calls Tryd.prog 6 #[.string s, .string t] w fun e w' => e = .returned (.bool true) ∧ Below w.heap.size w w' := by
  have cS := shown_any w hG
  have h1 : (s ++ ({ data := #[10] } : ByteArray)).size ≤ 513 := by rw [Lib.size_eq, app_list']; rw [Lib.size_eq] at hs; simp at hs ⊢; omega
  have h2 : (s ++ ({ data := #[10] } : ByteArray) ++ t).size ≤ 1025 := by rw [Lib.size_eq, app_list', app_list']; rw [Lib.size_eq] at hs ht; simp at hs ht ⊢; omega
  have HS1 := Lib.hid h1
  have HS2 := Lib.hid h2
  clear h1 h2
  have HP := Lib.hid hp
  have HL1 := Lib.hid hL1
  obtain ⟨N2, hN2⟩ : ∃ N2 : Nat, 1 + nls ((s ++ ({ data := #[10] } : ByteArray) ++ t).data.toList.take q) = N2 := ⟨_, rfl⟩
  have HQ := Lib.hid hq
  have HN2 := Lib.hid hN2
  clear hp hq hL1 hN2
  go_enter Tryd.func6, Tryd.ntmps6
  go_upto_region 4 with (first | (go_at_call 9; refine cS.mono ?_; rintro e w1 ⟨rfl, hb1⟩; have hG1 := hG.below hb1) | (go_at_call 10; refine (new_good (s ++ ({ data := #[10] } : ByteArray)) w1 (by have := HS1.out; omega) hG1 HP.out L1 HL1.out).mono ?_; rintro e w2 ⟨bx, hbx, rfl, hsx, hb2⟩; have hbA := hb1.trans (hb2.mono hb1.size); have hbA1 := hbA.alloc hbA.size (.cells #[.int .i64 0, .string ⟨#[]⟩, .int .i64 0] 26)))
  go_upto_region 5 with (go_at_call 10; refine (new_bad (s ++ ({ data := #[10] } : ByteArray) ++ t) _ (by have := HS2.out; omega) (hG.below hbA1) q HQ.out N2 HN2.out).mono ?_; rintro e w3 ⟨rfl, hb3⟩; have hbB := hbA1.trans (hb3.mono hbA1.size))
  have hlt3 : w2.heap.size < w3.heap.size := by have := hb3.size; simp at this; omega
  have hA : (w3.alloc (.cells #[.int .i64 100, .string ⟨#[]⟩, .int .i64 N2] 26)).heap[w2.heap.size]? = some (.cells #[.int .i64 0, .string ⟨#[]⟩, .int .i64 0] 26 (0, 0)) := (Below.heap_alloc w3 _ _ hlt3).trans ((hb3.block _ (by simp)).trans (heap_alloc_new w2 _))
  have f0 : (w3.alloc (.cells #[.int .i64 100, .string ⟨#[]⟩, .int .i64 N2] 26)).cell? ⟨w2.heap.size, 0, none⟩ = some (.int .i64 0) := by rw [Lib.cell_of_heap hA]; rfl
  have f1 : (w3.alloc (.cells #[.int .i64 100, .string ⟨#[]⟩, .int .i64 N2] 26)).cell? ⟨w2.heap.size, 1, none⟩ = some (.string ⟨#[]⟩) := by rw [Lib.cell_of_heap hA]; rfl
  have f2 : (w3.alloc (.cells #[.int .i64 100, .string ⟨#[]⟩, .int .i64 N2] 26)).cell? ⟨w2.heap.size, 2, none⟩ = some (.int .i64 0) := by rw [Lib.cell_of_heap hA]; rfl
  clear hA
  go_wp2
  go_ret
  exact ⟨rfl, hbB.alloc hbB.size _⟩
set_option maxRecDepth 100000 in
set_option maxHeartbeats 4000000 in
theorem rest_good_good (s t : ByteArray) (w : World) (hG : Glob w) (hs : s.size ≤ 512) (ht : t.size ≤ 512) (L1 : List UInt8) (hI : RestInv L1 false) (hLlen : L1.length ≤ s.size + 1) (hL1 : Lib.trimPrefix (s ++ ({ data := #[10] } : ByteArray)).data.toList [239, 187, 191] = L1) (hp : badAt (s ++ ({ data := #[10] } : ByteArray)) = none) (L2 : List UInt8) (h12 : L2 = L1 ++ t.data.toList) (hL2 : Lib.trimPrefix (s ++ ({ data := #[10] } : ByteArray) ++ t).data.toList [239, 187, 191] = L2) (hq : badAt (s ++ ({ data := #[10] } : ByteArray) ++ t) = none) :
    Calls Tryd.prog 6 #[.string s, .string t] w fun e w' => e = .returned (.bool true) ∧ Below w.heap.size w w' := by
  have cS := shown_any w hG
  have h1 : (s ++ ({ data := #[10] } : ByteArray)).size ≤ 513 := by rw [Lib.size_eq, app_list']; rw [Lib.size_eq] at hs; simp at hs ⊢; omega
  have h2 : (s ++ ({ data := #[10] } : ByteArray) ++ t).size ≤ 1025 := by rw [Lib.size_eq, app_list', app_list']; rw [Lib.size_eq] at hs ht; simp at hs ht ⊢; omega
  have HS1 := Lib.hid h1
  have HS2 := Lib.hid h2
  clear h1 h2
  have HP := Lib.hid hp
  have HL1 := Lib.hid hL1
  have HQ := Lib.hid hq
  have HL2 := Lib.hid hL2
  clear hp hq hL1 hL2
  go_enter Tryd.func6, Tryd.ntmps6
  go_upto_region 4 with (first | (go_at_call 9; refine cS.mono ?_; rintro e w1 ⟨rfl, hb1⟩; have hG1 := hG.below hb1) | (go_at_call 10; refine (new_good (s ++ ({ data := #[10] } : ByteArray)) w1 (by have := HS1.out; omega) hG1 HP.out L1 HL1.out).mono ?_; rintro e w2 ⟨bx, hbx, rfl, hsx, hb2⟩; have hbA := hb1.trans (hb2.mono hb1.size); have hbA1 := hbA.alloc hbA.size (.cells #[.int .i64 0, .string ⟨#[]⟩, .int .i64 0] 26)))
  go_upto_region 5 with (go_at_call 10; refine (new_good (s ++ ({ data := #[10] } : ByteArray) ++ t) _ (by have := HS2.out; omega) (hG.below hbA1) HQ.out L2 HL2.out).mono ?_; rintro e w3 ⟨bb, hbb, rfl, hsy, hb3⟩; have hbB := hbA1.trans (hb3.mono hbA1.size))
  have hlt3 : w2.heap.size < w3.heap.size := by have := hb3.size; simp at this; omega
  have hA : (w3.alloc (.cells #[.int .i64 0, .string ⟨#[]⟩, .int .i64 0] 26)).heap[w2.heap.size]? = some (.cells #[.int .i64 0, .string ⟨#[]⟩, .int .i64 0] 26 (0, 0)) := (Below.heap_alloc w3 _ _ hlt3).trans ((hb3.block _ (by simp)).trans (heap_alloc_new w2 _))
  have f0 : (w3.alloc (.cells #[.int .i64 0, .string ⟨#[]⟩, .int .i64 0] 26)).cell? ⟨w2.heap.size, 0, none⟩ = some (.int .i64 0) := by rw [Lib.cell_of_heap hA]; rfl
  have f1 : (w3.alloc (.cells #[.int .i64 0, .string ⟨#[]⟩, .int .i64 0] 26)).cell? ⟨w2.heap.size, 1, none⟩ = some (.string ⟨#[]⟩) := by rw [Lib.cell_of_heap hA]; rfl
  have f2 : (w3.alloc (.cells #[.int .i64 0, .string ⟨#[]⟩, .int .i64 0] 26)).cell? ⟨w2.heap.size, 2, none⟩ = some (.int .i64 0) := by rw [Lib.cell_of_heap hA]; rfl
  clear hA
  go_wp2
  clear f0 f1 f2
  subst h12
  have HI := Lib.hid hI
  have hbC := hbB.alloc hbB.size (.cells #[.int .i64 0, .string ⟨#[]⟩, .int .i64 0] 26)
  have hxlt := hsx.lt
  have hx0 : w.heap.size ≤ bx := Nat.le_trans hb1.size hbx
  have hy0 : w.heap.size ≤ bb := Nat.le_trans hbA1.size hbb
  have hxy : bx < bb := by have h := hbb; simp at h; omega
  have hlt2 := glob_lt hG
  have hsx3 := ((hsx.alloc (.cells #[.int .i64 0, .string ⟨#[]⟩, .int .i64 0] 26)).below hb3).alloc (.cells #[.int .i64 0, .string ⟨#[]⟩, .int .i64 0] 26)
  have hsy3 := hsy.alloc (.cells #[.int .i64 0, .string ⟨#[]⟩, .int .i64 0] 26)
  have htl : t.data.toList.length ≤ 512 := by rw [← Lib.size_eq]; exact ht
  clear hsx hsy hI hbA hbA1 cS
  go_loopg [9] (2 * s.size + 4) (fun gf i wx => ∃ (k : Nat) (a : List UInt8) (line : Nat) (semi : Bool), i = .int .i64 k ∧ Sc wx bx a line semi ∧ Sc wx bb (a ++ t.data.toList) line semi ∧ Hid (RestInv a semi) ∧ k + 2 * a.length + sOf semi ≤ 2 * s.size + 2 ∧ line + a.length ≤ 514 ∧ Below w.heap.size w wx ∧ 2 * s.size + 4 ≤ k + gf)
  case atStart => exact ⟨0, L1, 1, false, rfl, hsx3, hsy3, HI, by have : sOf false = 0 := rfl; omega, by omega, hbC, by omega⟩
  case round =>
    obtain ⟨k, a, line, semi, rfl, hsx, hsy, HA, hpot, hline, hbw, hfu⟩ := hrel
    clear hsx3 hsy3 HI hbC hbB hb3
    obtain ⟨g', rfl⟩ : ∃ g', gk = g' + 1 := ⟨gk - 1, by omega⟩
    have hk1 : (k : Int) < 2 * (s.size : Int) + 4 := by omega
    obtain ⟨m, hm⟩ := (hG.below hbw).maxLen
    by_cases h0 : (nxt a line semi).k = 0
    · cases hN : nxt a line semi with
      | mk kk tt ln e0 el l' line' semi' =>
        rw [hN] at h0
        simp only at h0
        subst h0
        obtain ⟨T, hT⟩ : ∃ T, bs tt = T := ⟨_, rfl⟩
        have cX := next_is bx a line semi wr (by omega) (by omega) hsx m hm (by omega) 0 tt T ln e0 el l' line' semi' hN hT
        clear hN hT
        go_wp2_with (go_at_call 12; refine cX.mono ?_; rintro e w3 ⟨rfl, hs3, hbt3⟩)
        all_goals (go_ret; exact ⟨rfl, ((hbt3.below hbw hx0).alloc (hbt3.below hbw hx0).size _).alloc (by have := (hbt3.below hbw hx0).size; simp; omega) _⟩)
    · have hst := (nxt_rest a t.data.toList line semi HA.out).resolve_left h0
      cases hN : nxt a line semi with
      | mk kk tt ln e0 el l' line' semi' =>
        rw [hN] at h0 hst
        obtain ⟨n1, n2, hinv, hpot', hlin'⟩ := hst
        simp only at n1 n2 hinv hpot' hlin' h0
        have HN1 := Lib.hid n1
        have HN2 := Lib.hid n2
        have HV := Lib.hid hinv
        clear n1 n2 hinv hN HA
        obtain ⟨T, hT⟩ : ∃ T, bs tt = T := ⟨_, rfl⟩
        have hk0 : (kk == (0 : Int)) = false := by rw [beq_eq_false_iff_ne]; exact h0
        have cX := next_is bx a line semi wr (by omega) (by omega) hsx m hm (by omega) kk tt T ln 0 0 l' line' semi' HN2.out hT
        have HT := Lib.hid hT
        clear hT h0
        go_upto_region 13 with (go_at_call 12; refine cX.mono ?_; rintro e w3 ⟨rfl, hs3, hbt3⟩; have hbw3 := hbt3.below hbw hx0; have hbw3a := (hbw3.alloc hbw3.size (.cells #[.int .i64 kk, .string T, .int .i64 ln] 33)).alloc (by have := hbw3.size; simp; omega) (.cells #[.int .i64 0, .string ⟨#[]⟩, .int .i64 0] 26); obtain ⟨m3, hm3⟩ := (hG.below hbw3a).maxLen)
        go_upto_region 14 with (go_at_call 12; refine (next_is bb (a ++ t.data.toList) line semi _ (by rw [List.length_append]; omega) (by rw [List.length_append]; omega) (((hsy.but hbt3 (by omega)).alloc _).alloc _) m3 hm3 (by omega) kk tt T ln 0 0 (l' ++ t.data.toList) line' semi' HN1.out HT.out).mono ?_; rintro e w4 ⟨rfl, hs4, hbt4⟩)
        have hblt := hsy.lt
        have hP0 : ((w3.alloc (.cells #[.int .i64 kk, .string T, .int .i64 ln] 33)).alloc (.cells #[.int .i64 0, .string ⟨#[]⟩, .int .i64 0] 26)).heap[w3.heap.size]? = some (.cells #[.int .i64 kk, .string T, .int .i64 ln] 33 (0, 0)) := (Below.heap_alloc (w3.alloc _) _ _ (by simp)).trans (heap_alloc_new w3 _)
        have hP1 := hbt4.keep hP0 (by have := hbt3.size; omega)
        have hP2 : ((w4.alloc (.cells #[.int .i64 kk, .string T, .int .i64 ln] 33)).alloc (.cells #[.int .i64 0, .string ⟨#[]⟩, .int .i64 0] 26)).heap[w3.heap.size]? = some (.cells #[.int .i64 kk, .string T, .int .i64 ln] 33 (0, 0)) := (Below.heap_alloc (w4.alloc _) _ _ (by have := lt_of_block hP1; simp; omega)).trans ((Below.heap_alloc w4 _ _ (lt_of_block hP1)).trans hP1)
        have f0 : ((w4.alloc (.cells #[.int .i64 kk, .string T, .int .i64 ln] 33)).alloc (.cells #[.int .i64 0, .string ⟨#[]⟩, .int .i64 0] 26)).cell? ⟨w3.heap.size, 0, none⟩ = some (.int .i64 kk) := by rw [Lib.cell_of_heap hP2]; rfl
        have f1 : ((w4.alloc (.cells #[.int .i64 kk, .string T, .int .i64 ln] 33)).alloc (.cells #[.int .i64 0, .string ⟨#[]⟩, .int .i64 0] 26)).cell? ⟨w3.heap.size, 1, none⟩ = some (.string T) := by rw [Lib.cell_of_heap hP2]; rfl
        have f2 : ((w4.alloc (.cells #[.int .i64 kk, .string T, .int .i64 ln] 33)).alloc (.cells #[.int .i64 0, .string ⟨#[]⟩, .int .i64 0] 26)).cell? ⟨w3.heap.size, 2, none⟩ = some (.int .i64 ln) := by rw [Lib.cell_of_heap hP2]; rfl
        clear hP0 hP1 hP2
        go_wp2
        go_roundg g'
        case measure => omega
        case rel =>
          have hbw4 := hbt4.below hbw3a hy0
          exact ⟨k + 1, l', line', semi', by go_num, (((((hs3.alloc _).alloc _).but hbt4 (by omega)).alloc _).alloc _), (hs4.alloc _).alloc _, HV, by omega, by omega, (hbw4.alloc hbw4.size _).alloc (by have := hbw4.size; simp; omega) _, by omega⟩
theorem rest_law (s t : ByteArray) (w : World) (hG : Glob w) :
    Calls Tryd.prog 6 #[.string s, .string t] w fun e w' => e = .returned (.bool true) ∧ Below w.heap.size w w' := by
  by_cases hs : s.size ≤ 512
  · by_cases ht : t.size ≤ 512
    · have e1 : (s ++ ({ data := #[10] } : ByteArray)).data.toList = s.data.toList ++ [10] := by rw [app_list']
      have e2 : (s ++ ({ data := #[10] } : ByteArray) ++ t).data.toList = s.data.toList ++ 10 :: t.data.toList := by rw [app_list', app_list']; simp
      obtain ⟨hr1, hr2⟩ := trim_rest s.data.toList t.data.toList
      cases hp : badAt (s ++ ({ data := #[10] } : ByteArray)) with
      | some p =>
        cases hq : badAt (s ++ ({ data := #[10] } : ByteArray) ++ t) with
        | some q => exact rest_bad_bad s t w hG hs ht p hp q hq
        | none => exact rest_bad_good s t w hG hs ht p hp _ rfl hq
      | none =>
        cases hq : badAt (s ++ ({ data := #[10] } : ByteArray) ++ t) with
        | some q => exact rest_good_bad s t w hG hs ht _ rfl hp q hq
        | none =>
          have hlen : (Lib.trimPrefix (s.data.toList ++ [10]) [239, 187, 191]).length ≤ s.size + 1 := by
            rw [Lib.size_eq]
            unfold Lib.trimPrefix
            split
            · simp
              omega
            · simp
          refine rest_good_good s t w hG hs ht (Lib.trimPrefix (s.data.toList ++ [10]) [239, 187, 191]) ⟨fun _ => rfl, fun _ => hr2⟩ hlen (by rw [e1]) hp _ hr1 (by rw [e2]) hq
    · exact rest_big s t w hG (.inr (by omega))
  · exact rest_big s t w hG (.inl (by omega))
end Go.Proofs.YtkcjembmdiaclaaDoor
