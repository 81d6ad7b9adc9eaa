/- The walk of the document's Next: where no semicolon may come. (Lines alike written by gennxt.py.) -/
import Derived.Test.YtkcjembmdiaclaaDoorSn
namespace Go.Proofs.YtkcjembmdiaclaaDoor
open Go.RowKit Go.Lib Go.Maps
set_option linter.unusedVariables false
set_option linter.unusedSimpArgs false


set_option maxRecDepth 100000 in
set_option maxHeartbeats 8000000 in
theorem rnx_f_end (b : Nat) (s : ByteArray) (at_ : Nat) (w : World) (hs : s.size ≤ 1048576) (h : RSc w b s at_ false) (hat : at_ ≤ s.size) (at1 : Nat) (ha1 : at_ + ((s.data.toList.drop at_).takeWhile (blankB false)).length = at1) (LN : Nat) (hLN : 1 + nls (s.data.toList.take at1) = LN) (he : at1 = s.size) :
    Calls Tryd.prog 13 #[.pointer (some ⟨b, 0, none⟩)] w fun e w' => e = .returned (.tuple #[.agg #[.int .i64 0, .string ⟨#[]⟩, .int .i64 LN], .agg #[.int .i64 0, .string ⟨#[]⟩, .int .i64 0]]) ∧ RSc w' b s ((at1 : Nat) : Int) false ∧ But b w w' := by
  have ha1s : at1 ≤ s.size := by
    have := tw_le (blankB false) (s.data.toList.drop at_)
    rw [List.length_drop, ← Lib.size_eq] at this
    omega
  have c0 := h.c0
  have c1 := h.c1
  have c2 := h.c2
  have hlt := h.lt
  have cL := fun W => rline_any s at1 W hs ha1s
  rw [hLN] at cL
  have HLN := Lib.hid hLN
  have HA := Lib.hid ha1
  have hat1 : at_ ≤ at1 := by omega
  have hei : decide (at1 < s.size) = false := decide_eq_false (by omega)
  have hei2 : decide ((at1 : Int) < (s.size : Int)) = false := decide_eq_false (by omega)
  have HT : Hid (tokL (s.data.toList.drop at1) = (0, [], ((0 : Nat) : Int))) := by rw [he, drop_end s (Nat.lt_irrefl _)]; exact rfl
  clear hLN ha1 he
  go_enter Tryd.func13, Tryd.ntmps13
  go_wp2
  go_loopg [4] (at1 - at_) (fun gf nv wx => ∃ p : Nat, nv = .int .i64 p ∧ at_ ≤ p ∧ p ≤ at1 ∧ Hid (wx = (w.alloc (.cells #[.int .i64 0, .string ⟨#[]⟩, .int .i64 0] 36)).alloc (.cells #[.int .i64 0, .string ⟨#[]⟩, .int .i64 0] 26)) ∧ at1 ≤ p + gf)
  case atStart => exact ⟨at_, rfl, by omega, hat1, rfl, by omega⟩
  case round =>
    obtain ⟨p, rfl, hp0, hp1, hw, hfu⟩ := hrel
    obtain rfl := hw.out
    clear hw
    by_cases hp : p < at1
    · obtain ⟨g', rfl⟩ : ∃ g', gk = g' + 1 := ⟨gk - 1, by omega⟩
      have hps : p < s.size := by omega
      obtain ⟨y, hy⟩ : ∃ y : Nat, (s[p]'hps).toNat = y := ⟨_, rfl⟩
      have hbl := blank_at s at_ p false hp0 hps (by rw [HA.out]; exact hp)
      have hpi : (p : Int) < (s.size : Int) := by omega
      have hcs := blank_cases hy hbl
      clear hbl
      rcases hcs with hcs | hcs | hcs | ⟨hcs, -⟩
      · have y1 : ((y : Int) == 32) = true := by rw [beq_iff_eq]; omega
        clear hcs
        go_wp2
        go_roundg g'
        case measure => omega
        case rel => exact ⟨p + 1, by go_num, by omega, by omega, rfl, by omega⟩
      · have y1 : ((y : Int) == 9) = true := by rw [beq_iff_eq]; omega
        have z0 : ((y : Int) == 32) = false := by rw [beq_eq_false_iff_ne]; omega
        clear hcs
        go_wp2
        go_roundg g'
        case measure => omega
        case rel => exact ⟨p + 1, by go_num, by omega, by omega, rfl, by omega⟩
      · have y1 : ((y : Int) == 13) = true := by rw [beq_iff_eq]; omega
        have z0 : ((y : Int) == 32) = false := by rw [beq_eq_false_iff_ne]; omega
        have z1 : ((y : Int) == 9) = false := by rw [beq_eq_false_iff_ne]; omega
        clear hcs
        go_wp2
        go_roundg g'
        case measure => omega
        case rel => exact ⟨p + 1, by go_num, by omega, by omega, rfl, by omega⟩
      · have y1 : ((y : Int) == 10) = true := by rw [beq_iff_eq]; omega
        have z0 : ((y : Int) == 32) = false := by rw [beq_eq_false_iff_ne]; omega
        have z1 : ((y : Int) == 9) = false := by rw [beq_eq_false_iff_ne]; omega
        have z2 : ((y : Int) == 13) = false := by rw [beq_eq_false_iff_ne]; omega
        clear hcs
        go_wp2
        go_roundg g'
        case measure => omega
        case rel => exact ⟨p + 1, by go_num, by omega, by omega, rfl, by omega⟩
    · have hpe : p = at1 := by omega
      subst hpe
      clear hp
      go_upto_region 10 with (first | (go_at_call 18; refine (cL _).mono ?_; rintro e w1 ⟨rfl, hw1⟩; obtain rfl := hw1.symm) | (go_at_call 23; refine (rtok_ok b s p at_ false _ hs ((h.alloc _).alloc _) ha1s LN HLN.out 0 [] 0 HT.out ⟨#[]⟩ rfl).mono ?_; rintro e w1 ⟨rfl, hb1⟩))
      obtain ⟨hR, hF, hZ, hM, hB, hsz⟩ := rn_cells h (.cells #[.int .i64 0, .string ⟨#[]⟩, .int .i64 0] 36) (.cells #[.int .i64 0, .string ⟨#[]⟩, .int .i64 0] 26) hb1 (.cells #[.int .i64 0, .string ⟨#[]⟩, .int .i64 LN] 36)
      obtain ⟨⟨k0, k1, k2⟩, q0, q1, q2⟩ := block_cells hF
      obtain ⟨⟨z0, z1, z2⟩, r0, r1, r2⟩ := block_cells hZ
      obtain ⟨⟨m0, m1, m2⟩, _, _, _⟩ := block_cells hM
      have x0 := hR.c0
      have x1 := hR.c1
      have x2 := hR.c2
      have f1 := hR.fz 1
      have f2 := hR.fz 2
      have hne : b ≠ w.heap.size := by omega
      have hne1 : b ≠ w.heap.size + 1 := by omega
      have hne2 : b ≠ w1.heap.size := by omega
      have hnm : w1.heap.size ≠ w.heap.size := by omega
      have hnm1 : w1.heap.size ≠ w.heap.size + 1 := by omega
      clear hF hZ hM hb1 c0 c1 c2
      go_wp2
      refine bodyPost_ret (v := .tuple #[.agg #[.int .i64 0, .string ⟨#[]⟩, .int .i64 LN], .agg #[.int .i64 0, .string ⟨#[]⟩, .int .i64 0]]) (by simp [results, Tryd.results13, go_sem, k0, k1, k2, q0, q1, q2, z0, z1, z2, r0, r1, r2]) rfl ⟨rfl, hR.put1.put2.six hlt _ _ _ _ _ _, ((hB.setCell 1 _).setCell 2 _).six _ _ _ _ _ _⟩

set_option maxRecDepth 100000 in
set_option maxHeartbeats 8000000 in
theorem rnx_f_bad (b : Nat) (s : ByteArray) (at_ : Nat) (w : World) (hs : s.size ≤ 1048576) (h : RSc w b s at_ false) (hat : at_ ≤ s.size) (at1 : Nat) (ha1 : at_ + ((s.data.toList.drop at_).takeWhile (blankB false)).length = at1) (LN : Nat) (hLN : 1 + nls (s.data.toList.take at1) = LN) (he : at1 < s.size) (hd : blankB false (s[at1]'he) = false) (ht : (tokL (s.data.toList.drop at1)).2.2 < 0) :
    Calls Tryd.prog 13 #[.pointer (some ⟨b, 0, none⟩)] w fun e w' => e = .returned (.tuple #[.agg #[.int .i64 0, .string ⟨#[]⟩, .int .i64 0], .agg #[.int .i64 100, .string ⟨#[]⟩, .int .i64 LN]]) ∧ But b w w' := by
  have ha1s : at1 ≤ s.size := by
    have := tw_le (blankB false) (s.data.toList.drop at_)
    rw [List.length_drop, ← Lib.size_eq] at this
    omega
  have c0 := h.c0
  have c1 := h.c1
  have c2 := h.c2
  have hlt := h.lt
  have cL := fun W => rline_any s at1 W hs ha1s
  rw [hLN] at cL
  have HLN := Lib.hid hLN
  have HA := Lib.hid ha1
  have hat1 : at_ ≤ at1 := by omega
  obtain ⟨d, hdd⟩ : ∃ d : Nat, (s[at1]'he).toNat = d := ⟨_, rfl⟩
  obtain ⟨d32, d9, d13, d10⟩ := no_blank hdd hd
  have hei : (at1 : Int) < (s.size : Int) := by omega
  have HT := Lib.hid ht
  clear hLN ha1 hd ht
  go_enter Tryd.func13, Tryd.ntmps13
  go_wp2
  go_loopg [4] (at1 - at_) (fun gf nv wx => ∃ p : Nat, nv = .int .i64 p ∧ at_ ≤ p ∧ p ≤ at1 ∧ Hid (wx = (w.alloc (.cells #[.int .i64 0, .string ⟨#[]⟩, .int .i64 0] 36)).alloc (.cells #[.int .i64 0, .string ⟨#[]⟩, .int .i64 0] 26)) ∧ at1 ≤ p + gf)
  case atStart => exact ⟨at_, rfl, by omega, hat1, rfl, by omega⟩
  case round =>
    obtain ⟨p, rfl, hp0, hp1, hw, hfu⟩ := hrel
    obtain rfl := hw.out
    clear hw
    by_cases hp : p < at1
    · obtain ⟨g', rfl⟩ : ∃ g', gk = g' + 1 := ⟨gk - 1, by omega⟩
      have hps : p < s.size := by omega
      obtain ⟨y, hy⟩ : ∃ y : Nat, (s[p]'hps).toNat = y := ⟨_, rfl⟩
      have hbl := blank_at s at_ p false hp0 hps (by rw [HA.out]; exact hp)
      have hpi : (p : Int) < (s.size : Int) := by omega
      have hcs := blank_cases hy hbl
      clear hbl
      rcases hcs with hcs | hcs | hcs | ⟨hcs, -⟩
      · have y1 : ((y : Int) == 32) = true := by rw [beq_iff_eq]; omega
        clear hcs
        go_wp2
        go_roundg g'
        case measure => omega
        case rel => exact ⟨p + 1, by go_num, by omega, by omega, rfl, by omega⟩
      · have y1 : ((y : Int) == 9) = true := by rw [beq_iff_eq]; omega
        have z0 : ((y : Int) == 32) = false := by rw [beq_eq_false_iff_ne]; omega
        clear hcs
        go_wp2
        go_roundg g'
        case measure => omega
        case rel => exact ⟨p + 1, by go_num, by omega, by omega, rfl, by omega⟩
      · have y1 : ((y : Int) == 13) = true := by rw [beq_iff_eq]; omega
        have z0 : ((y : Int) == 32) = false := by rw [beq_eq_false_iff_ne]; omega
        have z1 : ((y : Int) == 9) = false := by rw [beq_eq_false_iff_ne]; omega
        clear hcs
        go_wp2
        go_roundg g'
        case measure => omega
        case rel => exact ⟨p + 1, by go_num, by omega, by omega, rfl, by omega⟩
      · have y1 : ((y : Int) == 10) = true := by rw [beq_iff_eq]; omega
        have z0 : ((y : Int) == 32) = false := by rw [beq_eq_false_iff_ne]; omega
        have z1 : ((y : Int) == 9) = false := by rw [beq_eq_false_iff_ne]; omega
        have z2 : ((y : Int) == 13) = false := by rw [beq_eq_false_iff_ne]; omega
        clear hcs
        go_wp2
        go_roundg g'
        case measure => omega
        case rel => exact ⟨p + 1, by go_num, by omega, by omega, rfl, by omega⟩
    · have hpe : p = at1 := by omega
      subst hpe
      clear hp
      go_upto_region 10 with (first | (go_at_call 18; refine (cL _).mono ?_; rintro e w1 ⟨rfl, hw1⟩; obtain rfl := hw1.symm) | (go_at_call 23; refine (rtok_bad b s p at_ false _ hs ((h.alloc _).alloc _) ha1s LN HLN.out HT.out).mono ?_; rintro e w1 ⟨kk, VV, rfl, hb1⟩))
      obtain ⟨hR, hF, hZ, hM, hB, hsz⟩ := rn_cells h (.cells #[.int .i64 0, .string ⟨#[]⟩, .int .i64 0] 36) (.cells #[.int .i64 0, .string ⟨#[]⟩, .int .i64 0] 26) hb1 (.cells #[.int .i64 kk, .string VV, .int .i64 LN] 36)
      obtain ⟨⟨k0, k1, k2⟩, q0, q1, q2⟩ := block_cells hF
      obtain ⟨⟨z0, z1, z2⟩, r0, r1, r2⟩ := block_cells hZ
      obtain ⟨⟨m0, m1, m2⟩, _, _, _⟩ := block_cells hM
      have x0 := hR.c0
      have x1 := hR.c1
      have x2 := hR.c2
      have f1 := hR.fz 1
      have f2 := hR.fz 2
      have hne : b ≠ w.heap.size := by omega
      have hne1 : b ≠ w.heap.size + 1 := by omega
      have hne2 : b ≠ w1.heap.size := by omega
      have hnm : w1.heap.size ≠ w.heap.size := by omega
      have hnm1 : w1.heap.size ≠ w.heap.size + 1 := by omega
      clear hF hZ hM hb1 c0 c1 c2
      go_wp2
      refine bodyPost_ret (v := .tuple #[.agg #[.int .i64 0, .string ⟨#[]⟩, .int .i64 0], .agg #[.int .i64 100, .string ⟨#[]⟩, .int .i64 LN]]) (by simp [results, Tryd.results13, go_sem, k0, k1, k2, q0, q1, q2, z0, z1, z2, r0, r1, r2]) rfl ⟨rfl, hB.six _ _ _ _ _ _⟩

set_option maxRecDepth 100000 in
set_option maxHeartbeats 8000000 in
theorem rnx_f_k1 (b : Nat) (s : ByteArray) (at_ : Nat) (w : World) (hs : s.size ≤ 1048576) (h : RSc w b s at_ false) (hat : at_ ≤ s.size) (at1 : Nat) (ha1 : at_ + ((s.data.toList.drop at_).takeWhile (blankB false)).length = at1) (LN : Nat) (hLN : 1 + nls (s.data.toList.take at1) = LN) (he : at1 < s.size) (hd : blankB false (s[at1]'he) = false) (t : List UInt8) (n : Nat) (ht : tokL (s.data.toList.drop at1) = (1, t, (n : Int))) (X : ByteArray) (hX : bs t = X) (hn : n ≤ 1048576) :
    Calls Tryd.prog 13 #[.pointer (some ⟨b, 0, none⟩)] w fun e w' => e = .returned (.tuple #[.agg #[.int .i64 1, .string X, .int .i64 LN], .agg #[.int .i64 0, .string ⟨#[]⟩, .int .i64 0]]) ∧ RSc w' b s ((at1 + n : Nat) : Int) true ∧ But b w w' := by
  have ha1s : at1 ≤ s.size := by
    have := tw_le (blankB false) (s.data.toList.drop at_)
    rw [List.length_drop, ← Lib.size_eq] at this
    omega
  have c0 := h.c0
  have c1 := h.c1
  have c2 := h.c2
  have hlt := h.lt
  have cL := fun W => rline_any s at1 W hs ha1s
  rw [hLN] at cL
  have HLN := Lib.hid hLN
  have HA := Lib.hid ha1
  have hat1 : at_ ≤ at1 := by omega
  obtain ⟨d, hdd⟩ : ∃ d : Nat, (s[at1]'he).toNat = d := ⟨_, rfl⟩
  obtain ⟨d32, d9, d13, d10⟩ := no_blank hdd hd
  have hei : (at1 : Int) < (s.size : Int) := by omega
  have HT := Lib.hid ht
  have HX := Lib.hid hX
  clear hLN ha1 hd ht hX
  go_enter Tryd.func13, Tryd.ntmps13
  go_wp2
  go_loopg [4] (at1 - at_) (fun gf nv wx => ∃ p : Nat, nv = .int .i64 p ∧ at_ ≤ p ∧ p ≤ at1 ∧ Hid (wx = (w.alloc (.cells #[.int .i64 0, .string ⟨#[]⟩, .int .i64 0] 36)).alloc (.cells #[.int .i64 0, .string ⟨#[]⟩, .int .i64 0] 26)) ∧ at1 ≤ p + gf)
  case atStart => exact ⟨at_, rfl, by omega, hat1, rfl, by omega⟩
  case round =>
    obtain ⟨p, rfl, hp0, hp1, hw, hfu⟩ := hrel
    obtain rfl := hw.out
    clear hw
    by_cases hp : p < at1
    · obtain ⟨g', rfl⟩ : ∃ g', gk = g' + 1 := ⟨gk - 1, by omega⟩
      have hps : p < s.size := by omega
      obtain ⟨y, hy⟩ : ∃ y : Nat, (s[p]'hps).toNat = y := ⟨_, rfl⟩
      have hbl := blank_at s at_ p false hp0 hps (by rw [HA.out]; exact hp)
      have hpi : (p : Int) < (s.size : Int) := by omega
      have hcs := blank_cases hy hbl
      clear hbl
      rcases hcs with hcs | hcs | hcs | ⟨hcs, -⟩
      · have y1 : ((y : Int) == 32) = true := by rw [beq_iff_eq]; omega
        clear hcs
        go_wp2
        go_roundg g'
        case measure => omega
        case rel => exact ⟨p + 1, by go_num, by omega, by omega, rfl, by omega⟩
      · have y1 : ((y : Int) == 9) = true := by rw [beq_iff_eq]; omega
        have z0 : ((y : Int) == 32) = false := by rw [beq_eq_false_iff_ne]; omega
        clear hcs
        go_wp2
        go_roundg g'
        case measure => omega
        case rel => exact ⟨p + 1, by go_num, by omega, by omega, rfl, by omega⟩
      · have y1 : ((y : Int) == 13) = true := by rw [beq_iff_eq]; omega
        have z0 : ((y : Int) == 32) = false := by rw [beq_eq_false_iff_ne]; omega
        have z1 : ((y : Int) == 9) = false := by rw [beq_eq_false_iff_ne]; omega
        clear hcs
        go_wp2
        go_roundg g'
        case measure => omega
        case rel => exact ⟨p + 1, by go_num, by omega, by omega, rfl, by omega⟩
      · have y1 : ((y : Int) == 10) = true := by rw [beq_iff_eq]; omega
        have z0 : ((y : Int) == 32) = false := by rw [beq_eq_false_iff_ne]; omega
        have z1 : ((y : Int) == 9) = false := by rw [beq_eq_false_iff_ne]; omega
        have z2 : ((y : Int) == 13) = false := by rw [beq_eq_false_iff_ne]; omega
        clear hcs
        go_wp2
        go_roundg g'
        case measure => omega
        case rel => exact ⟨p + 1, by go_num, by omega, by omega, rfl, by omega⟩
    · have hpe : p = at1 := by omega
      subst hpe
      clear hp
      go_upto_region 10 with (first | (go_at_call 18; refine (cL _).mono ?_; rintro e w1 ⟨rfl, hw1⟩; obtain rfl := hw1.symm) | (go_at_call 23; refine (rtok_ok b s p at_ false _ hs ((h.alloc _).alloc _) ha1s LN HLN.out 1 t n HT.out X HX.out).mono ?_; rintro e w1 ⟨rfl, hb1⟩))
      obtain ⟨hR, hF, hZ, hM, hB, hsz⟩ := rn_cells h (.cells #[.int .i64 0, .string ⟨#[]⟩, .int .i64 0] 36) (.cells #[.int .i64 0, .string ⟨#[]⟩, .int .i64 0] 26) hb1 (.cells #[.int .i64 1, .string X, .int .i64 LN] 36)
      obtain ⟨⟨k0, k1, k2⟩, q0, q1, q2⟩ := block_cells hF
      obtain ⟨⟨z0, z1, z2⟩, r0, r1, r2⟩ := block_cells hZ
      obtain ⟨⟨m0, m1, m2⟩, _, _, _⟩ := block_cells hM
      have x0 := hR.c0
      have x1 := hR.c1
      have x2 := hR.c2
      have f1 := hR.fz 1
      have f2 := hR.fz 2
      have hne : b ≠ w.heap.size := by omega
      have hne1 : b ≠ w.heap.size + 1 := by omega
      have hne2 : b ≠ w1.heap.size := by omega
      have hnm : w1.heap.size ≠ w.heap.size := by omega
      have hnm1 : w1.heap.size ≠ w.heap.size + 1 := by omega
      clear hF hZ hM hb1 c0 c1 c2
      go_wp2
      refine bodyPost_ret (v := .tuple #[.agg #[.int .i64 1, .string X, .int .i64 LN], .agg #[.int .i64 0, .string ⟨#[]⟩, .int .i64 0]]) (by simp [results, Tryd.results13, go_sem, k0, k1, k2, q0, q1, q2, z0, z1, z2, r0, r1, r2]) rfl ⟨rfl, hR.put1.put2.six hlt _ _ _ _ _ _, ((hB.setCell 1 _).setCell 2 _).six _ _ _ _ _ _⟩

set_option maxRecDepth 100000 in
set_option maxHeartbeats 8000000 in
theorem rnx_f_k2 (b : Nat) (s : ByteArray) (at_ : Nat) (w : World) (hs : s.size ≤ 1048576) (h : RSc w b s at_ false) (hat : at_ ≤ s.size) (at1 : Nat) (ha1 : at_ + ((s.data.toList.drop at_).takeWhile (blankB false)).length = at1) (LN : Nat) (hLN : 1 + nls (s.data.toList.take at1) = LN) (he : at1 < s.size) (hd : blankB false (s[at1]'he) = false) (t : List UInt8) (n : Nat) (ht : tokL (s.data.toList.drop at1) = (2, t, (n : Int))) (X : ByteArray) (hX : bs t = X) (hn : n ≤ 1048576) :
    Calls Tryd.prog 13 #[.pointer (some ⟨b, 0, none⟩)] w fun e w' => e = .returned (.tuple #[.agg #[.int .i64 2, .string X, .int .i64 LN], .agg #[.int .i64 0, .string ⟨#[]⟩, .int .i64 0]]) ∧ RSc w' b s ((at1 + n : Nat) : Int) true ∧ But b w w' := by
  have ha1s : at1 ≤ s.size := by
    have := tw_le (blankB false) (s.data.toList.drop at_)
    rw [List.length_drop, ← Lib.size_eq] at this
    omega
  have c0 := h.c0
  have c1 := h.c1
  have c2 := h.c2
  have hlt := h.lt
  have cL := fun W => rline_any s at1 W hs ha1s
  rw [hLN] at cL
  have HLN := Lib.hid hLN
  have HA := Lib.hid ha1
  have hat1 : at_ ≤ at1 := by omega
  obtain ⟨d, hdd⟩ : ∃ d : Nat, (s[at1]'he).toNat = d := ⟨_, rfl⟩
  obtain ⟨d32, d9, d13, d10⟩ := no_blank hdd hd
  have hei : (at1 : Int) < (s.size : Int) := by omega
  have HT := Lib.hid ht
  have HX := Lib.hid hX
  clear hLN ha1 hd ht hX
  go_enter Tryd.func13, Tryd.ntmps13
  go_wp2
  go_loopg [4] (at1 - at_) (fun gf nv wx => ∃ p : Nat, nv = .int .i64 p ∧ at_ ≤ p ∧ p ≤ at1 ∧ Hid (wx = (w.alloc (.cells #[.int .i64 0, .string ⟨#[]⟩, .int .i64 0] 36)).alloc (.cells #[.int .i64 0, .string ⟨#[]⟩, .int .i64 0] 26)) ∧ at1 ≤ p + gf)
  case atStart => exact ⟨at_, rfl, by omega, hat1, rfl, by omega⟩
  case round =>
    obtain ⟨p, rfl, hp0, hp1, hw, hfu⟩ := hrel
    obtain rfl := hw.out
    clear hw
    by_cases hp : p < at1
    · obtain ⟨g', rfl⟩ : ∃ g', gk = g' + 1 := ⟨gk - 1, by omega⟩
      have hps : p < s.size := by omega
      obtain ⟨y, hy⟩ : ∃ y : Nat, (s[p]'hps).toNat = y := ⟨_, rfl⟩
      have hbl := blank_at s at_ p false hp0 hps (by rw [HA.out]; exact hp)
      have hpi : (p : Int) < (s.size : Int) := by omega
      have hcs := blank_cases hy hbl
      clear hbl
      rcases hcs with hcs | hcs | hcs | ⟨hcs, -⟩
      · have y1 : ((y : Int) == 32) = true := by rw [beq_iff_eq]; omega
        clear hcs
        go_wp2
        go_roundg g'
        case measure => omega
        case rel => exact ⟨p + 1, by go_num, by omega, by omega, rfl, by omega⟩
      · have y1 : ((y : Int) == 9) = true := by rw [beq_iff_eq]; omega
        have z0 : ((y : Int) == 32) = false := by rw [beq_eq_false_iff_ne]; omega
        clear hcs
        go_wp2
        go_roundg g'
        case measure => omega
        case rel => exact ⟨p + 1, by go_num, by omega, by omega, rfl, by omega⟩
      · have y1 : ((y : Int) == 13) = true := by rw [beq_iff_eq]; omega
        have z0 : ((y : Int) == 32) = false := by rw [beq_eq_false_iff_ne]; omega
        have z1 : ((y : Int) == 9) = false := by rw [beq_eq_false_iff_ne]; omega
        clear hcs
        go_wp2
        go_roundg g'
        case measure => omega
        case rel => exact ⟨p + 1, by go_num, by omega, by omega, rfl, by omega⟩
      · have y1 : ((y : Int) == 10) = true := by rw [beq_iff_eq]; omega
        have z0 : ((y : Int) == 32) = false := by rw [beq_eq_false_iff_ne]; omega
        have z1 : ((y : Int) == 9) = false := by rw [beq_eq_false_iff_ne]; omega
        have z2 : ((y : Int) == 13) = false := by rw [beq_eq_false_iff_ne]; omega
        clear hcs
        go_wp2
        go_roundg g'
        case measure => omega
        case rel => exact ⟨p + 1, by go_num, by omega, by omega, rfl, by omega⟩
    · have hpe : p = at1 := by omega
      subst hpe
      clear hp
      go_upto_region 10 with (first | (go_at_call 18; refine (cL _).mono ?_; rintro e w1 ⟨rfl, hw1⟩; obtain rfl := hw1.symm) | (go_at_call 23; refine (rtok_ok b s p at_ false _ hs ((h.alloc _).alloc _) ha1s LN HLN.out 2 t n HT.out X HX.out).mono ?_; rintro e w1 ⟨rfl, hb1⟩))
      obtain ⟨hR, hF, hZ, hM, hB, hsz⟩ := rn_cells h (.cells #[.int .i64 0, .string ⟨#[]⟩, .int .i64 0] 36) (.cells #[.int .i64 0, .string ⟨#[]⟩, .int .i64 0] 26) hb1 (.cells #[.int .i64 2, .string X, .int .i64 LN] 36)
      obtain ⟨⟨k0, k1, k2⟩, q0, q1, q2⟩ := block_cells hF
      obtain ⟨⟨z0, z1, z2⟩, r0, r1, r2⟩ := block_cells hZ
      obtain ⟨⟨m0, m1, m2⟩, _, _, _⟩ := block_cells hM
      have x0 := hR.c0
      have x1 := hR.c1
      have x2 := hR.c2
      have f1 := hR.fz 1
      have f2 := hR.fz 2
      have hne : b ≠ w.heap.size := by omega
      have hne1 : b ≠ w.heap.size + 1 := by omega
      have hne2 : b ≠ w1.heap.size := by omega
      have hnm : w1.heap.size ≠ w.heap.size := by omega
      have hnm1 : w1.heap.size ≠ w.heap.size + 1 := by omega
      clear hF hZ hM hb1 c0 c1 c2
      go_wp2
      refine bodyPost_ret (v := .tuple #[.agg #[.int .i64 2, .string X, .int .i64 LN], .agg #[.int .i64 0, .string ⟨#[]⟩, .int .i64 0]]) (by simp [results, Tryd.results13, go_sem, k0, k1, k2, q0, q1, q2, z0, z1, z2, r0, r1, r2]) rfl ⟨rfl, hR.put1.put2.six hlt _ _ _ _ _ _, ((hB.setCell 1 _).setCell 2 _).six _ _ _ _ _ _⟩

set_option maxRecDepth 100000 in
set_option maxHeartbeats 8000000 in
theorem rnx_f_k3_41 (b : Nat) (s : ByteArray) (at_ : Nat) (w : World) (hs : s.size ≤ 1048576) (h : RSc w b s at_ false) (hat : at_ ≤ s.size) (at1 : Nat) (ha1 : at_ + ((s.data.toList.drop at_).takeWhile (blankB false)).length = at1) (LN : Nat) (hLN : 1 + nls (s.data.toList.take at1) = LN) (he : at1 < s.size) (hd : blankB false (s[at1]'he) = false) (t : List UInt8) (n : Nat) (ht : tokL (s.data.toList.drop at1) = (3, t, (n : Int))) (X : ByteArray) (hX : bs t = X) (hn : n ≤ 1048576) (hx : X = ⟨#[41]⟩) :
    Calls Tryd.prog 13 #[.pointer (some ⟨b, 0, none⟩)] w fun e w' => e = .returned (.tuple #[.agg #[.int .i64 3, .string X, .int .i64 LN], .agg #[.int .i64 0, .string ⟨#[]⟩, .int .i64 0]]) ∧ RSc w' b s ((at1 + n : Nat) : Int) true ∧ But b w w' := by
  have ha1s : at1 ≤ s.size := by
    have := tw_le (blankB false) (s.data.toList.drop at_)
    rw [List.length_drop, ← Lib.size_eq] at this
    omega
  have c0 := h.c0
  have c1 := h.c1
  have c2 := h.c2
  have hlt := h.lt
  have cL := fun W => rline_any s at1 W hs ha1s
  rw [hLN] at cL
  have HLN := Lib.hid hLN
  have HA := Lib.hid ha1
  have hat1 : at_ ≤ at1 := by omega
  obtain ⟨d, hdd⟩ : ∃ d : Nat, (s[at1]'he).toNat = d := ⟨_, rfl⟩
  obtain ⟨d32, d9, d13, d10⟩ := no_blank hdd hd
  have hei : (at1 : Int) < (s.size : Int) := by omega
  have HT := Lib.hid ht
  have HX := Lib.hid hX
  subst hx
  clear hLN ha1 hd ht hX
  go_enter Tryd.func13, Tryd.ntmps13
  go_wp2
  go_loopg [4] (at1 - at_) (fun gf nv wx => ∃ p : Nat, nv = .int .i64 p ∧ at_ ≤ p ∧ p ≤ at1 ∧ Hid (wx = (w.alloc (.cells #[.int .i64 0, .string ⟨#[]⟩, .int .i64 0] 36)).alloc (.cells #[.int .i64 0, .string ⟨#[]⟩, .int .i64 0] 26)) ∧ at1 ≤ p + gf)
  case atStart => exact ⟨at_, rfl, by omega, hat1, rfl, by omega⟩
  case round =>
    obtain ⟨p, rfl, hp0, hp1, hw, hfu⟩ := hrel
    obtain rfl := hw.out
    clear hw
    by_cases hp : p < at1
    · obtain ⟨g', rfl⟩ : ∃ g', gk = g' + 1 := ⟨gk - 1, by omega⟩
      have hps : p < s.size := by omega
      obtain ⟨y, hy⟩ : ∃ y : Nat, (s[p]'hps).toNat = y := ⟨_, rfl⟩
      have hbl := blank_at s at_ p false hp0 hps (by rw [HA.out]; exact hp)
      have hpi : (p : Int) < (s.size : Int) := by omega
      have hcs := blank_cases hy hbl
      clear hbl
      rcases hcs with hcs | hcs | hcs | ⟨hcs, -⟩
      · have y1 : ((y : Int) == 32) = true := by rw [beq_iff_eq]; omega
        clear hcs
        go_wp2
        go_roundg g'
        case measure => omega
        case rel => exact ⟨p + 1, by go_num, by omega, by omega, rfl, by omega⟩
      · have y1 : ((y : Int) == 9) = true := by rw [beq_iff_eq]; omega
        have z0 : ((y : Int) == 32) = false := by rw [beq_eq_false_iff_ne]; omega
        clear hcs
        go_wp2
        go_roundg g'
        case measure => omega
        case rel => exact ⟨p + 1, by go_num, by omega, by omega, rfl, by omega⟩
      · have y1 : ((y : Int) == 13) = true := by rw [beq_iff_eq]; omega
        have z0 : ((y : Int) == 32) = false := by rw [beq_eq_false_iff_ne]; omega
        have z1 : ((y : Int) == 9) = false := by rw [beq_eq_false_iff_ne]; omega
        clear hcs
        go_wp2
        go_roundg g'
        case measure => omega
        case rel => exact ⟨p + 1, by go_num, by omega, by omega, rfl, by omega⟩
      · have y1 : ((y : Int) == 10) = true := by rw [beq_iff_eq]; omega
        have z0 : ((y : Int) == 32) = false := by rw [beq_eq_false_iff_ne]; omega
        have z1 : ((y : Int) == 9) = false := by rw [beq_eq_false_iff_ne]; omega
        have z2 : ((y : Int) == 13) = false := by rw [beq_eq_false_iff_ne]; omega
        clear hcs
        go_wp2
        go_roundg g'
        case measure => omega
        case rel => exact ⟨p + 1, by go_num, by omega, by omega, rfl, by omega⟩
    · have hpe : p = at1 := by omega
      subst hpe
      clear hp
      go_upto_region 10 with (first | (go_at_call 18; refine (cL _).mono ?_; rintro e w1 ⟨rfl, hw1⟩; obtain rfl := hw1.symm) | (go_at_call 23; refine (rtok_ok b s p at_ false _ hs ((h.alloc _).alloc _) ha1s LN HLN.out 3 t n HT.out ⟨#[41]⟩ HX.out).mono ?_; rintro e w1 ⟨rfl, hb1⟩))
      obtain ⟨hR, hF, hZ, hM, hB, hsz⟩ := rn_cells h (.cells #[.int .i64 0, .string ⟨#[]⟩, .int .i64 0] 36) (.cells #[.int .i64 0, .string ⟨#[]⟩, .int .i64 0] 26) hb1 (.cells #[.int .i64 3, .string ⟨#[41]⟩, .int .i64 LN] 36)
      obtain ⟨⟨k0, k1, k2⟩, q0, q1, q2⟩ := block_cells hF
      obtain ⟨⟨z0, z1, z2⟩, r0, r1, r2⟩ := block_cells hZ
      obtain ⟨⟨m0, m1, m2⟩, _, _, _⟩ := block_cells hM
      have x0 := hR.c0
      have x1 := hR.c1
      have x2 := hR.c2
      have f1 := hR.fz 1
      have f2 := hR.fz 2
      have hne : b ≠ w.heap.size := by omega
      have hne1 : b ≠ w.heap.size + 1 := by omega
      have hne2 : b ≠ w1.heap.size := by omega
      have hnm : w1.heap.size ≠ w.heap.size := by omega
      have hnm1 : w1.heap.size ≠ w.heap.size + 1 := by omega
      clear hF hZ hM hb1 c0 c1 c2
      go_wp2
      refine bodyPost_ret (v := .tuple #[.agg #[.int .i64 3, .string ⟨#[41]⟩, .int .i64 LN], .agg #[.int .i64 0, .string ⟨#[]⟩, .int .i64 0]]) (by simp [results, Tryd.results13, go_sem, k0, k1, k2, q0, q1, q2, z0, z1, z2, r0, r1, r2]) rfl ⟨rfl, hR.put1.put2.six hlt _ _ _ _ _ _, ((hB.setCell 1 _).setCell 2 _).six _ _ _ _ _ _⟩

set_option maxRecDepth 100000 in
set_option maxHeartbeats 8000000 in
theorem rnx_f_k3_93 (b : Nat) (s : ByteArray) (at_ : Nat) (w : World) (hs : s.size ≤ 1048576) (h : RSc w b s at_ false) (hat : at_ ≤ s.size) (at1 : Nat) (ha1 : at_ + ((s.data.toList.drop at_).takeWhile (blankB false)).length = at1) (LN : Nat) (hLN : 1 + nls (s.data.toList.take at1) = LN) (he : at1 < s.size) (hd : blankB false (s[at1]'he) = false) (t : List UInt8) (n : Nat) (ht : tokL (s.data.toList.drop at1) = (3, t, (n : Int))) (X : ByteArray) (hX : bs t = X) (hn : n ≤ 1048576) (hx : X = ⟨#[93]⟩) :
    Calls Tryd.prog 13 #[.pointer (some ⟨b, 0, none⟩)] w fun e w' => e = .returned (.tuple #[.agg #[.int .i64 3, .string X, .int .i64 LN], .agg #[.int .i64 0, .string ⟨#[]⟩, .int .i64 0]]) ∧ RSc w' b s ((at1 + n : Nat) : Int) true ∧ But b w w' := by
  have ha1s : at1 ≤ s.size := by
    have := tw_le (blankB false) (s.data.toList.drop at_)
    rw [List.length_drop, ← Lib.size_eq] at this
    omega
  have c0 := h.c0
  have c1 := h.c1
  have c2 := h.c2
  have hlt := h.lt
  have cL := fun W => rline_any s at1 W hs ha1s
  rw [hLN] at cL
  have HLN := Lib.hid hLN
  have HA := Lib.hid ha1
  have hat1 : at_ ≤ at1 := by omega
  obtain ⟨d, hdd⟩ : ∃ d : Nat, (s[at1]'he).toNat = d := ⟨_, rfl⟩
  obtain ⟨d32, d9, d13, d10⟩ := no_blank hdd hd
  have hei : (at1 : Int) < (s.size : Int) := by omega
  have HT := Lib.hid ht
  have HX := Lib.hid hX
  subst hx
  clear hLN ha1 hd ht hX
  go_enter Tryd.func13, Tryd.ntmps13
  go_wp2
  go_loopg [4] (at1 - at_) (fun gf nv wx => ∃ p : Nat, nv = .int .i64 p ∧ at_ ≤ p ∧ p ≤ at1 ∧ Hid (wx = (w.alloc (.cells #[.int .i64 0, .string ⟨#[]⟩, .int .i64 0] 36)).alloc (.cells #[.int .i64 0, .string ⟨#[]⟩, .int .i64 0] 26)) ∧ at1 ≤ p + gf)
  case atStart => exact ⟨at_, rfl, by omega, hat1, rfl, by omega⟩
  case round =>
    obtain ⟨p, rfl, hp0, hp1, hw, hfu⟩ := hrel
    obtain rfl := hw.out
    clear hw
    by_cases hp : p < at1
    · obtain ⟨g', rfl⟩ : ∃ g', gk = g' + 1 := ⟨gk - 1, by omega⟩
      have hps : p < s.size := by omega
      obtain ⟨y, hy⟩ : ∃ y : Nat, (s[p]'hps).toNat = y := ⟨_, rfl⟩
      have hbl := blank_at s at_ p false hp0 hps (by rw [HA.out]; exact hp)
      have hpi : (p : Int) < (s.size : Int) := by omega
      have hcs := blank_cases hy hbl
      clear hbl
      rcases hcs with hcs | hcs | hcs | ⟨hcs, -⟩
      · have y1 : ((y : Int) == 32) = true := by rw [beq_iff_eq]; omega
        clear hcs
        go_wp2
        go_roundg g'
        case measure => omega
        case rel => exact ⟨p + 1, by go_num, by omega, by omega, rfl, by omega⟩
      · have y1 : ((y : Int) == 9) = true := by rw [beq_iff_eq]; omega
        have z0 : ((y : Int) == 32) = false := by rw [beq_eq_false_iff_ne]; omega
        clear hcs
        go_wp2
        go_roundg g'
        case measure => omega
        case rel => exact ⟨p + 1, by go_num, by omega, by omega, rfl, by omega⟩
      · have y1 : ((y : Int) == 13) = true := by rw [beq_iff_eq]; omega
        have z0 : ((y : Int) == 32) = false := by rw [beq_eq_false_iff_ne]; omega
        have z1 : ((y : Int) == 9) = false := by rw [beq_eq_false_iff_ne]; omega
        clear hcs
        go_wp2
        go_roundg g'
        case measure => omega
        case rel => exact ⟨p + 1, by go_num, by omega, by omega, rfl, by omega⟩
      · have y1 : ((y : Int) == 10) = true := by rw [beq_iff_eq]; omega
        have z0 : ((y : Int) == 32) = false := by rw [beq_eq_false_iff_ne]; omega
        have z1 : ((y : Int) == 9) = false := by rw [beq_eq_false_iff_ne]; omega
        have z2 : ((y : Int) == 13) = false := by rw [beq_eq_false_iff_ne]; omega
        clear hcs
        go_wp2
        go_roundg g'
        case measure => omega
        case rel => exact ⟨p + 1, by go_num, by omega, by omega, rfl, by omega⟩
    · have hpe : p = at1 := by omega
      subst hpe
      clear hp
      go_upto_region 10 with (first | (go_at_call 18; refine (cL _).mono ?_; rintro e w1 ⟨rfl, hw1⟩; obtain rfl := hw1.symm) | (go_at_call 23; refine (rtok_ok b s p at_ false _ hs ((h.alloc _).alloc _) ha1s LN HLN.out 3 t n HT.out ⟨#[93]⟩ HX.out).mono ?_; rintro e w1 ⟨rfl, hb1⟩))
      obtain ⟨hR, hF, hZ, hM, hB, hsz⟩ := rn_cells h (.cells #[.int .i64 0, .string ⟨#[]⟩, .int .i64 0] 36) (.cells #[.int .i64 0, .string ⟨#[]⟩, .int .i64 0] 26) hb1 (.cells #[.int .i64 3, .string ⟨#[93]⟩, .int .i64 LN] 36)
      obtain ⟨⟨k0, k1, k2⟩, q0, q1, q2⟩ := block_cells hF
      obtain ⟨⟨z0, z1, z2⟩, r0, r1, r2⟩ := block_cells hZ
      obtain ⟨⟨m0, m1, m2⟩, _, _, _⟩ := block_cells hM
      have x0 := hR.c0
      have x1 := hR.c1
      have x2 := hR.c2
      have f1 := hR.fz 1
      have f2 := hR.fz 2
      have hne : b ≠ w.heap.size := by omega
      have hne1 : b ≠ w.heap.size + 1 := by omega
      have hne2 : b ≠ w1.heap.size := by omega
      have hnm : w1.heap.size ≠ w.heap.size := by omega
      have hnm1 : w1.heap.size ≠ w.heap.size + 1 := by omega
      clear hF hZ hM hb1 c0 c1 c2
      go_wp2
      refine bodyPost_ret (v := .tuple #[.agg #[.int .i64 3, .string ⟨#[93]⟩, .int .i64 LN], .agg #[.int .i64 0, .string ⟨#[]⟩, .int .i64 0]]) (by simp [results, Tryd.results13, go_sem, k0, k1, k2, q0, q1, q2, z0, z1, z2, r0, r1, r2]) rfl ⟨rfl, hR.put1.put2.six hlt _ _ _ _ _ _, ((hB.setCell 1 _).setCell 2 _).six _ _ _ _ _ _⟩

set_option maxRecDepth 100000 in
set_option maxHeartbeats 8000000 in
theorem rnx_f_k3_125 (b : Nat) (s : ByteArray) (at_ : Nat) (w : World) (hs : s.size ≤ 1048576) (h : RSc w b s at_ false) (hat : at_ ≤ s.size) (at1 : Nat) (ha1 : at_ + ((s.data.toList.drop at_).takeWhile (blankB false)).length = at1) (LN : Nat) (hLN : 1 + nls (s.data.toList.take at1) = LN) (he : at1 < s.size) (hd : blankB false (s[at1]'he) = false) (t : List UInt8) (n : Nat) (ht : tokL (s.data.toList.drop at1) = (3, t, (n : Int))) (X : ByteArray) (hX : bs t = X) (hn : n ≤ 1048576) (hx : X = ⟨#[125]⟩) :
    Calls Tryd.prog 13 #[.pointer (some ⟨b, 0, none⟩)] w fun e w' => e = .returned (.tuple #[.agg #[.int .i64 3, .string X, .int .i64 LN], .agg #[.int .i64 0, .string ⟨#[]⟩, .int .i64 0]]) ∧ RSc w' b s ((at1 + n : Nat) : Int) true ∧ But b w w' := by
  have ha1s : at1 ≤ s.size := by
    have := tw_le (blankB false) (s.data.toList.drop at_)
    rw [List.length_drop, ← Lib.size_eq] at this
    omega
  have c0 := h.c0
  have c1 := h.c1
  have c2 := h.c2
  have hlt := h.lt
  have cL := fun W => rline_any s at1 W hs ha1s
  rw [hLN] at cL
  have HLN := Lib.hid hLN
  have HA := Lib.hid ha1
  have hat1 : at_ ≤ at1 := by omega
  obtain ⟨d, hdd⟩ : ∃ d : Nat, (s[at1]'he).toNat = d := ⟨_, rfl⟩
  obtain ⟨d32, d9, d13, d10⟩ := no_blank hdd hd
  have hei : (at1 : Int) < (s.size : Int) := by omega
  have HT := Lib.hid ht
  have HX := Lib.hid hX
  subst hx
  clear hLN ha1 hd ht hX
  go_enter Tryd.func13, Tryd.ntmps13
  go_wp2
  go_loopg [4] (at1 - at_) (fun gf nv wx => ∃ p : Nat, nv = .int .i64 p ∧ at_ ≤ p ∧ p ≤ at1 ∧ Hid (wx = (w.alloc (.cells #[.int .i64 0, .string ⟨#[]⟩, .int .i64 0] 36)).alloc (.cells #[.int .i64 0, .string ⟨#[]⟩, .int .i64 0] 26)) ∧ at1 ≤ p + gf)
  case atStart => exact ⟨at_, rfl, by omega, hat1, rfl, by omega⟩
  case round =>
    obtain ⟨p, rfl, hp0, hp1, hw, hfu⟩ := hrel
    obtain rfl := hw.out
    clear hw
    by_cases hp : p < at1
    · obtain ⟨g', rfl⟩ : ∃ g', gk = g' + 1 := ⟨gk - 1, by omega⟩
      have hps : p < s.size := by omega
      obtain ⟨y, hy⟩ : ∃ y : Nat, (s[p]'hps).toNat = y := ⟨_, rfl⟩
      have hbl := blank_at s at_ p false hp0 hps (by rw [HA.out]; exact hp)
      have hpi : (p : Int) < (s.size : Int) := by omega
      have hcs := blank_cases hy hbl
      clear hbl
      rcases hcs with hcs | hcs | hcs | ⟨hcs, -⟩
      · have y1 : ((y : Int) == 32) = true := by rw [beq_iff_eq]; omega
        clear hcs
        go_wp2
        go_roundg g'
        case measure => omega
        case rel => exact ⟨p + 1, by go_num, by omega, by omega, rfl, by omega⟩
      · have y1 : ((y : Int) == 9) = true := by rw [beq_iff_eq]; omega
        have z0 : ((y : Int) == 32) = false := by rw [beq_eq_false_iff_ne]; omega
        clear hcs
        go_wp2
        go_roundg g'
        case measure => omega
        case rel => exact ⟨p + 1, by go_num, by omega, by omega, rfl, by omega⟩
      · have y1 : ((y : Int) == 13) = true := by rw [beq_iff_eq]; omega
        have z0 : ((y : Int) == 32) = false := by rw [beq_eq_false_iff_ne]; omega
        have z1 : ((y : Int) == 9) = false := by rw [beq_eq_false_iff_ne]; omega
        clear hcs
        go_wp2
        go_roundg g'
        case measure => omega
        case rel => exact ⟨p + 1, by go_num, by omega, by omega, rfl, by omega⟩
      · have y1 : ((y : Int) == 10) = true := by rw [beq_iff_eq]; omega
        have z0 : ((y : Int) == 32) = false := by rw [beq_eq_false_iff_ne]; omega
        have z1 : ((y : Int) == 9) = false := by rw [beq_eq_false_iff_ne]; omega
        have z2 : ((y : Int) == 13) = false := by rw [beq_eq_false_iff_ne]; omega
        clear hcs
        go_wp2
        go_roundg g'
        case measure => omega
        case rel => exact ⟨p + 1, by go_num, by omega, by omega, rfl, by omega⟩
    · have hpe : p = at1 := by omega
      subst hpe
      clear hp
      go_upto_region 10 with (first | (go_at_call 18; refine (cL _).mono ?_; rintro e w1 ⟨rfl, hw1⟩; obtain rfl := hw1.symm) | (go_at_call 23; refine (rtok_ok b s p at_ false _ hs ((h.alloc _).alloc _) ha1s LN HLN.out 3 t n HT.out ⟨#[125]⟩ HX.out).mono ?_; rintro e w1 ⟨rfl, hb1⟩))
      obtain ⟨hR, hF, hZ, hM, hB, hsz⟩ := rn_cells h (.cells #[.int .i64 0, .string ⟨#[]⟩, .int .i64 0] 36) (.cells #[.int .i64 0, .string ⟨#[]⟩, .int .i64 0] 26) hb1 (.cells #[.int .i64 3, .string ⟨#[125]⟩, .int .i64 LN] 36)
      obtain ⟨⟨k0, k1, k2⟩, q0, q1, q2⟩ := block_cells hF
      obtain ⟨⟨z0, z1, z2⟩, r0, r1, r2⟩ := block_cells hZ
      obtain ⟨⟨m0, m1, m2⟩, _, _, _⟩ := block_cells hM
      have x0 := hR.c0
      have x1 := hR.c1
      have x2 := hR.c2
      have f1 := hR.fz 1
      have f2 := hR.fz 2
      have hne : b ≠ w.heap.size := by omega
      have hne1 : b ≠ w.heap.size + 1 := by omega
      have hne2 : b ≠ w1.heap.size := by omega
      have hnm : w1.heap.size ≠ w.heap.size := by omega
      have hnm1 : w1.heap.size ≠ w.heap.size + 1 := by omega
      clear hF hZ hM hb1 c0 c1 c2
      go_wp2
      refine bodyPost_ret (v := .tuple #[.agg #[.int .i64 3, .string ⟨#[125]⟩, .int .i64 LN], .agg #[.int .i64 0, .string ⟨#[]⟩, .int .i64 0]]) (by simp [results, Tryd.results13, go_sem, k0, k1, k2, q0, q1, q2, z0, z1, z2, r0, r1, r2]) rfl ⟨rfl, hR.put1.put2.six hlt _ _ _ _ _ _, ((hB.setCell 1 _).setCell 2 _).six _ _ _ _ _ _⟩

set_option maxRecDepth 100000 in
set_option maxHeartbeats 8000000 in
theorem rnx_f_k3_o (b : Nat) (s : ByteArray) (at_ : Nat) (w : World) (hs : s.size ≤ 1048576) (h : RSc w b s at_ false) (hat : at_ ≤ s.size) (at1 : Nat) (ha1 : at_ + ((s.data.toList.drop at_).takeWhile (blankB false)).length = at1) (LN : Nat) (hLN : 1 + nls (s.data.toList.take at1) = LN) (he : at1 < s.size) (hd : blankB false (s[at1]'he) = false) (t : List UInt8) (n : Nat) (ht : tokL (s.data.toList.drop at1) = (3, t, (n : Int))) (X : ByteArray) (hX : bs t = X) (hn : n ≤ 1048576) (x1 : (X.toList == [41]) = false) (x2 : (X.toList == [93]) = false) (x3 : (X.toList == [125]) = false) :
    Calls Tryd.prog 13 #[.pointer (some ⟨b, 0, none⟩)] w fun e w' => e = .returned (.tuple #[.agg #[.int .i64 3, .string X, .int .i64 LN], .agg #[.int .i64 0, .string ⟨#[]⟩, .int .i64 0]]) ∧ RSc w' b s ((at1 + n : Nat) : Int) false ∧ But b w w' := by
  have ha1s : at1 ≤ s.size := by
    have := tw_le (blankB false) (s.data.toList.drop at_)
    rw [List.length_drop, ← Lib.size_eq] at this
    omega
  have c0 := h.c0
  have c1 := h.c1
  have c2 := h.c2
  have hlt := h.lt
  have cL := fun W => rline_any s at1 W hs ha1s
  rw [hLN] at cL
  have HLN := Lib.hid hLN
  have HA := Lib.hid ha1
  have hat1 : at_ ≤ at1 := by omega
  obtain ⟨d, hdd⟩ : ∃ d : Nat, (s[at1]'he).toNat = d := ⟨_, rfl⟩
  obtain ⟨d32, d9, d13, d10⟩ := no_blank hdd hd
  have hei : (at1 : Int) < (s.size : Int) := by omega
  have HT := Lib.hid ht
  have HX := Lib.hid hX
  clear hLN ha1 hd ht hX
  go_enter Tryd.func13, Tryd.ntmps13
  go_wp2
  go_loopg [4] (at1 - at_) (fun gf nv wx => ∃ p : Nat, nv = .int .i64 p ∧ at_ ≤ p ∧ p ≤ at1 ∧ Hid (wx = (w.alloc (.cells #[.int .i64 0, .string ⟨#[]⟩, .int .i64 0] 36)).alloc (.cells #[.int .i64 0, .string ⟨#[]⟩, .int .i64 0] 26)) ∧ at1 ≤ p + gf)
  case atStart => exact ⟨at_, rfl, by omega, hat1, rfl, by omega⟩
  case round =>
    obtain ⟨p, rfl, hp0, hp1, hw, hfu⟩ := hrel
    obtain rfl := hw.out
    clear hw
    by_cases hp : p < at1
    · obtain ⟨g', rfl⟩ : ∃ g', gk = g' + 1 := ⟨gk - 1, by omega⟩
      have hps : p < s.size := by omega
      obtain ⟨y, hy⟩ : ∃ y : Nat, (s[p]'hps).toNat = y := ⟨_, rfl⟩
      have hbl := blank_at s at_ p false hp0 hps (by rw [HA.out]; exact hp)
      have hpi : (p : Int) < (s.size : Int) := by omega
      have hcs := blank_cases hy hbl
      clear hbl
      rcases hcs with hcs | hcs | hcs | ⟨hcs, -⟩
      · have y1 : ((y : Int) == 32) = true := by rw [beq_iff_eq]; omega
        clear hcs
        go_wp2
        go_roundg g'
        case measure => omega
        case rel => exact ⟨p + 1, by go_num, by omega, by omega, rfl, by omega⟩
      · have y1 : ((y : Int) == 9) = true := by rw [beq_iff_eq]; omega
        have z0 : ((y : Int) == 32) = false := by rw [beq_eq_false_iff_ne]; omega
        clear hcs
        go_wp2
        go_roundg g'
        case measure => omega
        case rel => exact ⟨p + 1, by go_num, by omega, by omega, rfl, by omega⟩
      · have y1 : ((y : Int) == 13) = true := by rw [beq_iff_eq]; omega
        have z0 : ((y : Int) == 32) = false := by rw [beq_eq_false_iff_ne]; omega
        have z1 : ((y : Int) == 9) = false := by rw [beq_eq_false_iff_ne]; omega
        clear hcs
        go_wp2
        go_roundg g'
        case measure => omega
        case rel => exact ⟨p + 1, by go_num, by omega, by omega, rfl, by omega⟩
      · have y1 : ((y : Int) == 10) = true := by rw [beq_iff_eq]; omega
        have z0 : ((y : Int) == 32) = false := by rw [beq_eq_false_iff_ne]; omega
        have z1 : ((y : Int) == 9) = false := by rw [beq_eq_false_iff_ne]; omega
        have z2 : ((y : Int) == 13) = false := by rw [beq_eq_false_iff_ne]; omega
        clear hcs
        go_wp2
        go_roundg g'
        case measure => omega
        case rel => exact ⟨p + 1, by go_num, by omega, by omega, rfl, by omega⟩
    · have hpe : p = at1 := by omega
      subst hpe
      clear hp
      go_upto_region 10 with (first | (go_at_call 18; refine (cL _).mono ?_; rintro e w1 ⟨rfl, hw1⟩; obtain rfl := hw1.symm) | (go_at_call 23; refine (rtok_ok b s p at_ false _ hs ((h.alloc _).alloc _) ha1s LN HLN.out 3 t n HT.out X HX.out).mono ?_; rintro e w1 ⟨rfl, hb1⟩))
      obtain ⟨hR, hF, hZ, hM, hB, hsz⟩ := rn_cells h (.cells #[.int .i64 0, .string ⟨#[]⟩, .int .i64 0] 36) (.cells #[.int .i64 0, .string ⟨#[]⟩, .int .i64 0] 26) hb1 (.cells #[.int .i64 3, .string X, .int .i64 LN] 36)
      obtain ⟨⟨k0, k1, k2⟩, q0, q1, q2⟩ := block_cells hF
      obtain ⟨⟨z0, z1, z2⟩, r0, r1, r2⟩ := block_cells hZ
      obtain ⟨⟨m0, m1, m2⟩, _, _, _⟩ := block_cells hM
      have x0 := hR.c0
      have x1 := hR.c1
      have x2 := hR.c2
      have f1 := hR.fz 1
      have f2 := hR.fz 2
      have hne : b ≠ w.heap.size := by omega
      have hne1 : b ≠ w.heap.size + 1 := by omega
      have hne2 : b ≠ w1.heap.size := by omega
      have hnm : w1.heap.size ≠ w.heap.size := by omega
      have hnm1 : w1.heap.size ≠ w.heap.size + 1 := by omega
      clear hF hZ hM hb1 c0 c1 c2
      go_wp2
      refine bodyPost_ret (v := .tuple #[.agg #[.int .i64 3, .string X, .int .i64 LN], .agg #[.int .i64 0, .string ⟨#[]⟩, .int .i64 0]]) (by simp [results, Tryd.results13, go_sem, k0, k1, k2, q0, q1, q2, z0, z1, z2, r0, r1, r2]) rfl ⟨rfl, hR.put1.put2.six hlt _ _ _ _ _ _, ((hB.setCell 1 _).setCell 2 _).six _ _ _ _ _ _⟩

set_option maxRecDepth 100000 in
set_option maxHeartbeats 8000000 in
theorem rnx_f_k4 (b : Nat) (s : ByteArray) (at_ : Nat) (w : World) (hs : s.size ≤ 1048576) (h : RSc w b s at_ false) (hat : at_ ≤ s.size) (at1 : Nat) (ha1 : at_ + ((s.data.toList.drop at_).takeWhile (blankB false)).length = at1) (LN : Nat) (hLN : 1 + nls (s.data.toList.take at1) = LN) (he : at1 < s.size) (hd : blankB false (s[at1]'he) = false) (t : List UInt8) (n : Nat) (ht : tokL (s.data.toList.drop at1) = (4, t, (n : Int))) (X : ByteArray) (hX : bs t = X) (hn : n ≤ 1048576) :
    Calls Tryd.prog 13 #[.pointer (some ⟨b, 0, none⟩)] w fun e w' => e = .returned (.tuple #[.agg #[.int .i64 4, .string X, .int .i64 LN], .agg #[.int .i64 0, .string ⟨#[]⟩, .int .i64 0]]) ∧ RSc w' b s ((at1 + n : Nat) : Int) false ∧ But b w w' := by
  have ha1s : at1 ≤ s.size := by
    have := tw_le (blankB false) (s.data.toList.drop at_)
    rw [List.length_drop, ← Lib.size_eq] at this
    omega
  have c0 := h.c0
  have c1 := h.c1
  have c2 := h.c2
  have hlt := h.lt
  have cL := fun W => rline_any s at1 W hs ha1s
  rw [hLN] at cL
  have HLN := Lib.hid hLN
  have HA := Lib.hid ha1
  have hat1 : at_ ≤ at1 := by omega
  obtain ⟨d, hdd⟩ : ∃ d : Nat, (s[at1]'he).toNat = d := ⟨_, rfl⟩
  obtain ⟨d32, d9, d13, d10⟩ := no_blank hdd hd
  have hei : (at1 : Int) < (s.size : Int) := by omega
  have HT := Lib.hid ht
  have HX := Lib.hid hX
  clear hLN ha1 hd ht hX
  go_enter Tryd.func13, Tryd.ntmps13
  go_wp2
  go_loopg [4] (at1 - at_) (fun gf nv wx => ∃ p : Nat, nv = .int .i64 p ∧ at_ ≤ p ∧ p ≤ at1 ∧ Hid (wx = (w.alloc (.cells #[.int .i64 0, .string ⟨#[]⟩, .int .i64 0] 36)).alloc (.cells #[.int .i64 0, .string ⟨#[]⟩, .int .i64 0] 26)) ∧ at1 ≤ p + gf)
  case atStart => exact ⟨at_, rfl, by omega, hat1, rfl, by omega⟩
  case round =>
    obtain ⟨p, rfl, hp0, hp1, hw, hfu⟩ := hrel
    obtain rfl := hw.out
    clear hw
    by_cases hp : p < at1
    · obtain ⟨g', rfl⟩ : ∃ g', gk = g' + 1 := ⟨gk - 1, by omega⟩
      have hps : p < s.size := by omega
      obtain ⟨y, hy⟩ : ∃ y : Nat, (s[p]'hps).toNat = y := ⟨_, rfl⟩
      have hbl := blank_at s at_ p false hp0 hps (by rw [HA.out]; exact hp)
      have hpi : (p : Int) < (s.size : Int) := by omega
      have hcs := blank_cases hy hbl
      clear hbl
      rcases hcs with hcs | hcs | hcs | ⟨hcs, -⟩
      · have y1 : ((y : Int) == 32) = true := by rw [beq_iff_eq]; omega
        clear hcs
        go_wp2
        go_roundg g'
        case measure => omega
        case rel => exact ⟨p + 1, by go_num, by omega, by omega, rfl, by omega⟩
      · have y1 : ((y : Int) == 9) = true := by rw [beq_iff_eq]; omega
        have z0 : ((y : Int) == 32) = false := by rw [beq_eq_false_iff_ne]; omega
        clear hcs
        go_wp2
        go_roundg g'
        case measure => omega
        case rel => exact ⟨p + 1, by go_num, by omega, by omega, rfl, by omega⟩
      · have y1 : ((y : Int) == 13) = true := by rw [beq_iff_eq]; omega
        have z0 : ((y : Int) == 32) = false := by rw [beq_eq_false_iff_ne]; omega
        have z1 : ((y : Int) == 9) = false := by rw [beq_eq_false_iff_ne]; omega
        clear hcs
        go_wp2
        go_roundg g'
        case measure => omega
        case rel => exact ⟨p + 1, by go_num, by omega, by omega, rfl, by omega⟩
      · have y1 : ((y : Int) == 10) = true := by rw [beq_iff_eq]; omega
        have z0 : ((y : Int) == 32) = false := by rw [beq_eq_false_iff_ne]; omega
        have z1 : ((y : Int) == 9) = false := by rw [beq_eq_false_iff_ne]; omega
        have z2 : ((y : Int) == 13) = false := by rw [beq_eq_false_iff_ne]; omega
        clear hcs
        go_wp2
        go_roundg g'
        case measure => omega
        case rel => exact ⟨p + 1, by go_num, by omega, by omega, rfl, by omega⟩
    · have hpe : p = at1 := by omega
      subst hpe
      clear hp
      go_upto_region 10 with (first | (go_at_call 18; refine (cL _).mono ?_; rintro e w1 ⟨rfl, hw1⟩; obtain rfl := hw1.symm) | (go_at_call 23; refine (rtok_ok b s p at_ false _ hs ((h.alloc _).alloc _) ha1s LN HLN.out 4 t n HT.out X HX.out).mono ?_; rintro e w1 ⟨rfl, hb1⟩))
      obtain ⟨hR, hF, hZ, hM, hB, hsz⟩ := rn_cells h (.cells #[.int .i64 0, .string ⟨#[]⟩, .int .i64 0] 36) (.cells #[.int .i64 0, .string ⟨#[]⟩, .int .i64 0] 26) hb1 (.cells #[.int .i64 4, .string X, .int .i64 LN] 36)
      obtain ⟨⟨k0, k1, k2⟩, q0, q1, q2⟩ := block_cells hF
      obtain ⟨⟨z0, z1, z2⟩, r0, r1, r2⟩ := block_cells hZ
      obtain ⟨⟨m0, m1, m2⟩, _, _, _⟩ := block_cells hM
      have x0 := hR.c0
      have x1 := hR.c1
      have x2 := hR.c2
      have f1 := hR.fz 1
      have f2 := hR.fz 2
      have hne : b ≠ w.heap.size := by omega
      have hne1 : b ≠ w.heap.size + 1 := by omega
      have hne2 : b ≠ w1.heap.size := by omega
      have hnm : w1.heap.size ≠ w.heap.size := by omega
      have hnm1 : w1.heap.size ≠ w.heap.size + 1 := by omega
      clear hF hZ hM hb1 c0 c1 c2
      go_wp2
      refine bodyPost_ret (v := .tuple #[.agg #[.int .i64 4, .string X, .int .i64 LN], .agg #[.int .i64 0, .string ⟨#[]⟩, .int .i64 0]]) (by simp [results, Tryd.results13, go_sem, k0, k1, k2, q0, q1, q2, z0, z1, z2, r0, r1, r2]) rfl ⟨rfl, hR.put1.six hlt _ _ _ _ _ _, (hB.setCell 1 _).six _ _ _ _ _ _⟩
end Go.Proofs.YtkcjembmdiaclaaDoor
