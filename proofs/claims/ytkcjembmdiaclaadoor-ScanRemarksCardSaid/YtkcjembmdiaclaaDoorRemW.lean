/- The walk of the law ScanRemarks. -/
import Derived.Test.YtkcjembmdiaclaaDoorRemP
namespace Go.Proofs.YtkcjembmdiaclaaDoor
open Go.RowKit Go.Lib Go.Maps
set_option linter.unusedVariables false
set_option linter.unusedSimpArgs false

set_option maxRecDepth 100000 in
set_option maxHeartbeats 4000000 in
theorem remarks_big (s : ByteArray) (wide : Bool) (w : World) (hG : Glob w) (hbig : 256 < s.size) :
    Calls Tryd.prog 8 #[.string s, .bool wide] w fun e w' => e = .returned (.bool true) ∧ Below w.heap.size w w' := by
  have cS := shown_any w hG
  go_enter Tryd.func8, Tryd.ntmps8
  go_wp2_with (go_at_call 9; refine cS.mono ?_; rintro e w1 ⟨rfl, hb1⟩)
  go_ret
  exact ⟨rfl, hb1⟩

theorem app_list (a b : ByteArray) : (a ++ b).data.toList = a.data.toList ++ b.data.toList := by simp
theorem snoc_take (s : ByteArray) (k : Nat) (h : k < s.size) : s.data.toList.take (k + 1) = s.data.toList.take k ++ [s[k]] := by
  rw [List.take_succ_eq_append_getElem (by rw [Array.length_toList]; exact h)]
  rfl
theorem rem_snoc {s : ByteArray} {k : Nat} (h : k < s.size) (hA : ∀ c ∈ s.data.toList.take k, remOk c.toNat = true) (h123 : (32 ≤ ((s[k]'h).toNat : Int) ∧ ((s[k]'h).toNat : Int) ≤ 126) ∧ (((s[k]'h).toNat : Int) == 42) = false) : ∀ c ∈ s.data.toList.take (k + 1), remOk c.toNat = true := by
  intro c hc
  rw [snoc_take s k h, List.mem_append, List.mem_singleton] at hc
  rcases hc with hc | rfl
  · exact hA c hc
  · obtain ⟨⟨h1, h2⟩, h3⟩ := h123
    unfold remOk
    rw [beq_eq_false_iff_ne] at h3
    exact decide_eq_true ⟨by omega, by omega, by omega⟩

/-- What the law wants, token by token, in memory. -/
def remCells (C : ByteArray) : Array Value := #[.int .i64 1, .string ⟨#[97]⟩, .int .i64 1, .int .i64 4, .string C, .int .i64 1, .int .i64 3, .string ⟨#[10]⟩, .int .i64 1, .int .i64 1, .string ⟨#[98]⟩, .int .i64 2, .int .i64 3, .string ⟨#[10]⟩, .int .i64 2, .int .i64 0, .string ⟨#[]⟩, .int .i64 2, .int .i64 0, .string ⟨#[]⟩, .int .i64 2]

theorem rem_cells (cc : List UInt8) (C : ByteArray) (hC : bs cc = C) (k : Nat) (hk : k < 7) : (remCells C)[k * 3]? = some (.int .i64 (remTk cc k).1) ∧ (remCells C)[k * 3 + 1]? = some (.string (bs (remTk cc k).2.1)) ∧ (remCells C)[k * 3 + 2]? = some (.int .i64 ((remTk cc k).2.2 : Nat)) := by
  subst hC
  have : k = 0 ∨ k = 1 ∨ k = 2 ∨ k = 3 ∨ k = 4 ∨ k = 5 ∨ k = 6 := by omega
  rcases this with rfl | rfl | rfl | rfl | rfl | rfl | rfl <;> exact ⟨rfl, rfl, rfl⟩
/-- Each step of the scanner over such a source. -/
def RemSteps (cc : List UInt8) : Prop := ∀ k, nxt (remSt cc k).1 (remSt cc k).2.1 (remSt cc k).2.2 =
  ⟨(remTk cc k).1, (remTk cc k).2.1, (remTk cc k).2.2, 0, 0, (remSt cc (k + 1)).1, (remSt cc (k + 1)).2.1, (remSt cc (k + 1)).2.2⟩
theorem RemSteps.at_ {cc : List UInt8} (h : RemSteps cc) (k : Nat) : nxt (remSt cc k).1 (remSt cc k).2.1 (remSt cc k).2.2 =
  ⟨(remTk cc k).1, (remTk cc k).2.1, (remTk cc k).2.2, 0, 0, (remSt cc (k + 1)).1, (remSt cc (k + 1)).2.1, (remSt cc (k + 1)).2.2⟩ := h k
theorem rem_small (cc : List UInt8) (k : Nat) : (remSt cc k).1.length ≤ cc.length + 4 ∧ (remSt cc k).2.1 ≤ 2 := by
  match k with
  | 0 => simp [remSt]
  | 1 => simp [remSt]
  | 2 => simp [remSt]
  | 3 => simp [remSt]
  | 4 => simp [remSt]
  | k + 5 => simp [remSt]

set_option maxRecDepth 100000 in
set_option maxHeartbeats 8000000 in
theorem remarks_small (s : ByteArray) (wide : Bool) (w : World) (hG : Glob w) (hsmall : s.size ≤ 256) :
    Calls Tryd.prog 8 #[.string s, .bool wide] w fun e w' => e = .returned (.bool true) ∧ Below w.heap.size w w' := by
  have cS := shown_any w hG
  have hd : decide ((256 : Int) < (s.size : Int)) = false := decide_eq_false (by omega)
  go_enter Tryd.func8, Tryd.ntmps8
  go_wp2_with (go_at_call 9; refine cS.mono ?_; rintro e w1 ⟨rfl, hb1⟩)
  have hG1 := hG.below hb1
  go_loopg [5] s.size (fun gf i wx => ∃ k : Nat, i = .int .i64 k ∧ Hid (wx = w1) ∧ k ≤ s.size ∧ Hid (∀ c ∈ s.data.toList.take k, remOk c.toNat = true) ∧ s.size ≤ k + gf)
  case atStart => exact ⟨0, rfl, rfl, by omega, by intro c hc; simp at hc, by omega⟩
  case round =>
    obtain ⟨k, rfl, hw, hk, HA, hfu⟩ := hrel
    obtain rfl := hw.out
    clear hw
    have cS1 := shown_any _ hG1
    by_cases hlt : k < s.size
    · obtain ⟨g', rfl⟩ : ∃ g', gk = g' + 1 := ⟨gk - 1, by omega⟩
      go_wp2_with (go_at_call 9; refine cS1.mono ?_; rintro e w2 ⟨rfl, hb2⟩)
      · go_ret
        exact ⟨rfl, hb1.trans (hb2.mono hb1.size)⟩
      · go_roundg g'
        case measure => omega
        case rel => exact ⟨k + 1, by go_num, rfl, by omega, rem_snoc hlt HA.out (by assumption), by omega⟩
      · go_ret
        exact ⟨rfl, hb1.trans (hb2.mono hb1.size)⟩
      · go_ret
        exact ⟨rfl, hb1.trans (hb2.mono hb1.size)⟩
    · have hall : ∀ c ∈ s.data.toList, remOk c.toNat = true := by
        have h := HA.out
        rw [List.take_of_length_le (by rw [Array.length_toList]; exact Nat.le_of_not_lt hlt)] at h
        exact h
      clear HA
      -- the source
      obtain ⟨C, hC⟩ : ∃ C : ByteArray, (if wide = true then (({ data := #[47, 42] } : ByteArray) ++ s ++ ({ data := #[42, 47] } : ByteArray)) else (({ data := #[47, 47] } : ByteArray) ++ s)) = C := ⟨_, rfl⟩
      have hCl : C.data.toList = remC wide s.data.toList := by
        rw [← hC]
        cases wide
        · rw [if_neg (by simp), app_list]; rfl
        · rw [if_pos rfl, app_list, app_list]
          show [47, 42] ++ s.data.toList ++ [42, 47] = 47 :: 42 :: (s.data.toList ++ [42, 47])
          simp
      have hXl : (({ data := #[97, 32] } : ByteArray) ++ C ++ ({ data := #[10, 98] } : ByteArray)).data.toList = 97 :: 32 :: (remC wide s.data.toList ++ [10, 98]) := by
        rw [app_list, app_list, hCl]
        show [97, 32] ++ remC wide s.data.toList ++ [10, 98] = _
        simp
      have hrl : (remC wide s.data.toList).length ≤ s.size + 4 := by
        rw [Lib.size_eq]
        cases wide <;> simp [remC]
      have hXs : (({ data := #[97, 32] } : ByteArray) ++ C ++ ({ data := #[10, 98] } : ByteArray)).size ≤ 264 := by
        rw [Lib.size_eq, hXl]
        simp
        omega
      have hCs : C.size ≤ 260 := by rw [Lib.size_eq, hCl]; omega
      have cN := new_good (({ data := #[97, 32] } : ByteArray) ++ C ++ ({ data := #[10, 98] } : ByteArray)) wr (by omega) hG1 (ascii_good _ (by rw [hXl]; exact rem_good wide _ hall)) (97 :: 32 :: (remC wide s.data.toList ++ [10, 98])) (by rw [hXl]; exact trim_none _ (by simp))
      have hbsC : bs (remC wide s.data.toList) = C := by rw [← hCl, bs_of]
      have hstep : RemSteps (remC wide s.data.toList) := rem_step wide s.data.toList hall
      obtain ⟨cc, hcc⟩ : ∃ cc, remC wide s.data.toList = cc := ⟨_, rfl⟩
      rw [hcc] at cN hstep hbsC hrl
      have HBC := Lib.hid hbsC
      have hlt2 := glob_lt hG
      clear hall hXl hCl hbsC hcc hXs cS cS1
      go_upto_if 46 with (fail)
      go_cut [6] (fun v6 wc => v6 = .string C ∧ Hid (wc = wr))
      case first =>
        cases wide
        · rw [if_neg (by simp)] at hC
          go_wp2
          go_meet
          case rel => exact ⟨congrArg Value.string hC, rfl⟩
        · rw [if_pos rfl] at hC
          go_wp2
          go_meet
          case rel => exact ⟨rfl, rfl⟩
      case rest =>
        obtain ⟨rfl, hwc⟩ := hcut
        obtain rfl := hwc.out
        clear hwc hC hd
        go_wp2_with (go_at_call 10; refine cN.mono ?_; rintro e w2 ⟨b, hb, rfl, hs2, hb2⟩)
        clear cN
        have hbw2 := hb1.trans (hb2.mono hb1.size)
        have hbB : w.heap.size ≤ b := Nat.le_trans hb1.size hb
        have hblt := hs2.lt
        go_loopg [10] 7 (fun gf i wx => ∃ k2 : Nat, i = .int .i64 k2 ∧ k2 ≤ 7 ∧ Sc wx b (remSt cc k2).1 ((remSt cc k2).2.1 : Nat) (remSt cc k2).2.2 ∧ wx.heap[w2.heap.size + 1]? = some (.cells (remCells C) 33 (0, 0)) ∧ Below w.heap.size w wx ∧ 7 ≤ k2 + gf)
        case atStart =>
          refine ⟨0, rfl, by omega, (hs2.alloc _).alloc _, ?_, (hbw2.alloc hbw2.size _).alloc (by have := hbw2.size; simp; omega) _, by omega⟩
          have h := heap_alloc_new (w2.alloc (.cells #[.int .i64 0, .string ⟨#[]⟩, .int .i64 0] 26)) (.cells (remCells C) 33)
          rw [show (w2.alloc (.cells #[.int .i64 0, .string ⟨#[]⟩, .int .i64 0] 26)).heap.size = w2.heap.size + 1 by simp] at h
          exact h
        case round =>
          obtain ⟨k2, rfl, hk2, hsc, hwant, hbw, hfu2⟩ := hrel
          by_cases hlt7 : k2 < 7
          · obtain ⟨g', rfl⟩ : ∃ g', gk = g' + 1 := ⟨gk - 1, by omega⟩
            obtain ⟨m, hm⟩ := (hG.below hbw).maxLen
            obtain ⟨q0, q1, q2⟩ := rem_cells cc C HBC.out k2 hlt7
            obtain ⟨sm1, sm2⟩ := rem_small cc k2
            have cX := next_is b (remSt cc k2).1 (remSt cc k2).2.1 (remSt cc k2).2.2 wr (by omega) (by omega) hsc m hm (by omega) (remTk cc k2).1 (remTk cc k2).2.1 (bs (remTk cc k2).2.1) (remTk cc k2).2.2 0 0 _ _ _ (hstep.at_ k2) rfl
            obtain ⟨kk, hkk⟩ : ∃ kk, (remTk cc k2).1 = kk := ⟨_, rfl⟩
            obtain ⟨T, hTT⟩ : ∃ T, bs (remTk cc k2).2.1 = T := ⟨_, rfl⟩
            obtain ⟨ln, hln⟩ : ∃ ln, (remTk cc k2).2.2 = ln := ⟨_, rfl⟩
            rw [hkk, hTT, hln] at cX
            rw [hkk] at q0
            rw [hTT] at q1
            rw [hln] at q2
            have HW := Lib.hid hwant
            clear hkk hTT hln hwant sm1 sm2
            have HQ := Lib.hid (And.intro q0 (And.intro q1 q2))
            clear q0 q1 q2
            go_upto_region 19 with (go_at_call 12; refine cX.mono ?_; rintro e w3 ⟨rfl, hs3, hbt3⟩)
            have hwant3 := hbt3.keep HW.out (by omega)
            have hi1 : (k2 : Int) < 7 := by omega
            have hi0 : (0 : Int) ≤ (k2 : Int) := by omega
            have hlt3 := lt_of_block hwant3
            have hc : ∀ j v, (remCells C)[j]? = some v → ((w3.alloc (.cells #[.int .i64 kk, .string T, .int .i64 ln] 33)).alloc (.cells #[.int .i64 0, .string ⟨#[]⟩, .int .i64 0] 26)).cell? ⟨w2.heap.size + 1, j, none⟩ = some v := fun j v hj => by
              have h : ((w3.alloc (.cells #[.int .i64 kk, .string T, .int .i64 ln] 33)).alloc (.cells #[.int .i64 0, .string ⟨#[]⟩, .int .i64 0] 26)).heap[w2.heap.size + 1]? = some (.cells (remCells C) 33 (0, 0)) :=
                (Below.heap_alloc (w3.alloc _) _ _ (by simp; omega)).trans ((Below.heap_alloc w3 _ _ hlt3).trans hwant3)
              rw [Lib.cell_of_heap h]
              exact hj
            obtain ⟨q0, q1, q2⟩ := HQ.out
            have c0 := hc _ _ q0
            have c1 := hc _ _ q1
            have c2 := hc _ _ q2
            clear hc q0 q1 q2 hwant3 hlt3
            go_quiet (fail)
            clear c0 c1 c2
            go_wp2
            go_roundg g'
            case measure => omega
            case rel =>
              have hwant4 := hbt3.keep HW.out (by omega)
              have hbw4 := hbt3.below hbw hbB
              refine ⟨k2 + 1, by go_num, by omega, ?_, ?_, ?_, by omega⟩
              · exact (((hs3.alloc _).alloc _).drewN nq)
              · have h : ∀ (W : World) (n : Nat), (W.drewN n).heap = W.heap := fun W n => by
                  induction n with
                  | zero => rfl
                  | succ n ih => exact ih
                rw [h]
                exact (Below.heap_alloc (w3.alloc _) _ _ (by have := lt_of_block hwant4; simp; omega)).trans ((Below.heap_alloc w3 _ _ (lt_of_block hwant4)).trans hwant4)
              · exact ((hbw4.alloc hbw4.size _).alloc (by have := hbw4.size; simp; omega) _).trans ((below_drewN _ nq).mono (by have := hbw4.size; simp; omega))
          · go_wp2
            go_ret
            exact ⟨rfl, hbw⟩
theorem remarks_any (s : ByteArray) (wide : Bool) (w : World) (hG : Glob w) :
    Calls Tryd.prog 8 #[.string s, .bool wide] w fun e w' => e = .returned (.bool true) ∧ Below w.heap.size w w' := by
  by_cases h : s.size ≤ 256
  · exact remarks_small s wide w hG h
  · exact remarks_big s wide w hG (by omega)
end Go.Proofs.YtkcjembmdiaclaaDoor
