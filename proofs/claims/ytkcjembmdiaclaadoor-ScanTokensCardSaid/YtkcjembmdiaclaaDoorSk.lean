/- The walk of the document's token: a text in backquotes. -/
import Derived.Test.YtkcjembmdiaclaaDoorSj
import Derived.StillTailTactics
namespace Go.Proofs.YtkcjembmdiaclaaDoor
open Go.RowKit Go.Lib Go.Maps
set_option linter.unusedVariables false
set_option linter.unusedSimpArgs false

theorem filt_snoc (l : List UInt8) (x : UInt8) : (l ++ [x]).filter (· != 13) = if x.toNat = 13 then l.filter (· != 13) else l.filter (· != 13) ++ [x] := by
  rw [List.filter_append]
  by_cases h : x.toNat = 13
  · have : x = 13 := UInt8.toNat_inj.1 (by rw [h]; rfl)
    rw [if_pos h, this]
    simp
  · have : (x != 13) = true := by
      rw [bne_iff_ne]
      intro e
      rw [e] at h
      exact h rfl
    rw [if_neg h]
    simp [this]

set_option maxRecDepth 100000 in
set_option maxHeartbeats 4000000 in
theorem rtok_raw (b : Nat) (s : ByteArray) (at_ : Nat) (w : World) (T : ByteArray) (LN : Nat) (hI : TokIn w b s at_ T LN) (hc : (T[0]'hI.h0).toNat = 96) (N : Nat) (hN : ((T.data.toList.drop 1).takeWhile (· != 96)).length = N) :
    Calls Tryd.prog 23 #[.pointer (some ⟨b, 0, none⟩), .int .i64 at_] w fun e w' => (∃ k : Int, ∃ V : ByteArray, ∃ n : Int, e = .returned (.tuple #[.agg #[.int .i64 k, .string V, .int .i64 LN], .int .i64 n]) ∧
      ((N + 1 = T.size ∧ n = -1) ∨ (N + 1 < T.size ∧ k = 2 ∧ V = bs (((T.data.toList.drop 1).take N).filter (· != 13)) ∧ n = ((at_ + (N + 2) : Nat) : Int)))) ∧ Below w.heap.size w w' := by
  obtain ⟨c0, hlt, hs, hat, h0, hsl, cL, hem⟩ := hI
  have cl := fun W => rletter_any 96 W (by omega)
  rw [show letterN 96 = false from by decide] at cl
  have hNs : N + 1 ≤ T.size := by
    have h := tw_le (· != (96 : UInt8)) (T.data.toList.drop 1)
    rw [hN, List.length_drop, ← Lib.size_eq] at h
    omega
  have HN := Lib.hid hN
  clear hN
  go_enter Tryd.func23, Tryd.ntmps23
  go_wp2_with (first | (go_at_call 18; refine (cL _).mono ?_; rintro e w1 ⟨rfl, hw1⟩; obtain rfl := hw1.symm) | (go_at_call 39; refine (cl _).mono ?_; rintro e w1 ⟨rfl, hw1⟩; obtain rfl := hw1.symm))
  go_loopg [9] N (fun gf nv wx => ∃ (k : Nat) (A : List UInt8), nv = .int .i64 ((k : Int) + 1) ∧ k ≤ N ∧ A.length ≤ k ∧ Hid (A = ((T.data.toList.drop 1).take k).filter (· != 13)) ∧ wx.heap[w.heap.size]? = some (.cells #[.int .i64 0, .string ⟨#[]⟩, .int .i64 0] 36 (0, 0)) ∧ wx.heap[w.heap.size + 1]? = some (.cells #[.int .i64 0, .string (bs A), .int .i64 LN] 36 (0, 0)) ∧ Below w.heap.size w wx ∧ N ≤ k + gf)
  case atStart =>
    obtain ⟨hF, hY⟩ := pair_blocks2 w (.cells #[.int .i64 0, .string ⟨#[]⟩, .int .i64 0] 36) (.cells #[.int .i64 0, .string ⟨#[]⟩, .int .i64 LN] 36)
    exact ⟨0, [], rfl, by omega, by simp, rfl, hF, hY, two_below w _ _, by omega⟩
  case round =>
    obtain ⟨k, A, rfl, hkN, hA, HA, hF, hY, hbw, hfu⟩ := hrel
    clear cl hc
    obtain ⟨⟨k0, k1, k2⟩, q0, q1, q2⟩ := block_cells hF
    obtain ⟨⟨y0, y1, y2⟩, r0, r1, r2⟩ := block_cells hY
    by_cases hk : k < N
    · obtain ⟨g', rfl⟩ : ∃ g', gk = g' + 1 := ⟨gk - 1, by omega⟩
      have hkT : k + 1 < T.size := by omega
      obtain ⟨d, hd⟩ : ∃ d : Nat, (T[k + 1]'hkT).toNat = d := ⟨_, rfl⟩
      have hki : (k : Int) + 1 < (T.size : Int) := by omega
      have hdl : k < (T.data.toList.drop 1).length := by rw [List.length_drop, ← Lib.size_eq]; omega
      have hge : (T.data.toList.drop 1)[k]'hdl = T[k + 1]'hkT := by
        rw [List.getElem_drop]
        have : 1 + k = k + 1 := by omega
        simp only [this]
        rfl
      have h96 : ((d : Int) == 96) = false := by
        have h := tw_in (p := (· != (96 : UInt8))) (T.data.toList.drop 1) k hdl (by rw [HN.out]; exact hk)
        rw [hge] at h
        rw [beq_eq_false_iff_ne]
        intro h2
        simp only [bne_iff_ne, ne_eq] at h
        exact h (UInt8.toNat_inj.1 (by rw [hd]; simp; omega))
      have hsn : ((T.data.toList.drop 1).take (k + 1)).filter (· != 13) = if d = 13 then A else A ++ [T[k + 1]'hkT] := by
        rw [List.take_succ_eq_append_getElem hdl, filt_snoc, hge, hd, HA.out]
      by_cases h13 : ((d : Int) == 13) = true
      · rw [if_pos (by simp at h13; omega)] at hsn
        have HA' := Lib.hid hsn.symm
        clear hsn hge hdl HA
        go_wp2
        go_roundg g'
        case measure => omega
        case rel => exact ⟨k + 1, A, by go_num, by omega, by omega, HA', hF, hY, hbw, by omega⟩
      · have h13' : ((d : Int) == 13) = false := by simpa using h13
        rw [if_neg (by simp at h13; omega)] at hsn
        have hsl2 : ∀ W, (Instr.slice 9 (.string T) (some (.int .i64 ((k : Int) + 1))) (some (.int .i64 ((k : Int) + 1 + 1))) none).run Tryd.prog W = .ok (.string (bs [T[k + 1]'hkT])) W := by
          intro W
          have h := sl_lh T (k + 1) (k + 1 + 1) (by omega) (by omega) W
          have e : (T.data.toList.drop (k + 1)).take (k + 1 + 1 - (k + 1)) = [T[k + 1]'hkT] := by
            rw [drop_at T hkT]
            have : k + 1 + 1 - (k + 1) = 1 := by omega
            rw [this]
            rfl
          rw [e] at h
          exact h
        have hap : bs A ++ bs [T[k + 1]'hkT] = bs (A ++ [T[k + 1]'hkT]) := bs_append _ _
        have hz1 : ((bs A).size : Int) ≤ 8388608 := by rw [bs_size]; omega
        have hz2 : ((bs [T[k + 1]'hkT]).size : Int) ≤ 8388608 := by rw [bs_size]; simp
        have hal : (A ++ [T[k + 1]'hkT]).length ≤ k + 1 := by rw [List.length_append]; simp; omega
        have HA' := Lib.hid hsn.symm
        have hwr : IntKind.i64.wrap ((k : Int) + 1 + 1) = (k : Int) + 1 + 1 := by rw [IntKind.wrap_i64]; omega
        obtain ⟨B, hB⟩ : ∃ B, bs [T[k + 1]'hkT] = B := ⟨_, rfl⟩
        obtain ⟨A', hA'⟩ : ∃ A', A ++ [T[k + 1]'hkT] = A' := ⟨_, rfl⟩
        rw [hB] at hsl2 hap hz2
        have hcc : ¬ 9223372036854775807 < (bs A).size + B.size := by omega
        rw [hA'] at hap hal HA'
        clear hsn hge hdl HA h13 hB hA'
        go_upto_region 20 with (fail)
        refine wp_region_still_tail 9 (by kernel_rfl) (by kernel_rfl) ?_
        change wpStill _ _ wr.drew (fun a' => wpList _ _ _ _ a' wr.drew) _ _
        obtain ⟨wd, hwd⟩ : ∃ wd, wr.drew = wd := ⟨_, rfl⟩
        have hFd : wd.heap[w.heap.size]? = some (.cells #[.int .i64 0, .string ⟨#[]⟩, .int .i64 0] 36 (0, 0)) := by rw [← hwd]; exact hF
        have hYd : wd.heap[w.heap.size + 1]? = some (.cells #[.int .i64 0, .string (bs A), .int .i64 LN] 36 (0, 0)) := by rw [← hwd]; exact hY
        have hbd : Below w.heap.size w wd := by rw [← hwd]; exact hbw.trans ((below_drewN wr 1).mono hbw.size)
        rw [hwd]
        clear hwd k0 k1 k2 q0 q1 q2 y0 y1 y2 r0 r1 r2 hF hY
        obtain ⟨⟨k0, k1, k2⟩, q0, q1, q2⟩ := block_cells hFd
        obtain ⟨⟨y0, y1, y2⟩, r0, r1, r2⟩ := block_cells hYd
        simp only [List.take_succ_cons, List.take_zero, List.drop_succ_cons, List.drop_zero]
        repeat still_step
        refine wpStill_nil ?_
        go_wp2
        go_roundg g'
        case measure => omega
        case rel =>
          have hYn : (wd.setCell ⟨w.heap.size + 1, 1, none⟩ (.string (bs A'))).heap[w.heap.size + 1]? = some (.cells #[.int .i64 0, .string (bs A'), .int .i64 LN] 36 (0, 0)) := by
            simp [World.setCell, Array.getElem?_modify, hYd]
          exact ⟨k + 1, A', by go_num, by omega, hal, HA', (Below.heap_setCell wd _ _ _ (by simp)).trans hFd, hYn, hbd.setCell (by simp) _, by omega⟩
    · have hkN' : k = N := by omega
      subst hkN'
      clear hk
      by_cases hend : k + 1 < T.size
      · obtain ⟨d, hd⟩ : ∃ d : Nat, (T[k + 1]'hend).toNat = d := ⟨_, rfl⟩
        have hid : ((d : Int) == 96) = true := by
          have hdl : k < (T.data.toList.drop 1).length := by rw [List.length_drop, ← Lib.size_eq]; omega
          have h := tw_out (p := (· != (96 : UInt8))) (T.data.toList.drop 1) k hdl HN.out
          have hge : (T.data.toList.drop 1)[k]'hdl = T[k + 1]'hend := by
            rw [List.getElem_drop]
            have : 1 + k = k + 1 := by omega
            simp only [this]
            rfl
          rw [hge] at h
          simp only [bne_eq_false_iff_eq] at h
          rw [h] at hd
          rw [← hd]
          rfl
        have hki : (k : Int) + 1 < (T.size : Int) := by omega
        obtain ⟨X, hX⟩ : ∃ X, bs A = X := ⟨_, rfl⟩
        rw [hX] at y1 hY
        clear hF hY
        go_wp2
        refine bodyPost_ret (v := .tuple #[.agg #[.int .i64 2, .string X, .int .i64 LN], .int .i64 ((at_ : Int) + ((k : Int) + 1) + 1)]) (by simp [results, Tryd.results23, go_sem, k0, k1, k2, q0, q1, q2]) rfl ⟨⟨2, X, _, rfl, .inr ⟨hend, rfl, ?_, ?_⟩⟩, ?_⟩
        · rw [← hX, HA.out]
        · omega
        · exact (((hbw.setCell (by simp) _).setCell (by simp) _).setCell (by simp) _).setCell (by simp) _
      · have hki : decide (k + 1 < T.size) = false := decide_eq_false hend
        have hki2 : decide ((k : Int) + 1 < (T.size : Int)) = false := decide_eq_false (by omega)
        obtain ⟨X, hX⟩ : ∃ X, bs A = X := ⟨_, rfl⟩
        rw [hX] at y1 hY
        have HE := Lib.hid (show k + 1 = T.size by omega)
        clear hF hY hend
        go_wp2
        refine bodyPost_ret (v := .tuple #[.agg #[.int .i64 0, .string X, .int .i64 LN], .int .i64 (-1)]) (by simp [results, Tryd.results23, go_sem, k0, k1, k2, q0, q1, q2]) rfl ⟨⟨0, X, -1, rfl, .inl ⟨HE.out, rfl⟩⟩, ?_⟩
        exact ((hbw.setCell (by simp) _).setCell (by simp) _).setCell (by simp) _
end Go.Proofs.YtkcjembmdiaclaaDoor
