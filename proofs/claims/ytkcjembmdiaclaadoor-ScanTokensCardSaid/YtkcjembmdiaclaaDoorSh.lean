/- The walk of the document's token: the two kinds of comments. -/
import Derived.Test.YtkcjembmdiaclaaDoorSg
namespace Go.Proofs.YtkcjembmdiaclaaDoor
open Go.RowKit Go.Lib Go.Maps
set_option linter.unusedVariables false
set_option linter.unusedSimpArgs false

theorem trim_at (T : ByteArray) (M : Nat) (h : M < T.size) : trimCR (T.data.toList.take (M + 1)) = if (T[M]'h).toNat = 13 then T.data.toList.take M else T.data.toList.take (M + 1) := by
  have e : T.data.toList.take (M + 1) = T.data.toList.take M ++ [T[M]'h] := by
    rw [List.take_succ_eq_append_getElem (by rw [Array.length_toList]; exact h)]
    rfl
  rw [e]
  unfold trimCR
  rw [List.getLast?_append, List.dropLast_concat]
  have e2 : ((some (T[M]'h) : Option UInt8) = some 13) = ((T[M]'h).toNat = 13) := propext ⟨fun h => by injection h with h; rw [h]; rfl, fun h => by congr 1; exact UInt8.toNat_inj.1 (by rw [h]; rfl)⟩
  have e3 : (List.getLast? [T[M]'h]).or (T.data.toList.take M).getLast? = some (T[M]'h) := rfl
  rw [e3]
  by_cases hq : (T[M]'h).toNat = 13
  · rw [if_pos hq, if_pos (e2.mpr hq)]
  · rw [if_neg hq, if_neg (fun k => hq (e2.mp k))]

set_option maxRecDepth 100000 in
set_option maxHeartbeats 4000000 in
theorem rtok_line (b : Nat) (s : ByteArray) (at_ : Nat) (w : World) (T : ByteArray) (LN : Nat) (hI : TokIn w b s at_ T LN) (hc : (T[0]'hI.h0).toNat = 47) (h1 : 1 < T.size) (hd : (T[1]'h1).toNat = 47) (M : Nat) (hN : (T.data.toList.takeWhile (· != 10)).length = M + 1) :
    Calls Tryd.prog 23 #[.pointer (some ⟨b, 0, none⟩), .int .i64 at_] w fun e w' => e = .returned (rtkV 4 (trimCR (T.data.toList.take (M + 1))) LN ((at_ + (M + 1) : Nat) : Int)) ∧ Below w.heap.size w w' := by
  obtain ⟨c0, hlt, hs, hat, h0, hsl, cL, hem⟩ := hI
  have hNs : M + 1 ≤ T.size := by rw [← hN, Lib.size_eq]; exact tw_le _ _
  have hsN : ∀ W, (Instr.slice 9 (.string T) none (some (.int .i64 ((M : Int) + 1))) none).run Tryd.prog W = .ok (.string (bs (T.data.toList.take (M + 1)))) W := fun W => sl_h T (M + 1) hNs W
  have hsM := sl_h T M (by omega)
  have cl := fun W => rletter_any 47 W (by omega)
  rw [show letterN 47 = false from by decide] at cl
  have hz : (1 : Int) < (T.size : Int) := by omega
  obtain ⟨e, he⟩ : ∃ e : Nat, (T[M]'(by omega)).toNat = e := ⟨_, rfl⟩
  have hv := trim_at T M (by omega)
  rw [he] at hv
  have HN := Lib.hid hN
  obtain ⟨X, hX⟩ : ∃ X, bs (T.data.toList.take (M + 1)) = X := ⟨_, rfl⟩
  obtain ⟨Y, hY⟩ : ∃ Y, bs (T.data.toList.take M) = Y := ⟨_, rfl⟩
  obtain ⟨Z, hZ⟩ : ∃ Z, bs (trimCR (T.data.toList.take (M + 1))) = Z := ⟨_, rfl⟩
  have hr : rtkV 4 (trimCR (T.data.toList.take (M + 1))) LN ((at_ + (M + 1) : Nat) : Int) = .tuple #[.agg #[.int .i64 4, .string Z, .int .i64 LN], .int .i64 ((at_ : Int) + ((M : Int) + 1))] := by rw [← hZ]; rfl
  rw [hr]
  have hz13 : (e = 13 → Y = Z) ∧ (¬ e = 13 → X = Z) := by
    refine ⟨fun h => ?_, fun h => ?_⟩
    · rw [← hZ, hv, if_pos h, hY]
    · rw [← hZ, hv, if_neg h, hX]
  rw [hX] at hsN
  rw [hY] at hsM
  have HZ := Lib.hid hz13
  clear hv hN hX hY hr hZ hz13
  go_enter Tryd.func23, Tryd.ntmps23
  go_wp2_with (first | (go_at_call 18; refine (cL _).mono ?_; rintro e w1 ⟨rfl, hw1⟩; obtain rfl := hw1.symm) | (go_at_call 39; refine (cl _).mono ?_; rintro e w1 ⟨rfl, hw1⟩; obtain rfl := hw1.symm))
  go_loopg [13] (M + 1) (fun gf nv wx => ∃ k : Nat, nv = .int .i64 k ∧ k ≤ M + 1 ∧ Hid (wx = (w.alloc (.cells #[.int .i64 0, .string ⟨#[]⟩, .int .i64 0] 36)).alloc (.cells #[.int .i64 0, .string ⟨#[]⟩, .int .i64 LN] 36)) ∧ M + 1 ≤ k + gf)
  case atStart => exact ⟨0, rfl, by omega, rfl, by omega⟩
  case round =>
    obtain ⟨k, rfl, hkN, hw, hfu⟩ := hrel
    obtain rfl := hw.out
    clear hw cl hc hd
    by_cases hk : k < M + 1
    · obtain ⟨g', rfl⟩ : ∃ g', gk = g' + 1 := ⟨gk - 1, by omega⟩
      have hkT : k < T.size := by omega
      obtain ⟨d, hd⟩ : ∃ d : Nat, (T[k]'hkT).toNat = d := ⟨_, rfl⟩
      have hid : ((d : Int) == 10) = false := by
        have h := tw_in (p := (· != (10 : UInt8))) T.data.toList k (by rw [Array.length_toList]; exact hkT) (by rw [HN.out]; exact hk)
        rw [list_get T k hkT] at h
        rw [beq_eq_false_iff_ne]
        intro h2
        simp only [bne_iff_ne, ne_eq] at h
        exact h (UInt8.toNat_inj.1 (by rw [hd]; simp; omega))
      have hki : (k : Int) < (T.size : Int) := by omega
      go_wp2
      go_roundg g'
      case measure => omega
      case rel => exact ⟨k + 1, by go_num, by omega, rfl, by omega⟩
    · have hkN' : k = M + 1 := by omega
      subst hkN'
      clear hk
      have hM : M < T.size := by omega
      by_cases hend : M + 1 < T.size
      · obtain ⟨d, hd⟩ : ∃ d : Nat, (T[M + 1]'hend).toNat = d := ⟨_, rfl⟩
        have hid : ((d : Int) == 10) = true := by
          have h := tw_out (p := (· != (10 : UInt8))) T.data.toList (M + 1) (by rw [Array.length_toList]; exact hend) HN.out
          rw [list_get T (M + 1) hend] at h
          simp only [bne_eq_false_iff_eq] at h
          rw [h] at hd
          rw [← hd]
          rfl
        have hki : (M : Int) + 1 < (T.size : Int) := by omega
        by_cases h13 : ((e : Int) == 13) = true
        · obtain rfl := HZ.out.1 (by simp at h13; omega)
          clear HZ
          go_wp2
          refine bodyPost_ret (v := .tuple #[.agg #[.int .i64 4, .string Y, .int .i64 LN], .int .i64 ((at_ : Int) + ((M : Int) + 1))]) (by simp [results, Tryd.results23, go_sem]) rfl ⟨rfl, two_below w _ _⟩
        · have h13' : ((e : Int) == 13) = false := by simpa using h13
          obtain rfl := HZ.out.2 (by simp at h13; omega)
          clear HZ h13
          go_wp2
          refine bodyPost_ret (v := .tuple #[.agg #[.int .i64 4, .string X, .int .i64 LN], .int .i64 ((at_ : Int) + ((M : Int) + 1))]) (by simp [results, Tryd.results23, go_sem]) rfl ⟨rfl, two_below w _ _⟩
      · have hki : decide (M + 1 < T.size) = false := decide_eq_false hend
        have hki2 : decide ((M : Int) + 1 < (T.size : Int)) = false := decide_eq_false (by omega)
        clear hend
        by_cases h13 : ((e : Int) == 13) = true
        · obtain rfl := HZ.out.1 (by simp at h13; omega)
          clear HZ
          go_wp2
          refine bodyPost_ret (v := .tuple #[.agg #[.int .i64 4, .string Y, .int .i64 LN], .int .i64 ((at_ : Int) + ((M : Int) + 1))]) (by simp [results, Tryd.results23, go_sem]) rfl ⟨rfl, two_below w _ _⟩
        · have h13' : ((e : Int) == 13) = false := by simpa using h13
          obtain rfl := HZ.out.2 (by simp at h13; omega)
          clear HZ h13
          go_wp2
          refine bodyPost_ret (v := .tuple #[.agg #[.int .i64 4, .string X, .int .i64 LN], .int .i64 ((at_ : Int) + ((M : Int) + 1))]) (by simp [results, Tryd.results23, go_sem]) rfl ⟨rfl, two_below w _ _⟩
end Go.Proofs.YtkcjembmdiaclaaDoor
