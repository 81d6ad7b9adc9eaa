/- The walk of the document's token: a text in quotes. -/
import Derived.Test.YtkcjembmdiaclaaDoorSi
namespace Go.Proofs.YtkcjembmdiaclaaDoor
open Go.RowKit Go.Lib Go.Maps
set_option linter.unusedVariables false
set_option linter.unusedSimpArgs false

theorem q_cons (c : UInt8) (r : List UInt8) (i : Nat) : qFrom (c :: r) i = if c.toNat = 34 then i + 1 else if c.toNat = 92 then (match r with | [] => 0 | d :: r' => if d.toNat = 10 then 0 else qFrom r' (i + 2)) else if c.toNat = 10 then 0 else qFrom r (i + 1) := by
  have h10 : ∀ c : UInt8, (((c.toNat : Int) == 10) = true) = (c.toNat = 10) := fun c => by rw [beq_iff_eq]; exact propext ⟨fun h => by omega, fun h => by omega⟩
  have h34 : ∀ c : UInt8, (((c.toNat : Int) == 34) = true) = (c.toNat = 34) := fun c => by rw [beq_iff_eq]; exact propext ⟨fun h => by omega, fun h => by omega⟩
  have h92 : ∀ c : UInt8, (((c.toNat : Int) == 92) = true) = (c.toNat = 92) := fun c => by rw [beq_iff_eq]; exact propext ⟨fun h => by omega, fun h => by omega⟩
  cases r with
  | nil =>
    unfold qFrom
    simp only [h34]
    by_cases h : c.toNat = 34
    · rw [if_pos h, if_pos h]
    · rw [if_neg h, if_neg h]
      split
      · rfl
      · split
        · rfl
        · rfl
  | cons d r =>
    conv => lhs; unfold qFrom
    simp only [h10, h34, h92]
/-- Two blocks laid one behind the other. -/
theorem pair_blocks2 (w3 : World) (O1 O2 : Obj) : ((w3.alloc O1).alloc O2).heap[w3.heap.size]? = some O1 ∧ ((w3.alloc O1).alloc O2).heap[w3.heap.size + 1]? = some O2 := by
  refine ⟨(Below.heap_alloc (w3.alloc _) _ _ (by simp)).trans (heap_alloc_new w3 _), ?_⟩
  have h := heap_alloc_new (w3.alloc O1) O2
  simpa using h
def quoteV (T : ByteArray) (at_ LN : Nat) (Q : Nat) : Value :=
  if Q = 0 then rtkV 0 [] LN (-1) else match unquoteL ((T.data.toList.drop 1).take (Q - 2)) with
  | some u => rtkV 2 u LN ((at_ + Q : Nat) : Int)
  | none => rtkV 0 [] LN (-1)

set_option maxRecDepth 100000 in
set_option maxHeartbeats 4000000 in
theorem rtok_quote (b : Nat) (s : ByteArray) (at_ : Nat) (w : World) (T : ByteArray) (LN : Nat) (hI : TokIn w b s at_ T LN) (hc : (T[0]'hI.h0).toNat = 34) :
    Calls Tryd.prog 23 #[.pointer (some ⟨b, 0, none⟩), .int .i64 at_] w fun e w' => e = .returned (quoteV T at_ LN (quotedL T.data.toList)) ∧ Below w.heap.size w w' := by
  obtain ⟨c0, hlt, hs, hat, h0, hsl, cL, hem⟩ := hI
  have cl := fun W => rletter_any 34 W (by omega)
  rw [show letterN 34 = false from by decide] at cl
  obtain ⟨V, hV⟩ : ∃ V, quoteV T at_ LN (quotedL T.data.toList) = V := ⟨_, rfl⟩
  rw [hV]
  have hV0 : quoteV T at_ LN (qFrom (T.data.toList.drop 1) 1) = V := hV
  have HV0 := Lib.hid hV0
  clear hV hV0
  go_enter Tryd.func23, Tryd.ntmps23
  go_wp2_with (first | (go_at_call 18; refine (cL _).mono ?_; rintro e w1 ⟨rfl, hw1⟩; obtain rfl := hw1.symm) | (go_at_call 39; refine (cl _).mono ?_; rintro e w1 ⟨rfl, hw1⟩; obtain rfl := hw1.symm))
  go_loopg [10] (T.size + 1) (fun gf nv wx => ∃ i : Nat, nv = .int .i64 i ∧ 1 ≤ i ∧ i ≤ T.size + 1 ∧ Hid (wx = (w.alloc (.cells #[.int .i64 0, .string ⟨#[]⟩, .int .i64 0] 36)).alloc (.cells #[.int .i64 0, .string ⟨#[]⟩, .int .i64 LN] 36)) ∧ Hid (quoteV T at_ LN (qFrom (T.data.toList.drop i) i) = V) ∧ T.size + 1 ≤ i + gf)
  case atStart => exact ⟨1, rfl, by omega, by omega, rfl, HV0, by omega⟩
  case round =>
    obtain ⟨i, rfl, hi1, hiT, hw, HV, hfu⟩ := hrel
    obtain rfl := hw.out
    clear hw cl hc HV0
    by_cases hi : i < T.size
    · obtain ⟨g', rfl⟩ : ∃ g', gk = g' + 1 := ⟨gk - 1, by omega⟩
      obtain ⟨d, hd⟩ : ∃ d : Nat, (T[i]'hi).toNat = d := ⟨_, rfl⟩
      have hst := HV.out
      rw [drop_at T hi, q_cons, hd] at hst
      have hki : (i : Int) < (T.size : Int) := by omega
      by_cases h10 : ((d : Int) == 10) = true
      · have hv : V = .tuple #[.agg #[.int .i64 0, .string ⟨#[]⟩, .int .i64 LN], .int .i64 (-1)] := by
          rw [← hst, if_neg (by simp at h10; omega), if_neg (by simp at h10; omega), if_pos (by simp at h10; omega)]
          rfl
        subst hv
        clear hst HV
        go_wp2
        refine bodyPost_ret (v := .tuple #[.agg #[.int .i64 0, .string ⟨#[]⟩, .int .i64 LN], .int .i64 (-1)]) (by simp [results, Tryd.results23, go_sem]) rfl ⟨rfl, two_below w _ _⟩
      · have h10' : ((d : Int) == 10) = false := by simpa using h10
        by_cases h34 : ((d : Int) == 34) = true
        · rw [if_pos (by simp at h34; omega)] at hst
          have hsq : ∀ W, (Instr.slice 9 (.string T) (some (.int .i64 1)) (some (.int .i64 (i : Int))) none).run Tryd.prog W = .ok (.string (bs ((T.data.toList.drop 1).take (i - 1)))) W := fun W => sl_lh T 1 i hi1 (by omega) W
          have cU := fun W => runquote_any (bs ((T.data.toList.drop 1).take (i - 1))) W (by rw [bs_size, List.length_take, List.length_drop, ← Lib.size_eq]; omega)
          rw [bs_list] at cU
          have hv : V = match unquoteL ((T.data.toList.drop 1).take (i - 1)) with | some u => rtkV 2 u LN ((at_ + (i + 1) : Nat) : Int) | none => rtkV 0 [] LN (-1) := by
            rw [← hst]
            unfold quoteV
            rw [if_neg (by omega)]
            have : i + 1 - 2 = i - 1 := by omega
            rw [this]
          clear hst HV
          obtain ⟨SQ, hSQ⟩ : ∃ SQ, bs ((T.data.toList.drop 1).take (i - 1)) = SQ := ⟨_, rfl⟩
          rw [hSQ] at hsq cU
          clear hSQ h10
          obtain ⟨hF, hY⟩ := pair_blocks2 w (.cells #[.int .i64 0, .string ⟨#[]⟩, .int .i64 0] 36) (.cells #[.int .i64 0, .string ⟨#[]⟩, .int .i64 LN] 36)
          have hbel := two_below w (.cells #[.int .i64 0, .string ⟨#[]⟩, .int .i64 0] 36) (.cells #[.int .i64 0, .string ⟨#[]⟩, .int .i64 LN] 36)
          cases hu : unquoteL ((T.data.toList.drop 1).take (i - 1)) with
          | some u =>
            rw [hu] at hv cU
            obtain ⟨X, hX⟩ : ∃ X, bs u = X := ⟨_, rfl⟩
            have hv' : V = .tuple #[.agg #[.int .i64 2, .string X, .int .i64 LN], .int .i64 ((at_ : Int) + (i : Int) + 1)] := by
              rw [hv, ← hX]
              have e2 : ((at_ + (i + 1) : Nat) : Int) = (at_ : Int) + (i : Int) + 1 := by omega
              show rtkV 2 u LN ((at_ + (i + 1) : Nat) : Int) = _
              rw [e2]
              rfl
            subst hv'
            have cU2 : ∀ W, Calls Tryd.prog 41 #[.string SQ] W fun e w' => e = .returned (.tuple #[.string X, .bool true]) ∧ Below W.heap.size W w' := by rw [← hX]; exact cU
            clear hv cU hu hX
            go_upto_region 28 with (go_at_call 41; refine (cU2 _).mono ?_; rintro e w1 ⟨rfl, hb1⟩)
            have hF1 := (hb1.block _ (lt_of_block hF)).trans hF
            have hY1 := (hb1.block _ (lt_of_block hY)).trans hY
            have hbw := hbel.trans (hb1.mono hbel.size)
            obtain ⟨⟨k0, k1, k2⟩, q0, q1, q2⟩ := block_cells hF1
            obtain ⟨⟨y0, y1, y2⟩, r0, r1, r2⟩ := block_cells hY1
            clear hF hY hF1 hY1 hbel
            go_wp2
            refine bodyPost_ret (v := .tuple #[.agg #[.int .i64 2, .string X, .int .i64 LN], .int .i64 ((at_ : Int) + (i : Int) + 1)]) (by simp [results, Tryd.results23, go_sem, k0, k1, k2, q0, q1, q2]) rfl ⟨rfl, ?_⟩
            exact ((((hbw.setCell (by simp) _).setCell (by simp) _).setCell (by simp) _).setCell (by simp) _).setCell (by simp) _
          | none =>
            rw [hu] at hv cU
            have hv' : V = .tuple #[.agg #[.int .i64 0, .string ⟨#[]⟩, .int .i64 LN], .int .i64 (-1)] := hv
            subst hv'
            have cU2 : ∀ W, Calls Tryd.prog 41 #[.string SQ] W fun e w' => e = .returned (.tuple #[.string ⟨#[]⟩, .bool false]) ∧ Below W.heap.size W w' := cU
            clear hv cU hu
            go_upto_region 28 with (go_at_call 41; refine (cU2 _).mono ?_; rintro e w1 ⟨rfl, hb1⟩)
            have hF1 := (hb1.block _ (lt_of_block hF)).trans hF
            have hY1 := (hb1.block _ (lt_of_block hY)).trans hY
            have hbw := hbel.trans (hb1.mono hbel.size)
            obtain ⟨⟨k0, k1, k2⟩, q0, q1, q2⟩ := block_cells hF1
            obtain ⟨⟨y0, y1, y2⟩, r0, r1, r2⟩ := block_cells hY1
            clear hF hY hF1 hY1 hbel
            go_wp2
            refine bodyPost_ret (v := .tuple #[.agg #[.int .i64 0, .string ⟨#[]⟩, .int .i64 LN], .int .i64 (-1)]) (by simp [results, Tryd.results23, go_sem, k0, k1, k2, q0, q1, q2]) rfl ⟨rfl, ?_⟩
            exact ((hbw.setCell (by simp) _).setCell (by simp) _).setCell (by simp) _
        · have h34' : ((d : Int) == 34) = false := by simpa using h34
          rw [if_neg (by simp at h34; omega)] at hst
          by_cases h92 : ((d : Int) == 92) = true
          · rw [if_pos (by simp at h92; omega)] at hst
            by_cases hj : i + 1 < T.size
            · obtain ⟨y, hy⟩ : ∃ y : Nat, (T[i + 1]'hj).toNat = y := ⟨_, rfl⟩
              rw [drop_at T hj] at hst
              simp only [hy] at hst
              have hkj : (i : Int) + 1 < (T.size : Int) := by omega
              by_cases y10 : ((y : Int) == 10) = true
              · have hv : V = .tuple #[.agg #[.int .i64 0, .string ⟨#[]⟩, .int .i64 LN], .int .i64 (-1)] := by
                  rw [← hst, if_pos (by simp at y10; omega)]
                  rfl
                subst hv
                clear hst HV h10 h34
                go_wp2
                refine bodyPost_ret (v := .tuple #[.agg #[.int .i64 0, .string ⟨#[]⟩, .int .i64 LN], .int .i64 (-1)]) (by simp [results, Tryd.results23, go_sem]) rfl ⟨rfl, two_below w _ _⟩
              · have y10' : ((y : Int) == 10) = false := by simpa using y10
                rw [if_neg (by simp at y10; omega)] at hst
                have HV' := Lib.hid hst
                clear hst HV h10 h34 y10
                go_wp2
                go_roundg g'
                case measure => omega
                case rel => exact ⟨i + 2, by go_num, by omega, by omega, rfl, HV', by omega⟩
            · have hst2 : quoteV T at_ LN (qFrom (T.data.toList.drop (i + 2)) (i + 2)) = V := by
                rw [← hst, drop_end T hj, drop_end T (show ¬ i + 2 < T.size by omega)]
                rfl
              have HV' := Lib.hid hst2
              have hkj : decide (i + 1 < T.size) = false := decide_eq_false hj
              have hkj2 : decide ((i : Int) + 1 < (T.size : Int)) = false := decide_eq_false (by omega)
              clear hst HV h10 h34 hj hst2
              go_wp2
              go_roundg g'
              case measure => omega
              case rel => exact ⟨i + 2, by go_num, by omega, by omega, rfl, HV', by omega⟩
          · have h92' : ((d : Int) == 92) = false := by simpa using h92
            rw [if_neg (by simp at h92; omega), if_neg (by simp at h10; omega)] at hst
            have HV' := Lib.hid hst
            clear hst HV h10 h34 h92
            go_wp2
            go_roundg g'
            case measure => omega
            case rel => exact ⟨i + 1, by go_num, by omega, by omega, rfl, HV', by omega⟩
    · have hv : V = .tuple #[.agg #[.int .i64 0, .string ⟨#[]⟩, .int .i64 LN], .int .i64 (-1)] := by
        rw [← HV.out, drop_end T hi]
        rfl
      subst hv
      have hki : decide (i < T.size) = false := decide_eq_false hi
      have hki2 : decide ((i : Int) < (T.size : Int)) = false := decide_eq_false (by omega)
      clear HV hi
      go_wp2
      refine bodyPost_ret (v := .tuple #[.agg #[.int .i64 0, .string ⟨#[]⟩, .int .i64 LN], .int .i64 (-1)]) (by simp [results, Tryd.results23, go_sem]) rfl ⟨rfl, two_below w _ _⟩
end Go.Proofs.YtkcjembmdiaclaaDoor
