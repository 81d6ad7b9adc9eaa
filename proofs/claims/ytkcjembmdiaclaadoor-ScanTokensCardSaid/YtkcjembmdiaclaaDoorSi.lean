/- The walk of the document's token: a comment with an end. -/
import Derived.Test.YtkcjembmdiaclaaDoorSh
namespace Go.Proofs.YtkcjembmdiaclaaDoor
open Go.RowKit Go.Lib Go.Maps
set_option linter.unusedVariables false
set_option linter.unusedSimpArgs false

theorem end_step (T : ByteArray) (i : Nat) (h : i + 1 < T.size) : findEnd (T.data.toList.drop i) = if (T[i]'(by omega)).toNat = 42 ∧ (T[i + 1]'h).toNat = 47 then some 0 else (findEnd (T.data.toList.drop (i + 1))).map (· + 1) := by
  rw [drop_at T (show i < T.size by omega), drop_at T h]
  have e2 : ∀ (x : UInt8) (k : UInt8), (x = k) = (x.toNat = k.toNat) := fun x k => propext ⟨fun h => by rw [h], fun h => UInt8.toNat_inj.1 h⟩
  have h42 := e2 (T[i]'(by omega)) 42
  have h47 := e2 (T[i + 1]'h) 47
  show (if T[i]'(by omega) = 42 ∧ T[i + 1]'h = 47 then _ else _) = _
  by_cases hq : (T[i]'(by omega)).toNat = 42 ∧ (T[i + 1]'h).toNat = 47
  · rw [if_pos hq, if_pos ⟨h42.mpr hq.1, h47.mpr hq.2⟩]
  · rw [if_neg hq, if_neg (fun k => hq ⟨h42.mp k.1, h47.mp k.2⟩)]
theorem end_none (T : ByteArray) (i : Nat) (h : ¬ i + 1 < T.size) : findEnd (T.data.toList.drop i) = none := by
  by_cases h1 : i < T.size
  · rw [drop_at T h1, drop_end T h]
    rfl
  · rw [drop_end T h1]
    rfl
def starV (T : ByteArray) (at_ LN : Nat) (F : Option Nat) : Value :=
  match F with
  | some f => rtkV 4 (T.data.toList.take (f + 4)) LN ((at_ + (f + 4) : Nat) : Int)
  | none => rtkV 0 [] LN (-1)

set_option maxRecDepth 100000 in
set_option maxHeartbeats 4000000 in
theorem rtok_star (b : Nat) (s : ByteArray) (at_ : Nat) (w : World) (T : ByteArray) (LN : Nat) (hI : TokIn w b s at_ T LN) (hc : (T[0]'hI.h0).toNat = 47) (h1 : 1 < T.size) (hd : (T[1]'h1).toNat = 42) :
    Calls Tryd.prog 23 #[.pointer (some ⟨b, 0, none⟩), .int .i64 at_] w fun e w' => e = .returned (starV T at_ LN (findEnd (T.data.toList.drop 2))) ∧ Below w.heap.size w w' := by
  obtain ⟨c0, hlt, hs, hat, h0, hsl, cL, hem⟩ := hI
  have cl := fun W => rletter_any 47 W (by omega)
  rw [show letterN 47 = false from by decide] at cl
  have hz : (1 : Int) < (T.size : Int) := by omega
  obtain ⟨V, hV⟩ : ∃ V, starV T at_ LN (findEnd (T.data.toList.drop 2)) = V := ⟨_, rfl⟩
  rw [hV]
  have hV0 : starV T at_ LN ((findEnd (T.data.toList.drop 2)).map (· + (2 - 2))) = V := by
    rw [← hV]
    cases findEnd (T.data.toList.drop 2) <;> rfl
  have HV0 := Lib.hid hV0
  clear hV hV0
  go_enter Tryd.func23, Tryd.ntmps23
  go_wp2_with (first | (go_at_call 18; refine (cL _).mono ?_; rintro e w1 ⟨rfl, hw1⟩; obtain rfl := hw1.symm) | (go_at_call 39; refine (cl _).mono ?_; rintro e w1 ⟨rfl, hw1⟩; obtain rfl := hw1.symm))
  go_loopg [14] T.size (fun gf nv wx => ∃ i : Nat, nv = .int .i64 i ∧ 2 ≤ i ∧ i ≤ T.size ∧ Hid (wx = (w.alloc (.cells #[.int .i64 0, .string ⟨#[]⟩, .int .i64 0] 36)).alloc (.cells #[.int .i64 0, .string ⟨#[]⟩, .int .i64 LN] 36)) ∧ Hid (starV T at_ LN ((findEnd (T.data.toList.drop i)).map (· + (i - 2))) = V) ∧ T.size ≤ i + gf)
  case atStart => exact ⟨2, rfl, by omega, by omega, rfl, HV0, by omega⟩
  case round =>
    obtain ⟨i, rfl, hi2, hiT, hw, HV, hfu⟩ := hrel
    obtain rfl := hw.out
    clear hw cl hc hd HV0
    by_cases hk : i + 1 < T.size
    · obtain ⟨g', rfl⟩ : ∃ g', gk = g' + 1 := ⟨gk - 1, by omega⟩
      have hi : i < T.size := by omega
      obtain ⟨x, hx⟩ : ∃ x : Nat, (T[i]'hi).toNat = x := ⟨_, rfl⟩
      obtain ⟨y, hy⟩ : ∃ y : Nat, (T[i + 1]'hk).toNat = y := ⟨_, rfl⟩
      have hst := HV.out
      rw [end_step T i hk, hx, hy] at hst
      have hki : (i : Int) + 1 < (T.size : Int) := by omega
      have hgo : ¬ (x = 42 ∧ y = 47) → starV T at_ LN ((findEnd (T.data.toList.drop (i + 1))).map (· + (i + 1 - 2))) = V := by
        intro hn
        rw [if_neg hn, Option.map_map] at hst
        rw [← hst]
        congr 1
        cases findEnd (T.data.toList.drop (i + 1)) with
        | none => rfl
        | some f => simp; omega
      by_cases h42 : ((x : Int) == 42) = true
      · by_cases h47 : ((y : Int) == 47) = true
        · have hsN : ∀ W, (Instr.slice 9 (.string T) none (some (.int .i64 ((i : Int) + 2))) none).run Tryd.prog W = .ok (.string (bs (T.data.toList.take (i + 2)))) W := fun W => sl_h T (i + 2) (by omega) W
          obtain ⟨X, hX⟩ : ∃ X, bs (T.data.toList.take (i + 2)) = X := ⟨_, rfl⟩
          have hv : V = .tuple #[.agg #[.int .i64 4, .string X, .int .i64 LN], .int .i64 ((at_ : Int) + (i : Int) + 2)] := by
            rw [← hst, if_pos ⟨by simp at h42; omega, by simp at h47; omega⟩, ← hX]
            have e : 0 + (i - 2) + 4 = i + 2 := by omega
            show rtkV 4 (T.data.toList.take (0 + (i - 2) + 4)) LN ((at_ + (0 + (i - 2) + 4) : Nat) : Int) = _
            rw [e]
            have e2 : ((at_ + (i + 2) : Nat) : Int) = (at_ : Int) + (i : Int) + 2 := by omega
            rw [e2]
            rfl
          subst hv
          rw [hX] at hsN
          clear hst HV hgo hX
          go_wp2
          refine bodyPost_ret (v := .tuple #[.agg #[.int .i64 4, .string X, .int .i64 LN], .int .i64 ((at_ : Int) + (i : Int) + 2)]) (by simp [results, Tryd.results23, go_sem]) rfl ⟨rfl, two_below w _ _⟩
        · have h47' : ((y : Int) == 47) = false := by simpa using h47
          have HV' := Lib.hid (hgo (by intro k; simp at h47; omega))
          clear hst HV hgo h47
          go_wp2
          go_roundg g'
          case measure => omega
          case rel => exact ⟨i + 1, by go_num, by omega, by omega, rfl, HV', by omega⟩
      · have h42' : ((x : Int) == 42) = false := by simpa using h42
        have HV' := Lib.hid (hgo (by intro k; simp at h42; omega))
        clear hst HV hgo h42
        go_wp2
        go_roundg g'
        case measure => omega
        case rel => exact ⟨i + 1, by go_num, by omega, by omega, rfl, HV', by omega⟩
    · have hv : V = .tuple #[.agg #[.int .i64 0, .string ⟨#[]⟩, .int .i64 LN], .int .i64 (-1)] := by
        rw [← HV.out, end_none T i hk]
        rfl
      subst hv
      have hki : decide (i + 1 < T.size) = false := decide_eq_false hk
      have hki2 : decide ((i : Int) + 1 < (T.size : Int)) = false := decide_eq_false (by omega)
      clear HV hk
      go_wp2
      refine bodyPost_ret (v := .tuple #[.agg #[.int .i64 0, .string ⟨#[]⟩, .int .i64 LN], .int .i64 (-1)]) (by simp [results, Tryd.results23, go_sem]) rfl ⟨rfl, two_below w _ _⟩
end Go.Proofs.YtkcjembmdiaclaaDoor
