/- The walk of the document's token: a name, a comment of two slashes, a comment with an end. -/
import Derived.Test.YtkcjembmdiaclaaDoorSf
namespace Go.Proofs.YtkcjembmdiaclaaDoor
open Go.RowKit Go.Lib Go.Maps
set_option linter.unusedVariables false
set_option linter.unusedSimpArgs false

theorem tw_in {p : UInt8 → Bool} : ∀ (l : List UInt8) (k : Nat) (h : k < l.length), k < (l.takeWhile p).length → p (l[k]'h) = true
  | [], k, h, _ => by simp at h
  | a :: l, k, h, hk => by
    rw [List.takeWhile_cons] at hk
    by_cases ha : p a = true
    · rw [if_pos ha] at hk
      cases k with
      | zero => exact ha
      | succ k => exact tw_in l k (by simpa using h) (by simpa using hk)
    · rw [if_neg ha] at hk
      simp at hk
theorem tw_out {p : UInt8 → Bool} : ∀ (l : List UInt8) (N : Nat) (h : N < l.length), (l.takeWhile p).length = N → p (l[N]'h) = false
  | [], N, h, _ => by simp at h
  | a :: l, N, h, hN => by
    rw [List.takeWhile_cons] at hN
    by_cases ha : p a = true
    · rw [if_pos ha] at hN
      cases N with
      | zero => simp at hN
      | succ N => exact tw_out l N (by simpa using h) (by simpa using hN)
    · rw [if_neg ha] at hN
      simp at hN
      subst hN
      simpa using ha
theorem list_get (T : ByteArray) (k : Nat) (h : k < T.size) : T.data.toList[k]'(by rw [Array.length_toList]; exact h) = T[k]'h := rfl

set_option maxRecDepth 100000 in
set_option maxHeartbeats 4000000 in
theorem rtok_name (b : Nat) (s : ByteArray) (at_ : Nat) (w : World) (T : ByteArray) (LN : Nat) (hI : TokIn w b s at_ T LN) (c : Nat) (hc : (T[0]'hI.h0).toNat = c) (hl : letterN c = true) (N : Nat) (hN : (T.data.toList.takeWhile idB).length = N) :
    Calls Tryd.prog 23 #[.pointer (some ⟨b, 0, none⟩), .int .i64 at_] w fun e w' => e = .returned (rtkV 1 (T.data.toList.take N) LN ((at_ + N : Nat) : Int)) ∧ Below w.heap.size w w' := by
  obtain ⟨c0, hlt, hs, hat, h0, hsl, cL, hem⟩ := hI
  have hNs : N ≤ T.size := by rw [← hN, Lib.size_eq]; exact tw_le _ _
  have hsN := sl_h T N hNs
  have hc256 : c < 256 := by rw [← hc]; exact UInt8.toNat_lt _
  have cl := fun W => rletter_any c W hc256
  rw [hl] at cl
  obtain ⟨X, hX⟩ : ∃ X, bs (T.data.toList.take N) = X := ⟨_, rfl⟩
  rw [hX] at hsN
  have hv : rtkV 1 (T.data.toList.take N) LN ((at_ + N : Nat) : Int) = .tuple #[.agg #[.int .i64 1, .string X, .int .i64 LN], .int .i64 ((at_ : Int) + (N : Int))] := by rw [← hX]; rfl
  rw [hv]
  have HN := Lib.hid hN
  clear hv hX hl hc256 hN
  go_enter Tryd.func23, Tryd.ntmps23
  go_wp2_with (first | (go_at_call 18; refine (cL _).mono ?_; rintro e w1 ⟨rfl, hw1⟩; obtain rfl := hw1.symm) | (go_at_call 39; refine (cl _).mono ?_; rintro e w1 ⟨rfl, hw1⟩; obtain rfl := hw1.symm))
  go_loopg [8] N (fun gf nv wx => ∃ k : Nat, nv = .int .i64 k ∧ k ≤ N ∧ Hid (wx = (w.alloc (.cells #[.int .i64 0, .string ⟨#[]⟩, .int .i64 0] 36)).alloc (.cells #[.int .i64 0, .string ⟨#[]⟩, .int .i64 LN] 36)) ∧ N ≤ k + gf)
  case atStart => exact ⟨0, rfl, by omega, rfl, by omega⟩
  case round =>
    obtain ⟨k, rfl, hkN, hw, hfu⟩ := hrel
    obtain rfl := hw.out
    clear hw cl hc
    by_cases hk : k < N
    · obtain ⟨g', rfl⟩ : ∃ g', gk = g' + 1 := ⟨gk - 1, by omega⟩
      have hkT : k < T.size := by omega
      obtain ⟨e, he⟩ : ∃ e : Nat, (T[k]'hkT).toNat = e := ⟨_, rfl⟩
      have he256 : e < 256 := by rw [← he]; exact UInt8.toNat_lt _
      have hid : (letterN e || digitN e) = true := by
        have h := tw_in (p := idB) T.data.toList k (by rw [Array.length_toList]; exact hkT) (by rw [HN.out]; exact hk)
        rw [list_get T k hkT] at h
        unfold idB at h
        rw [he] at h
        exact h
      have cl := fun W => rletter_any e W he256
      have cd := fun W => rdigit_any e W he256
      have hki : (k : Int) < (T.size : Int) := by omega
      by_cases hle : letterN e = true
      · rw [hle] at cl
        clear hid hle cd
        go_wp2_with (go_at_call 39; refine (cl _).mono ?_; rintro e w1 ⟨rfl, hw1⟩; obtain rfl := hw1.symm)
        go_roundg g'
        case measure => omega
        case rel => exact ⟨k + 1, by go_num, by omega, rfl, by omega⟩
      · have hlf : letterN e = false := by simpa using hle
        have hdt : digitN e = true := by rw [hlf] at hid; simpa using hid
        rw [hlf] at cl
        rw [hdt] at cd
        clear hid hle hlf hdt
        go_wp2_with (first | (go_at_call 39; refine (cl _).mono ?_; rintro e w1 ⟨rfl, hw1⟩; obtain rfl := hw1.symm) | (go_at_call 40; refine (cd _).mono ?_; rintro e w1 ⟨rfl, hw1⟩; obtain rfl := hw1.symm))
        go_roundg g'
        case measure => omega
        case rel => exact ⟨k + 1, by go_num, by omega, rfl, by omega⟩
    · have hkN' : k = N := by omega
      subst hkN'
      clear hk
      by_cases hend : k < T.size
      · obtain ⟨e, he⟩ : ∃ e : Nat, (T[k]'hend).toNat = e := ⟨_, rfl⟩
        have he256 : e < 256 := by rw [← he]; exact UInt8.toNat_lt _
        have hid : (letterN e || digitN e) = false := by
          have h := tw_out (p := idB) T.data.toList k (by rw [Array.length_toList]; exact hend) HN.out
          rw [list_get T k hend] at h
          unfold idB at h
          rw [he] at h
          exact h
        have hlf : letterN e = false := by
          cases h : letterN e with
          | false => rfl
          | true => rw [h] at hid; simp at hid
        have hdf : digitN e = false := by rw [hlf] at hid; simpa using hid
        have cl := fun W => rletter_any e W he256
        have cd := fun W => rdigit_any e W he256
        rw [hlf] at cl
        rw [hdf] at cd
        have hki : (k : Int) < (T.size : Int) := by omega
        clear hid hlf hdf
        go_wp2_with (first | (go_at_call 39; refine (cl _).mono ?_; rintro e w1 ⟨rfl, hw1⟩; obtain rfl := hw1.symm) | (go_at_call 40; refine (cd _).mono ?_; rintro e w1 ⟨rfl, hw1⟩; obtain rfl := hw1.symm))
        refine bodyPost_ret (v := .tuple #[.agg #[.int .i64 1, .string X, .int .i64 LN], .int .i64 ((at_ : Int) + (k : Int))]) (by simp [results, Tryd.results23, go_sem]) rfl ⟨rfl, two_below w _ _⟩
      · have hke : k = T.size := by omega
        have hki : decide (k < T.size) = false := decide_eq_false hend
        have hki2 : decide ((k : Int) < (T.size : Int)) = false := decide_eq_false (by omega)
        clear hend hke
        go_wp2
        refine bodyPost_ret (v := .tuple #[.agg #[.int .i64 1, .string X, .int .i64 LN], .int .i64 ((at_ : Int) + (k : Int))]) (by simp [results, Tryd.results23, go_sem]) rfl ⟨rfl, two_below w _ _⟩
end Go.Proofs.YtkcjembmdiaclaaDoor
