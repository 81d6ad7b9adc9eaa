/- The walk of the program's New. -/
import Derived.Test.YtkcjembmdiaclaaDoorO
import Derived.Lib.RuneCountTail
import Derived.Lib.OthersKept
namespace Go.Proofs.YtkcjembmdiaclaaDoor
open Go.RowKit Go.Lib Go.Maps
set_option linter.unusedVariables false
set_option linter.unusedSimpArgs false

/-- The place of the first rune that may not be, from pos on. -/
def badFrom (s : ByteArray) : Nat → Nat → Option Nat
  | 0, _ => none
  | f + 1, pos => if pos < s.size then (if (Utf8.decode s pos).1 = 0 ∨ ((Utf8.decode s pos).1 = 65533 ∧ (Utf8.decode s pos).2 = 1) then some pos else badFrom s f (pos + (Utf8.decode s pos).2)) else none
def badAt (s : ByteArray) : Option Nat := badFrom s s.size 0

theorem decode_here (s : ByteArray) (pos : Nat) (h : pos < s.size) (T : ByteArray) (hT : T = bs (s.data.toList.drop pos)) : Lib.decodeGo T = Utf8.decode s pos := by
  have he : T = s.extract pos s.size := by rw [hT, bs_drop]
  rw [he]
  unfold Lib.decodeGo
  rw [if_neg (by rw [Lib.tail_size]; omega), Lib.tail_decode]
  rfl

/-- A fault, as the program hands it back. -/
def faultV (e : Int) (line : Int) : Value := .agg #[.int .i64 e, .string ⟨#[]⟩, .int .i64 line]
/-- What New hands back where the source may not be. -/
def NewBad (w : World) (at_ : Nat) (s : ByteArray) (e : Ending) (w' : World) : Prop :=
  e = .returned (.tuple #[.pointer none, faultV 100 ((1 + nls (s.data.toList.take at_) : Nat) : Int)]) ∧ Below w.heap.size w w'
def NewGood (w : World) (s : ByteArray) (e : Ending) (w' : World) : Prop :=
  ∃ b, w.heap.size ≤ b ∧ e = .returned (.tuple #[.pointer (some ⟨b, 0, none⟩), faultV 0 0]) ∧ Sc w' b (Lib.trimPrefix s.data.toList [239, 187, 191]) 1 false ∧ Below w.heap.size w w'
def NewPost (w : World) (s : ByteArray) (r : Option Nat) (e : Ending) (w' : World) : Prop :=
  match r with | some p => NewBad w p s e w' | none => NewGood w s e w'

/-- A block of three cells: what they hold, and that they may be written. -/
theorem block_cells {w1 : World} {N : Nat} {a b c : Value} {T : TypeId} (hb : w1.heap[N]? = some (.cells #[a, b, c] T (0, 0))) :
    (w1.cell? ⟨N, 0, none⟩ = some a ∧ w1.cell? ⟨N, 1, none⟩ = some b ∧ w1.cell? ⟨N, 2, none⟩ = some c) ∧ w1.frozen? ⟨N, 0, none⟩ = false ∧ w1.frozen? ⟨N, 1, none⟩ = false ∧ w1.frozen? ⟨N, 2, none⟩ = false := by
  refine ⟨⟨?_, ?_, ?_⟩, Lib.frozen_of_heap hb 0, Lib.frozen_of_heap hb 1, Lib.frozen_of_heap hb 2⟩ <;> (rw [Lib.cell_of_heap hb]; rfl)

set_option maxRecDepth 100000 in
set_option maxHeartbeats 2000000 in
theorem new_any (s : ByteArray) (w : World) (hs : s.size ≤ 1048576) (hT : Lib.Utf8Tabs 0 1 w) :
    Calls Tryd.prog 10 #[.string s] w (NewPost w s (badAt s)) := by
  obtain ⟨R0, hR0⟩ : ∃ R0, badAt s = R0 := ⟨_, rfl⟩
  rw [hR0]
  have HR := Lib.hid hR0
  clear hR0
  have HT := Lib.hid hT
  clear hT
  go_enter Tryd.func10, Tryd.ntmps10
  go_wp2
  go_loopg [] s.size (fun gf wx => ∃ pos : Nat, wx.heap[w.heap.size]? = some (.cells #[.int .i64 0, .string ⟨#[]⟩, .int .i64 0] 26 (0, 0)) ∧ wx.heap[w.heap.size + 1]? = some (.stringIter s pos) ∧ Below w.heap.size w wx ∧ Hid (badFrom s gf pos = R0) ∧ s.size ≤ pos + gf)
  case atStart =>
    refine ⟨0, ?_, ?_, ?_, HR, by omega⟩
    · exact (Below.heap_alloc (w.alloc _) _ _ (by simp)).trans (heap_alloc_new w _)
    · have h := World.iter_heap (w.alloc (.cells #[.int .i64 0, .string ⟨#[]⟩, .int .i64 0] 26)) s 0
      simpa using h
    · exact ((Below.refl _ w).alloc (Nat.le_refl _) _).alloc (by simp) _
  case round =>
    obtain ⟨pos, hF, hit, hbw, HK, hfu⟩ := hrel
    by_cases hps : pos < s.size
    · obtain ⟨g', rfl⟩ : ∃ g', gk = g' + 1 := ⟨gk - 1, by omega⟩
      have hnx : ∀ ty, (Instr.next (.pointer (some ⟨w.heap.size + 1, 0, none⟩)) true ty).run Tryd.prog wr = _ := fun ty => Lib.run_next_any_at wr (w.heap.size + 1) s pos ty hit hps
      have hwd := Lib.width_pos s pos
      have hrl := Lib.rune_le s pos
      have hdec := decode_here s pos hps _ rfl
      obtain ⟨R, hR⟩ : ∃ R, (Utf8.decode s pos).1 = R := ⟨_, rfl⟩
      obtain ⟨K, hK⟩ : ∃ K, (Utf8.decode s pos).2 = K := ⟨_, rfl⟩
      have hleft := HK.out
      simp only [badFrom, hps, if_true, hR, hK] at hleft
      have hsl := sl_l s pos (by omega)
      have hit2 := Lib.iterAt_heap wr (w.heap.size + 1) s pos (pos + K) hit
      have hbw2 := Lib.below_iterAt hbw (k := w.heap.size + 1) (by omega) s (pos + K)
      have hF2 := (Lib.iterAt_other wr (w.heap.size + 1) w.heap.size s (pos + K) (by omega)).trans hF
      rw [hR, hK] at hnx
      obtain ⟨W, hWd⟩ : ∃ W, wr.iterAt (w.heap.size + 1) s (pos + K) = W := ⟨_, rfl⟩
      rw [hWd] at hnx hit2 hbw2 hF2
      have hltW : w.heap.size + 1 < W.heap.size := (Array.getElem?_eq_some_iff.1 hit2).1
      have cD := Tryd.utf8_DecodeRuneInString (bs (s.data.toList.drop pos)) W (Utf8Tabs_below HT.out hbw2)
      rw [hdec, hR, hK] at cD
      obtain ⟨T, hTd⟩ : ∃ T, bs (s.data.toList.drop pos) = T := ⟨_, rfl⟩
      rw [hTd] at hsl cD
      rw [hK] at hwd
      rw [hR] at hrl
      have HL := Lib.hid hleft
      clear hleft HK hR hK hdec hTd hit hF hbw hWd HR
      have cL := fun W => line_any s pos W hs (by omega)
      obtain ⟨LN, hLN⟩ : ∃ LN, 1 + nls (s.data.toList.take pos) = LN := ⟨_, rfl⟩
      rw [hLN] at cL
      have HLN := Lib.hid hLN
      clear hLN
      by_cases hr0 : ((R : Int) == 0) = true
      · have hR0 : R0 = some pos := by rw [← HL.out, if_pos (Or.inl (by simp at hr0; omega))]
        subst hR0
        clear HL
        · go_wp2_with (first | (go_at_call 15; refine cD.mono ?_; rintro e w1 ⟨rfl, hb1⟩; have hF3 := (hb1.block _ (by omega)).trans hF2; obtain ⟨⟨k0, k1, k2⟩, q0, q1, q2⟩ := block_cells hF3) | (go_at_call 14; refine (cL _).mono ?_; rintro e w' ⟨rfl, hw'⟩; obtain rfl := hw'.symm))
          refine bodyPost_ret (v := .tuple #[.pointer none, .agg #[.int .i64 100, .string ⟨#[]⟩, .int .i64 LN]]) (by simp [results, Tryd.results10, go_sem, k0, k1, k2, q0, q1, q2]) rfl ⟨by rw [← HLN.out]; rfl, ?_⟩
          exact (((hbw2.trans (hb1.mono hbw2.size)).setCell (by simp) _).setCell (by simp) _).setCell (by simp) _
      · have hr0f : ((R : Int) == 0) = false := by simpa using hr0
        have hn0 : ¬ R = 0 := by simp at hr0; omega
        by_cases hr1 : ((R : Int) == 65533) = true
        · have hn1 : R = 65533 := by simp at hr1; omega
          by_cases hk1 : ((K : Int) == 1) = true
          · have hR0 : R0 = some pos := by rw [← HL.out, if_pos (Or.inr ⟨hn1, by simp at hk1; omega⟩)]
            subst hR0
            clear HL hr0 hn0 hn1
            go_wp2_with (first | (go_at_call 15; refine cD.mono ?_; rintro e w1 ⟨rfl, hb1⟩; have hF3 := (hb1.block _ (by omega)).trans hF2; obtain ⟨⟨k0, k1, k2⟩, q0, q1, q2⟩ := block_cells hF3) | (go_at_call 14; refine (cL _).mono ?_; rintro e w' ⟨rfl, hw'⟩; obtain rfl := hw'.symm))
            refine bodyPost_ret (v := .tuple #[.pointer none, .agg #[.int .i64 100, .string ⟨#[]⟩, .int .i64 LN]]) (by simp [results, Tryd.results10, go_sem, k0, k1, k2, q0, q1, q2]) rfl ⟨by rw [← HLN.out]; rfl, ?_⟩
            exact (((hbw2.trans (hb1.mono hbw2.size)).setCell (by simp) _).setCell (by simp) _).setCell (by simp) _
          · have hk1f : ((K : Int) == 1) = false := by simpa using hk1
            have hnk : ¬ K = 1 := by simp at hk1; omega
            have hnext : badFrom s g' (pos + K) = R0 := by
              have h := HL.out
              rw [if_neg (by omega)] at h
              exact h
            have HN := Lib.hid hnext
            clear HL hr0 hn0 hn1 hk1 hnk hnext
            go_wp2_with (go_at_call 15; refine cD.mono ?_; rintro e w1 ⟨rfl, hb1⟩)
            go_roundg g'
            case measure => omega
            case rel => exact ⟨pos + K, (hb1.block _ (by omega)).trans hF2, (hb1.block _ (by omega)).trans hit2, hbw2.trans (hb1.mono hbw2.size), HN, by omega⟩
        · have hr1f : ((R : Int) == 65533) = false := by simpa using hr1
          have hn1 : ¬ R = 65533 := by simp at hr1; omega
          have hnext : badFrom s g' (pos + K) = R0 := by
            have h := HL.out
            rw [if_neg (by omega)] at h
            exact h
          have HN := Lib.hid hnext
          clear HL hr0 hn0 hn1 hr1 hnext
          go_wp2_with (go_at_call 15; refine cD.mono ?_; rintro e w1 ⟨rfl, hb1⟩)
          go_roundg g'
          case measure => omega
          case rel => exact ⟨pos + K, (hb1.block _ (by omega)).trans hF2, (hb1.block _ (by omega)).trans hit2, hbw2.trans (hb1.mono hbw2.size), HN, by omega⟩
    · have hnx : ∀ ty, (Instr.next (.pointer (some ⟨w.heap.size + 1, 0, none⟩)) true ty).run Tryd.prog wr = _ := fun ty => Lib.run_next_end_at wr (w.heap.size + 1) s pos ty hit hps
      have hleft := HK.out
      have he : badFrom s gk pos = none := by cases gk <;> simp [badFrom, hps]
      rw [he] at hleft
      subst hleft
      have cT := fun W => Tryd.strings_TrimPrefix s ⟨#[239, 187, 191]⟩ W
      obtain ⟨T, hTd⟩ : ∃ T, bs (Lib.trimPrefix s.data.toList [239, 187, 191]) = T := ⟨_, rfl⟩
      have hT' : (⟨(Lib.trimPrefix s.data.toList (⟨#[239, 187, 191]⟩ : ByteArray).data.toList).toArray⟩ : ByteArray) = T := hTd
      rw [hT'] at cT
      have HTd := Lib.hid hTd
      clear hTd hT' he HK HR
      have hltW : w.heap.size + 1 < wr.heap.size := (Array.getElem?_eq_some_iff.1 hit).1
      have hF3 : (wr.alloc (.cells #[.string T, .int .i64 1, .bool false] 50)).heap[w.heap.size]? = some (.cells #[.int .i64 0, .string ⟨#[]⟩, .int .i64 0] 26 (0, 0)) := (Below.heap_alloc wr _ _ (by omega)).trans hF
      obtain ⟨⟨k0, k1, k2⟩, q0, q1, q2⟩ := block_cells hF3
      have hnew : (wr.alloc (.cells #[.string T, .int .i64 1, .bool false] 50)).heap[wr.heap.size]? = some (.cells #[.string T, .int .i64 1, .bool false] 50 (0, 0)) := heap_alloc_new wr _
      go_wp2_with (go_at_call 16; refine (cT _).mono ?_; rintro e w' ⟨rfl, hw'⟩; obtain rfl := hw'.symm)
      refine bodyPost_ret (v := .tuple #[.pointer (some ⟨wr.heap.size, 0, none⟩), .agg #[.int .i64 0, .string ⟨#[]⟩, .int .i64 0]]) (by simp [results, Tryd.results10, go_sem, k0, k1, k2, q0, q1, q2]) rfl ⟨wr.heap.size, by omega, rfl, ?_, ?_⟩
      · have h : Sc (wr.alloc (.cells #[.string T, .int .i64 1, .bool false] 50)) wr.heap.size (Lib.trimPrefix s.data.toList [239, 187, 191]) 1 false := by
          unfold Sc
          rw [HTd.out]
          exact hnew
        exact ((h.setCell _ (by simp; omega) _).setCell _ (by simp; omega) _).setCell _ (by simp; omega) _
      · exact (((hbw.alloc hbw.size _).setCell (by simp) _).setCell (by simp) _).setCell (by simp) _
end Go.Proofs.YtkcjembmdiaclaaDoor
