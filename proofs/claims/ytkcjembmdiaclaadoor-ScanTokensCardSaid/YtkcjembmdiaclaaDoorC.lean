/- The walk of the program's cutLeft: a text without the runes of a set of ASCII signs at its begin. -/
import Derived.Test.YtkcjembmdiaclaaDoorA
import Derived.Lib.OthersKept
import Derived.Lib.TrimU
import Derived.Laws.RangeAny
namespace Go.Proofs.YtkcjembmdiaclaaDoor
open Go.RowKit Go.Lib
set_option linter.unusedVariables false
set_option linter.unusedSimpArgs false

/-- Is the rune one of the set's bytes? -/
def inSet (set : ByteArray) (R : Nat) : Bool := set.data.toList.any fun d => d.toNat == R
def inTo (set : ByteArray) (R q : Nat) : Bool := (set.data.toList.take q).any fun d => d.toNat == R
/-- The place behind the set's runes, from pos on. -/
def cutFrom (set s : ByteArray) : Nat → Nat → Nat
  | 0, pos => s.size
  | f + 1, pos => if pos < s.size then (if inSet set (Utf8.decode s pos).1 = true then cutFrom set s f (pos + (Utf8.decode s pos).2) else pos) else s.size

theorem inTo_succ (set : ByteArray) (R q : Nat) (h : q < set.size) : inTo set R (q + 1) = (inTo set R q || (set[q].toNat == R)) := by
  unfold inTo
  have h' : q < set.data.toList.length := by rw [Array.length_toList]; exact h
  rw [List.take_succ_eq_append_getElem h', List.any_append]
  simp only [List.any_cons, List.any_nil, Bool.or_false]
  rfl
theorem inTo_all (set : ByteArray) (R q : Nat) (h : ¬ q < set.size) : inTo set R q = inSet set R := by
  unfold inTo inSet
  rw [List.take_of_length_le (by rw [Array.length_toList]; exact Nat.le_of_not_lt h)]

theorem hit_in {b : Bool} {D R : Nat} (h : b = (false || D == R)) (hc : ((R : Int) == (D : Int)) = true) : b = true := by
  have e : D = R := by
    simp at hc
    omega
  rw [h, e]
  simp
theorem miss_in {b : Bool} {D R : Nat} (h : b = (false || D == R)) (hc : ((R : Int) == (D : Int)) = false) : b = false := by
  have e : ¬ D = R := by
    simp at hc
    omega
  rw [h]
  simp [e]
theorem cutLeft_any (s set : ByteArray) (w : World) (hs : s.size ≤ 4611686018427387904) (hset : ∀ (j : Nat) (h : j < set.size), (set[j]'h).toNat < 128) :
    Calls Tryd.prog 20 #[.string s, .string set] w fun e w' => e = .returned (.string (s.extract (cutFrom set s s.size 0) s.size)) ∧ Below w.heap.size w w' := by
  obtain ⟨C, hC⟩ : ∃ C, cutFrom set s s.size 0 = C := ⟨_, rfl⟩
  rw [hC]
  have HC := Lib.hid hC
  clear hC
  go_enter Tryd.func20, Tryd.ntmps20
  go_wp2
  go_loopg [] s.size (fun gf wx => ∃ pos : Nat, wx.heap[w.heap.size]? = some (.stringIter s pos) ∧ Below w.heap.size w wx ∧ Hid (cutFrom set s gf pos = C) ∧ s.size ≤ pos + gf)
  case atStart => exact ⟨0, World.iter_heap w s 0, (Below.refl _ w).alloc (Nat.le_refl _) _, HC, by omega⟩
  case round =>
    obtain ⟨pos, hit, hbw, HK, hfu⟩ := hrel
    by_cases hps : pos < s.size
    · obtain ⟨g', rfl⟩ : ∃ g', gk = g' + 1 := ⟨gk - 1, by omega⟩
      have hnx : ∀ ty, (Instr.next (.pointer (some ⟨w.heap.size, 0, none⟩)) true ty).run Tryd.prog wr = _ := fun ty => Lib.run_next_any_at wr w.heap.size s pos ty hit hps
      have hwd := Lib.width_pos s pos
      obtain ⟨R, hR⟩ : ∃ R, (Utf8.decode s pos).1 = R := ⟨_, rfl⟩
      obtain ⟨K, hK⟩ : ∃ K, (Utf8.decode s pos).2 = K := ⟨_, rfl⟩
      have hleft := HK.out
      simp only [cutFrom, hps, if_true, hR, hK] at hleft
      rw [hR, hK] at hnx
      rw [hK] at hwd
      have HL := Lib.hid hleft
      clear hleft HK hR hK
      have hit2 := Lib.iterAt_heap wr w.heap.size s pos (pos + K) hit
      have hbw2 := Lib.below_iterAt hbw (k := w.heap.size) (Nat.le_refl _) s (pos + K)
      obtain ⟨W, hWd⟩ : ∃ W, wr.iterAt w.heap.size s (pos + K) = W := ⟨_, rfl⟩
      rw [hWd] at hnx hit2 hbw2
      have hltW : w.heap.size < W.heap.size := (Array.getElem?_eq_some_iff.1 hit2).1
      clear hit hbw hWd
      go_wp2
      go_loopg [7] set.size (fun gf v7 wy => ∃ q : Nat, wy.heap[W.heap.size]? = some (.stringIter set q) ∧ Below W.heap.size W wy ∧ (∃ b, v7 = .bool b ∧ Hid (inTo set R q = b)) ∧ set.size ≤ q + gf)
      case atStart => exact ⟨0, World.iter_heap W set 0, (Below.refl _ W).alloc (Nat.le_refl _) _, ⟨false, rfl, rfl⟩, by omega⟩
      case round =>
        clear hnx
        obtain ⟨q, jt, hbW, ⟨b, rfl, HB⟩, hfq⟩ := hrel
        by_cases hqs : q < set.size
        · obtain ⟨h', rfl⟩ : ∃ h', gk = h' + 1 := ⟨gk - 1, by omega⟩
          have hny : ∀ ty, (Instr.next (.pointer (some ⟨W.heap.size, 0, none⟩)) true ty).run Tryd.prog wr = _ := fun ty => Lib.run_next_ascii_at wr W.heap.size set q ty jt hqs (hset q hqs)
          have hin := inTo_succ set R q hqs
          rw [HB.out] at hin
          obtain ⟨D, hD⟩ : ∃ D, (set[q]'hqs).toNat = D := ⟨_, rfl⟩
          rw [hD] at hny hin
          have HI := Lib.hid hin
          clear hin hD
          have jt2 := Lib.iterAt_heap wr W.heap.size set q (q + 1) jt
          have hbW2 := Lib.below_iterAt hbW (k := W.heap.size) (Nat.le_refl _) set (q + 1)
          obtain ⟨V, hV⟩ : ∃ V, wr.iterAt W.heap.size set (q + 1) = V := ⟨_, rfl⟩
          rw [hV] at hny jt2 hbW2
          clear jt hbW hV hset
          by_cases hc : ((R : Int) == (D : Int)) = true
          · cases b
            · go_wp2
              go_roundg h'
              case measure => omega
              case rel => exact ⟨q + 1, jt2, hbW2, ⟨true, rfl, hit_in HI.out hc⟩, by omega⟩
            · go_wp2
              go_roundg h'
              case measure => omega
              case rel => exact ⟨q + 1, jt2, hbW2, ⟨true, rfl, by have := HI.out; simp [this, Hid]⟩, by omega⟩
          · have hc' : ((R : Int) == (D : Int)) = false := by simpa using hc
            clear hc
            cases b
            · go_wp2
              go_roundg h'
              case measure => omega
              case rel => exact ⟨q + 1, jt2, hbW2, ⟨false, rfl, miss_in HI.out hc'⟩, by omega⟩
            · go_wp2
              go_roundg h'
              case measure => omega
              case rel => exact ⟨q + 1, jt2, hbW2, ⟨true, rfl, by have := HI.out; simp [this, Hid]⟩, by omega⟩
        · have hny : ∀ ty, (Instr.next (.pointer (some ⟨W.heap.size, 0, none⟩)) true ty).run Tryd.prog wr = _ := fun ty => Lib.run_next_end_at wr W.heap.size set q ty jt hqs
          have hin : inSet set R = b := by rw [← inTo_all set R q hqs]; exact HB.out
          have hleft := HL.out
          rw [hin] at hleft
          have hit3 := (hbW.block _ hltW).trans hit2
          have hbw3 := hbw2.trans (hbW.mono hbw2.size)
          clear HB hin HL
          cases b
          · simp only [Bool.false_eq_true, if_false] at hleft
            have HL := Lib.hid hleft
            clear hleft
            go_wp2
            go_ret
            exact ⟨by rw [HL.out]; rfl, hbw3⟩
          · simp only [if_true] at hleft
            have HL := Lib.hid hleft
            clear hleft
            go_wp2
            go_roundg g'
            case measure => omega
            case rel => exact ⟨pos + K, hit3, hbw3, HL, by omega⟩
    · have hnx : ∀ ty, (Instr.next (.pointer (some ⟨w.heap.size, 0, none⟩)) true ty).run Tryd.prog wr = _ := fun ty => Lib.run_next_end_at wr w.heap.size s pos ty hit hps
      have hleft := HK.out
      have he : cutFrom set s gk pos = s.size := by cases gk <;> simp [cutFrom, hps]
      rw [he] at hleft
      have HL := Lib.hid hleft
      clear hleft he HK
      go_wp2
      go_ret
      exact ⟨by rw [← HL.out, extract_none]; rfl, hbw⟩

end Go.Proofs.YtkcjembmdiaclaaDoor
