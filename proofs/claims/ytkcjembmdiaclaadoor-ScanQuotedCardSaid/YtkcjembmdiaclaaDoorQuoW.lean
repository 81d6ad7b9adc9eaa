/- The walk of the law ScanQuoted. -/
import Derived.Test.YtkcjembmdiaclaaDoorQuoP
namespace Go.Proofs.YtkcjembmdiaclaaDoor
open Go.RowKit Go.Lib Go.Maps
set_option linter.unusedVariables false
set_option linter.unusedSimpArgs false

theorem app_list2 (a b : ByteArray) : (a ++ b).data.toList = a.data.toList ++ b.data.toList := by simp
theorem snoc_take2 (s : ByteArray) (k : Nat) (h : k < s.size) : s.data.toList.take (k + 1) = s.data.toList.take k ++ [s[k]] := by
  rw [List.take_succ_eq_append_getElem (by rw [Array.length_toList]; exact h)]
  rfl

set_option maxRecDepth 100000 in
set_option maxHeartbeats 4000000 in
theorem quoted_big (s : ByteArray) (w : World) (hG : Glob w) (hbig : 256 < s.size) :
    Calls Tryd.prog 5 #[.string s] w fun e w' => e = .returned (.bool true) ∧ Below w.heap.size w w' := by
  have cS := shown_any w hG
  go_enter Tryd.func5, Tryd.ntmps5
  go_wp2_with (go_at_call 9; refine cS.mono ?_; rintro e w1 ⟨rfl, hb1⟩)
  go_ret
  exact ⟨rfl, hb1⟩

def lowS : ByteArray := { data := #[48, 49, 50, 51, 52, 53, 54, 55, 56, 57, 97, 98, 99, 100, 101, 102] }
def upS : ByteArray := { data := #[48, 49, 50, 51, 52, 53, 54, 55, 56, 57, 65, 66, 67, 68, 69, 70] }
theorem setCell_held {w : World} {b j : Nat} {cs : Array Value} {t : TypeId} {fz : Nat × Nat} {v : Value} (h : w.heap[b]? = some (.cells cs t fz)) (hj : cs[j]? = some v) : w.setCell ⟨b, j, none⟩ v = w := by
  have hlt := lt_of_block h
  have hjl : j < cs.size := by
    rcases Nat.lt_or_ge j cs.size with h' | h'
    · exact h'
    · rw [Array.getElem?_eq_none h'] at hj; cases hj
  unfold World.setCell
  have : w.heap.modify b (fun | .cells c elem frozen => .cells (if (none : Option Nat).isSome then c else c.setIfInBounds j v) elem frozen | o => o) = w.heap := by
    apply Array.ext_getElem?
    intro i
    rw [Array.getElem?_modify]
    split
    · rename_i e
      subst e
      rw [h]
      have hs : cs.setIfInBounds j v = cs := by
        apply Array.ext_getElem?
        intro i
        rw [Array.getElem?_setIfInBounds]
        split
        · rename_i e
          subst e
          have hv : cs[j] = v := by rw [Array.getElem?_eq_getElem hjl] at hj; exact Option.some.inj hj
          simp [hjl, hv]
        · rfl
      simp [hs]
    · rfl
  exact congrArg (fun h => { w with heap := h }) this
theorem zero_cells {w : World} {b T : Nat} (h : w.heap[b]? = some (.cells #[.int .i64 0, .string ⟨#[]⟩, .int .i64 0] T (0, 0))) :
    w.cell? ⟨b, 0, none⟩ = some (.int .i64 0) ∧ w.cell? ⟨b, 1, none⟩ = some (.string ⟨#[]⟩) ∧ w.cell? ⟨b, 2, none⟩ = some (.int .i64 0) ∧ w.frozen? ⟨b, 0, none⟩ = false ∧ w.frozen? ⟨b, 1, none⟩ = false ∧ w.frozen? ⟨b, 2, none⟩ = false :=
  ⟨by rw [Lib.cell_of_heap h]; rfl, by rw [Lib.cell_of_heap h]; rfl, by rw [Lib.cell_of_heap h]; rfl, Lib.frozen_of_heap h 0, Lib.frozen_of_heap h 1, Lib.frozen_of_heap h 2⟩
theorem zero_held {w : World} {b T : Nat} (h : w.heap[b]? = some (.cells #[.int .i64 0, .string ⟨#[]⟩, .int .i64 0] T (0, 0))) :
    ((w.setCell ⟨b, 0, none⟩ (.int .i64 0)).setCell ⟨b, 1, none⟩ (.string ⟨#[]⟩)).setCell ⟨b, 2, none⟩ (.int .i64 0) = w := by
  rw [setCell_held (j := 0) (v := .int .i64 0) h rfl, setCell_held (j := 1) (v := .string ⟨#[]⟩) h rfl, setCell_held (j := 2) (v := .int .i64 0) h rfl]
theorem hex_slice (S : ByteArray) (D : List UInt8) (hS : S.data.toList = D) (hD : D.length = 16) (x : Nat) (hx : x < 16) : ∃ A : ByteArray, (A.size : Int) ≤ 8388608 ∧ A.data.toList = [D.getD x 0] ∧ ∀ W, (Instr.slice 9 (.string S) (some (.int .u8 (x : Int))) (some (.int .u8 ((x : Int) + 1))) none).run Tryd.prog W = .ok (.string A) W := by
  have hsz : S.size = 16 := by rw [Lib.size_eq, hS, hD]
  have hx' : x < D.length := by omega
  have e : (D.drop x).take (x + 1 - x) = [D.getD x 0] := by
    rw [show x + 1 - x = 1 by omega, List.drop_eq_getElem_cons hx', List.take_succ_cons, List.take_zero, List.getD_eq_getElem?_getD, List.getElem?_eq_getElem hx']
    rfl
  refine ⟨bs [D.getD x 0], by rw [bs_size]; simp, bs_list _, fun W => ?_⟩
  rw [run_slice_string W 9 S .u8 .u8 x (x + 1) Tryd.underlying9 (by omega) (by omega) (by omega)]
  have e2 : ((x : Int) + 1).toNat = x + 1 := by omega
  rw [e2, Int.toNat_natCast, bs_extract, hS, e]

set_option maxRecDepth 100000 in
set_option maxHeartbeats 8000000 in
theorem quoted_small (s : ByteArray) (w : World) (hG : Glob w) (hsmall : s.size ≤ 256) :
    Calls Tryd.prog 5 #[.string s] w fun e w' => e = .returned (.bool true) ∧ Below w.heap.size w w' := by
  have cS := shown_any w hG
  have hd : decide ((256 : Int) < (s.size : Int)) = false := decide_eq_false (by omega)
  go_enter Tryd.func5, Tryd.ntmps5
  go_wp2_with (go_at_call 9; refine cS.mono ?_; rintro e w1 ⟨rfl, hb1⟩)
  have hG1 := hG.below hb1
  go_loopg [3, 4, 5] s.size (fun gf q r i wx => ∃ (k : Nat) (Q : ByteArray) (rb : Bool), q = .string Q ∧ r = .bool rb ∧ i = .int .i64 k ∧ k ≤ s.size ∧ Q.size ≤ 4 * k + 1 ∧ Hid (Q.data.toList = 34 :: hexAll (s.data.toList.take k)) ∧ Hid (rb = (s.data.toList.take k).all fun c => rawOk c.toNat) ∧ Below w.heap.size w wx ∧ s.size ≤ k + gf)
  case atStart => exact ⟨0, ⟨#[34]⟩, true, rfl, rfl, rfl, by omega, by decide, rfl, rfl, hb1, by omega⟩
  case round =>
    obtain ⟨k, Q, rb, rfl, rfl, rfl, hk, hQ, HQ, HR, hbw, hfu⟩ := hrel
    by_cases hlt : k < s.size
    · obtain ⟨g', rfl⟩ : ∃ g', gk = g' + 1 := ⟨gk - 1, by omega⟩
      obtain ⟨c, hc⟩ : ∃ c : Nat, (s[k]'hlt).toNat = c := ⟨_, rfl⟩
      have hcb : c < 256 := by rw [← hc]; exact (s[k]'hlt).toNat_lt
      obtain ⟨A1, hA1, hA1l, hsl1⟩ := hex_slice lowS lowD rfl rfl (c / 16) (by omega)
      obtain ⟨A2, hA2, hA2l, hsl2⟩ := hex_slice upS upD rfl rfl (c % 16) (by omega)
      obtain ⟨x, hx⟩ : ∃ x, c / 16 = x := ⟨_, rfl⟩
      obtain ⟨y, hy⟩ : ∃ y, c % 16 = y := ⟨_, rfl⟩
      rw [hx] at hsl1
      rw [hy] at hsl2
      have hxi : (c : Int) / 16 = (x : Int) := by omega
      have hyi : (c : Int) % 16 = (y : Int) := by omega
      have hx15 : (x : Int) ≤ 15 := by omega
      have hy15 : (y : Int) ≤ 15 := by omega
      obtain ⟨Q1, hQ1⟩ : ∃ Q1, Q ++ ({ data := #[92, 120] } : ByteArray) = Q1 := ⟨_, rfl⟩
      obtain ⟨Q2, hQ2⟩ : ∃ Q2, Q1 ++ A1 = Q2 := ⟨_, rfl⟩
      obtain ⟨Q3, hQ3⟩ : ∃ Q3, Q2 ++ A2 = Q3 := ⟨_, rfl⟩
      have hQ3l : Q3.data.toList = 34 :: hexAll (s.data.toList.take (k + 1)) := by
        have e : hexAll (s.data.toList.take (k + 1)) = hexAll (s.data.toList.take k) ++ hexB (s[k]'hlt) := by
          rw [snoc_take2 s k hlt]
          show List.flatMap hexB _ = _
          rw [List.flatMap_append]
          simp [hexAll]
        rw [e, ← hQ3, app_list2, ← hQ2, app_list2, ← hQ1, app_list2, HQ.out, hA1l, hA2l]
        have e3 : hexB (s[k]'hlt) = [92, 120, lowD.getD (c / 16) 0, upD.getD (c % 16) 0] := by
          unfold hexB hexLo hexUp
          rw [hc]
        rw [e3]
        simp
      have hl : (hexAll (s.data.toList.take k)).length ≤ 4 * k := by rw [hexAll_len, List.length_take]; omega
      have hz1 : (Q1.size : Int) ≤ 8388608 := by rw [← hQ1, Lib.size_eq, app_list2, HQ.out]; simp; omega
      have hz2 : (Q2.size : Int) ≤ 8388608 := by rw [← hQ2, ← hQ1, Lib.size_eq, app_list2, app_list2, HQ.out, hA1l]; simp; omega
      have hz0 : (Q.size : Int) ≤ 8388608 := by omega
      have hz3 : Q3.size ≤ 4 * (k + 1) + 1 := by rw [Lib.size_eq, hQ3l]; simp [hexAll_len]; omega
      have HQ3 := Lib.hid hQ3l
      have HZ3 := Lib.hid hz3
      have HX := Lib.hid hc
      clear hQ3l hz3 HQ hA1l hA2l hx hy hl
      unfold lowS at hsl1
      unfold upS at hsl2
      go_upto_region 8 with (fail)
      go_quiet (fail)
      have hbw8 := hbw.trans ((below_drewN wr nq).mono hbw.size)
      have hsn : (s.data.toList.take (k + 1)).all (fun c => rawOk c.toNat) = ((s.data.toList.take k).all (fun c => rawOk c.toNat) && rawOk (s[k]'hlt).toNat) := by
        rw [snoc_take2 s k hlt, List.all_append]
        simp
      have HSN := Lib.hid hsn
      clear hsn hsl1 hsl2 hQ1 hQ2 hQ3 hz1 hz2 hz0 hA1 hA2 hxi hyi hx15 hy15
      cases rb with
      | false =>
        go_wp2
        go_roundg g'
        case measure => omega
        case rel => exact ⟨k + 1, Q3, false, rfl, rfl, by go_num, by omega, HZ3.out, HQ3, by have h1 := HSN.out; have h2 := HR.out; rw [← h2] at h1; rw [h1]; rfl, hbw8, by omega⟩
      | true =>
        have hR' : ∀ b, rawOk c = b → b = (s.data.toList.take (k + 1)).all fun c => rawOk c.toNat := by
          intro b hb
          have h1 := HSN.out
          have h2 := HR.out
          have h3 := HX.out
          rw [← h2, h3, hb] at h1
          rw [h1]
          rfl
        have HR' := Lib.hid hR'
        clear hR'
        by_cases h32 : (32 : Int) ≤ (c : Int)
        · by_cases h127 : (c : Int) < 127
          · by_cases h96 : ((c : Int) == 96) = true
            · go_wp2
              go_roundg g'
              case measure => omega
              case rel => exact ⟨k + 1, Q3, false, rfl, congrArg Value.bool (by unfold bne; rw [h96]; rfl), by go_num, by omega, HZ3.out, HQ3, HR'.out false (by unfold rawOk; rw [beq_iff_eq] at h96; exact decide_eq_false (by omega)), hbw8, by omega⟩
            · have h96' : ((c : Int) == 96) = false := by simpa using h96
              clear h96
              go_wp2
              go_roundg g'
              case measure => omega
              case rel => exact ⟨k + 1, Q3, true, rfl, congrArg Value.bool (by unfold bne; rw [h96']; rfl), by go_num, by omega, HZ3.out, HQ3, HR'.out true (by unfold rawOk; rw [beq_eq_false_iff_ne] at h96'; exact decide_eq_true ⟨by omega, by omega, by omega⟩), hbw8, by omega⟩
          · have h127' : (127 : Int) ≤ (c : Int) := by omega
            clear h127
            go_wp2
            go_roundg g'
            case measure => omega
            case rel => exact ⟨k + 1, Q3, false, rfl, rfl, by go_num, by omega, HZ3.out, HQ3, HR'.out false (by unfold rawOk; exact decide_eq_false (by omega)), hbw8, by omega⟩
        · have h32' : (c : Int) < 32 := by omega
          clear h32
          go_wp2
          go_roundg g'
          case measure => omega
          case rel => exact ⟨k + 1, Q3, false, rfl, rfl, by go_num, by omega, HZ3.out, HQ3, HR'.out false (by unfold rawOk; exact decide_eq_false (by omega)), hbw8, by omega⟩
    · have hka : s.data.toList.take k = s.data.toList := List.take_of_length_le (by rw [Array.length_toList]; exact Nat.le_of_not_lt hlt)
      have hQl := HQ.out
      have hRl := HR.out
      rw [hka] at hQl hRl
      clear HQ HR
      have hzQ : (Q.size : Int) ≤ 8388608 := by omega
      have hXl : (Q ++ ({ data := #[34] } : ByteArray)).data.toList = 34 :: (hexAll s.data.toList ++ [34]) := by rw [app_list2, hQl]; rfl
      have hXs : (Q ++ ({ data := #[34] } : ByteArray)).size ≤ 1030 := by
        rw [Lib.size_eq, hXl]
        have := hexAll_len s.data.toList
        have h2 : s.data.toList.length = s.size := (Lib.size_eq s).symm
        simp
        omega
      have hGr := hG.below hbw
      have cN := new_good (Q ++ ({ data := #[34] } : ByteArray)) wr (by omega) hGr (ascii_good _ (by rw [hXl]; intro c hc; exact ⟨(hex_good _ c hc).1, (hex_good _ c hc).2.1⟩)) (34 :: (hexAll s.data.toList ++ [34])) (by rw [hXl]; exact trim_none _ (by simp))
      have hlen : (34 :: (hexAll s.data.toList ++ [34]) : List UInt8).length ≤ 1030 := by rw [← hXl, ← Lib.size_eq]; exact hXs
      have hnx := hex_next s.data.toList
      have hbss : bs s.data.toList = s := bs_of s
      obtain ⟨L, hL⟩ : ∃ L : List UInt8, 34 :: (hexAll s.data.toList ++ [34]) = L := ⟨_, rfl⟩
      rw [hL] at cN hlen hnx
      have HNX := Lib.hid hnx
      have HBS := Lib.hid hbss
      have HRL := Lib.hid hRl
      have hlt2 := glob_lt hG
      clear hXl hXs hQl hnx hbss hL hRl hQ hka cS
      go_upto_region 13 with (go_at_call 10; refine cN.mono ?_; rintro e w2 ⟨b, hb, rfl, hs2, hb2⟩)
      have hbw2 := hbw.trans (hb2.mono hbw.size)
      have hb0 : w.heap.size ≤ b := Nat.le_trans hbw.size hb
      have hblt := hs2.lt
      have hbw2a := hbw2.alloc hbw2.size (.cells #[.int .i64 0, .string ⟨#[]⟩, .int .i64 0] 26)
      obtain ⟨m, hm⟩ := (hG.below hbw2a).maxLen
      have cX := next_is b L 1 false (w2.alloc (.cells #[.int .i64 0, .string ⟨#[]⟩, .int .i64 0] 26)) (by omega) (by omega) (hs2.alloc _) m hm (by omega) 2 s.data.toList s 1 0 0 [] 1 true HNX.out HBS.out
      clear cN
      cases rb with
      | false =>
        clear HRL
        go_wp2_with (go_at_call 12; refine cX.mono ?_; rintro e w3 ⟨rfl, hs3, hb3⟩)
        go_ret
        have hbw3 := hb3.below hbw2a hb0
        exact ⟨rfl, (hbw3.alloc hbw3.size _).alloc (by have := hbw3.size; simp; omega) _⟩
      | true =>
        have hok : ∀ c ∈ s.data.toList, rawOk c.toNat = true := by
          have h := HRL.out
          exact fun c hc => List.all_eq_true.1 h.symm c hc
        have hs96 : (({ data := #[96] } : ByteArray) ++ s ++ ({ data := #[96] } : ByteArray)).data.toList = 96 :: (s.data.toList ++ [96]) := by
          rw [app_list2, app_list2]
          rfl
        have hgd := ascii_good (({ data := #[96] } : ByteArray) ++ s ++ ({ data := #[96] } : ByteArray)) (by rw [hs96]; intro c hc; exact ⟨(raw_good hok c hc).1, (raw_good hok c hc).2.1⟩)
        have htr : Lib.trimPrefix (({ data := #[96] } : ByteArray) ++ s ++ ({ data := #[96] } : ByteArray)).data.toList [239, 187, 191] = 96 :: (s.data.toList ++ [96]) := by rw [hs96]; exact trim_none _ (by simp)
        have hsz2 : (({ data := #[96] } : ByteArray) ++ s ++ ({ data := #[96] } : ByteArray)).size ≤ 258 := by
          rw [Lib.size_eq, hs96]
          have h2 : s.data.toList.length = s.size := (Lib.size_eq s).symm
          simp
          omega
        have hlen2 : (96 :: (s.data.toList ++ [96]) : List UInt8).length ≤ 258 := by rw [← hs96, ← Lib.size_eq]; exact hsz2
        have hrn := raw_next hok
        obtain ⟨L2, hL2⟩ : ∃ L2 : List UInt8, 96 :: (s.data.toList ++ [96]) = L2 := ⟨_, rfl⟩
        rw [hL2] at htr hlen2 hrn
        have HRN := Lib.hid hrn
        have HGD := Lib.hid hgd
        have HTR := Lib.hid htr
        have HSZ := Lib.hid hsz2
        have hsI : (s.size : Int) ≤ 8388608 := by omega
        clear hrn hgd htr hsz2 hs96 hL2 hok HRL
        go_upto_region 18 with (go_at_call 12; refine cX.mono ?_; rintro e w3 ⟨rfl, hs3, hb3⟩)
        clear cX
        have hbw3 := hb3.below hbw2a hb0
        have hbw3a := (hbw3.alloc hbw3.size (.cells #[.int .i64 2, .string s, .int .i64 1] 33)).alloc (by have := hbw3.size; simp; omega) (.cells #[.int .i64 0, .string ⟨#[]⟩, .int .i64 0] 26)
        have hB7a : (w2.alloc (.cells #[.int .i64 0, .string ⟨#[]⟩, .int .i64 0] 26)).heap[w2.heap.size]? = some (.cells #[.int .i64 0, .string ⟨#[]⟩, .int .i64 0] 26 (0, 0)) := heap_alloc_new w2 _
        have hB7b := hb3.keep hB7a (by omega)
        have hB7lt := lt_of_block hB7b
        have hB7 : ((w3.alloc (.cells #[.int .i64 2, .string s, .int .i64 1] 33)).alloc (.cells #[.int .i64 0, .string ⟨#[]⟩, .int .i64 0] 26)).heap[w2.heap.size]? = some (.cells #[.int .i64 0, .string ⟨#[]⟩, .int .i64 0] 26 (0, 0)) := (Below.heap_alloc (w3.alloc _) _ _ (by simp; omega)).trans ((Below.heap_alloc w3 _ _ hB7lt).trans hB7b)
        have hB8 : ((w3.alloc (.cells #[.int .i64 2, .string s, .int .i64 1] 33)).alloc (.cells #[.int .i64 0, .string ⟨#[]⟩, .int .i64 0] 26)).heap[w3.heap.size]? = some (.cells #[.int .i64 2, .string s, .int .i64 1] 33 (0, 0)) := (Below.heap_alloc (w3.alloc _) _ _ (by simp)).trans (heap_alloc_new w3 _)
        have hB9 : ((w3.alloc (.cells #[.int .i64 2, .string s, .int .i64 1] 33)).alloc (.cells #[.int .i64 0, .string ⟨#[]⟩, .int .i64 0] 26)).heap[w3.heap.size + 1]? = some (.cells #[.int .i64 0, .string ⟨#[]⟩, .int .i64 0] 26 (0, 0)) := by
          have h := heap_alloc_new (w3.alloc (.cells #[.int .i64 2, .string s, .int .i64 1] 33)) (.cells #[.int .i64 0, .string ⟨#[]⟩, .int .i64 0] 26)
          simpa using h
        have cN2 := new_good (({ data := #[96] } : ByteArray) ++ s ++ ({ data := #[96] } : ByteArray)) ((w3.alloc (.cells #[.int .i64 2, .string s, .int .i64 1] 33)).alloc (.cells #[.int .i64 0, .string ⟨#[]⟩, .int .i64 0] 26)) (by have := HSZ.out; omega) (hG.below hbw3a) HGD.out L2 HTR.out
        clear hB7a hB7b
        have HB7 := Lib.hid hB7
        have HB8 := Lib.hid hB8
        have HB9 := Lib.hid hB9
        clear hB7 hB8 hB9
        go_upto_region 19 with (go_at_call 10; refine cN2.mono ?_; rintro e w4 ⟨b2, hbb2, rfl, hs4, hb4⟩; have hC7 := (hb4.block _ (lt_of_block HB7.out)).trans HB7.out; obtain ⟨z0, z1, z2, z3, z4, z5⟩ := zero_cells hC7)
        clear cN2
        have hC8 := (hb4.block _ (lt_of_block HB8.out)).trans HB8.out
        have hC9 := (hb4.block _ (lt_of_block HB9.out)).trans HB9.out
        rw [zero_held hC7]
        have hbw4 := hbw3a.trans (hb4.mono hbw3a.size)
        have hb20 : w.heap.size ≤ b2 := Nat.le_trans hbw3a.size hbb2
        have hb2lt := hs4.lt
        have hb2n : w3.heap.size + 2 ≤ b2 := by have h := hbb2; simp at h; omega
        obtain ⟨m4, hm4⟩ := (hG.below hbw4).maxLen
        have cX2 := next_is b2 L2 1 false w4 (by omega) (by omega) hs4 m4 hm4 (by omega) 2 s.data.toList s 1 0 0 [] 1 true HRN.out HBS.out
        clear z3 z4 z5
        go_upto_region 21 with (fail)
        clear z0 z1 z2 hC7
        have h4s : w3.heap.size + 2 ≤ w4.heap.size := by have h := hb4.size; simp at h; exact h
        go_upto_region 22 with (go_at_call 12; refine cX2.mono ?_; rintro e w5 ⟨rfl, hs5, hb5⟩; have hC9' := hb5.keep hC9 (by omega); have hD9 := (Below.heap_alloc w5 (.cells #[.int .i64 2, .string s, .int .i64 1] 33) _ (lt_of_block hC9')).trans hC9'; obtain ⟨z0, z1, z2, z3, z4, z5⟩ := zero_cells hD9)
        clear cX2
        rw [zero_held hD9]
        clear z0 z1 z2 z3 z4 z5 hC9'
        have h5s := hb5.size
        have hbw5 := hb5.below hbw4 hb20
        have hbw5a := hbw5.alloc hbw5.size (.cells #[.int .i64 2, .string s, .int .i64 1] 33)
        have hC8' := hb5.keep hC8 (by omega)
        have hD8 := (Below.heap_alloc w5 (.cells #[.int .i64 2, .string s, .int .i64 1] 33) _ (lt_of_block hC8')).trans hC8'
        have hD11 : (w5.alloc (.cells #[.int .i64 2, .string s, .int .i64 1] 33)).heap[w5.heap.size]? = some (.cells #[.int .i64 2, .string s, .int .i64 1] 33 (0, 0)) := heap_alloc_new w5 _
        obtain ⟨m5, hm5⟩ := (hG.below hbw5a).maxLen
        have cX3 := next_is b2 [] 1 true (w5.alloc (.cells #[.int .i64 2, .string s, .int .i64 1] 33)) (by simp) (by simp) (hs5.alloc _) m5 hm5 (by omega) 3 [10] ⟨#[10]⟩ 1 0 0 [] 1 false raw_end rfl
        clear hC8'
        have HD8 := Lib.hid hD8
        have HD9 := Lib.hid hD9
        have HD11 := Lib.hid hD11
        clear hD8 hD9 hD11 hC8 hC9
        go_upto_region 23 with (go_at_call 12; refine cX3.mono ?_; rintro e w6 ⟨rfl, hs6, hb6⟩)
        clear cX3
        have hbw6 := hb6.below hbw5a hb20
        have up : ∀ (k : Nat) (o : Obj), (w5.alloc (.cells #[.int .i64 2, .string s, .int .i64 1] 33)).heap[k]? = some o → k ≠ b2 → ((w6.alloc (.cells #[.int .i64 3, .string ⟨#[10]⟩, .int .i64 1] 33)).alloc (.cells #[.int .i64 0, .string ⟨#[]⟩, .int .i64 0] 26)).heap[k]? = some o := fun k o hk hne => by
          have h1 := hb6.keep hk hne
          have h2 := lt_of_block h1
          exact (Below.heap_alloc (w6.alloc _) _ _ (by simp; omega)).trans ((Below.heap_alloc w6 _ _ h2).trans h1)
        have hE8 := up _ _ HD8.out (by omega)
        have hE9 := up _ _ HD9.out (by omega)
        have hE11 := up _ _ HD11.out (by omega)
        have p0 : ((w6.alloc (.cells #[.int .i64 3, .string ⟨#[10]⟩, .int .i64 1] 33)).alloc (.cells #[.int .i64 0, .string ⟨#[]⟩, .int .i64 0] 26)).cell? ⟨w3.heap.size, 0, none⟩ = some (.int .i64 2) := by rw [Lib.cell_of_heap hE8]; rfl
        have p1 : ((w6.alloc (.cells #[.int .i64 3, .string ⟨#[10]⟩, .int .i64 1] 33)).alloc (.cells #[.int .i64 0, .string ⟨#[]⟩, .int .i64 0] 26)).cell? ⟨w3.heap.size, 1, none⟩ = some (.string s) := by rw [Lib.cell_of_heap hE8]; rfl
        have p2 : ((w6.alloc (.cells #[.int .i64 3, .string ⟨#[10]⟩, .int .i64 1] 33)).alloc (.cells #[.int .i64 0, .string ⟨#[]⟩, .int .i64 0] 26)).cell? ⟨w3.heap.size, 2, none⟩ = some (.int .i64 1) := by rw [Lib.cell_of_heap hE8]; rfl
        have z0 : ((w6.alloc (.cells #[.int .i64 3, .string ⟨#[10]⟩, .int .i64 1] 33)).alloc (.cells #[.int .i64 0, .string ⟨#[]⟩, .int .i64 0] 26)).cell? ⟨w3.heap.size + 1, 0, none⟩ = some (.int .i64 0) := by rw [Lib.cell_of_heap hE9]; rfl
        have z1 : ((w6.alloc (.cells #[.int .i64 3, .string ⟨#[10]⟩, .int .i64 1] 33)).alloc (.cells #[.int .i64 0, .string ⟨#[]⟩, .int .i64 0] 26)).cell? ⟨w3.heap.size + 1, 1, none⟩ = some (.string ⟨#[]⟩) := by rw [Lib.cell_of_heap hE9]; rfl
        have z2 : ((w6.alloc (.cells #[.int .i64 3, .string ⟨#[10]⟩, .int .i64 1] 33)).alloc (.cells #[.int .i64 0, .string ⟨#[]⟩, .int .i64 0] 26)).cell? ⟨w3.heap.size + 1, 2, none⟩ = some (.int .i64 0) := by rw [Lib.cell_of_heap hE9]; rfl
        have u0 : ((w6.alloc (.cells #[.int .i64 3, .string ⟨#[10]⟩, .int .i64 1] 33)).alloc (.cells #[.int .i64 0, .string ⟨#[]⟩, .int .i64 0] 26)).cell? ⟨w5.heap.size, 0, none⟩ = some (.int .i64 2) := by rw [Lib.cell_of_heap hE11]; rfl
        have u1 : ((w6.alloc (.cells #[.int .i64 3, .string ⟨#[10]⟩, .int .i64 1] 33)).alloc (.cells #[.int .i64 0, .string ⟨#[]⟩, .int .i64 0] 26)).cell? ⟨w5.heap.size, 1, none⟩ = some (.string s) := by rw [Lib.cell_of_heap hE11]; rfl
        have u2 : ((w6.alloc (.cells #[.int .i64 3, .string ⟨#[10]⟩, .int .i64 1] 33)).alloc (.cells #[.int .i64 0, .string ⟨#[]⟩, .int .i64 0] 26)).cell? ⟨w5.heap.size, 2, none⟩ = some (.int .i64 1) := by rw [Lib.cell_of_heap hE11]; rfl
        clear up hE8 hE9 hE11
        go_wp2
        go_ret
        exact ⟨rfl, (hbw6.alloc hbw6.size _).alloc (by have := hbw6.size; simp; omega) _⟩
theorem quoted_law (s : ByteArray) (w : World) (hG : Glob w) :
    Calls Tryd.prog 5 #[.string s] w fun e w' => e = .returned (.bool true) ∧ Below w.heap.size w w' := by
  by_cases h : s.size ≤ 256
  · exact quoted_small s w hG h
  · exact quoted_big s w hG (by omega)
end Go.Proofs.YtkcjembmdiaclaaDoor
