/- The walk of the law ScanNames. -/
import Derived.Test.YtkcjembmdiaclaaDoorNamP
namespace Go.Proofs.YtkcjembmdiaclaaDoor
open Go.RowKit Go.Lib Go.Maps
set_option linter.unusedVariables false
set_option linter.unusedSimpArgs false

theorem app_list3 (a b : ByteArray) : (a ++ b).data.toList = a.data.toList ++ b.data.toList := by simp
theorem snoc_take3 (s : ByteArray) (k : Nat) (h : k < s.size) : s.data.toList.take (k + 1) = s.data.toList.take k ++ [s[k]] := by
  rw [List.take_succ_eq_append_getElem (by rw [Array.length_toList]; exact h)]
  rfl
theorem cell_later {w w' : World} {b o : Nat} {v : Value} (h : w.cell? ⟨b, o, none⟩ = some v) (hb : Below w.heap.size w w') : w'.cell? ⟨b, o, none⟩ = some v :=
  (World.cell?_of_block (hb.block b (cell_below h))).trans h

/-- What stands between the names, in memory. -/
def gapCells : Array Value := #[.string ⟨#[32]⟩, .string ⟨#[9]⟩, .string ⟨#[32, 13, 32]⟩, .string ⟨#[47, 42, 42, 47]⟩]
theorem gap_cell (g : Nat) (h : g < 4) : ∃ G : ByteArray, gapCells[g]? = some (.string G) ∧ G.data.toList = gapL g ∧ (G.size : Int) ≤ 8388608 := by
  have : g = 0 ∨ g = 1 ∨ g = 2 ∨ g = 3 := by omega
  rcases this with rfl | rfl | rfl | rfl
  · exact ⟨_, rfl, rfl, by decide⟩
  · exact ⟨_, rfl, rfl, by decide⟩
  · exact ⟨_, rfl, rfl, by decide⟩
  · exact ⟨_, rfl, rfl, by decide⟩

set_option maxRecDepth 100000 in
set_option maxHeartbeats 4000000 in
theorem names_big (a0 : Option Addr) (n cap u : Nat) (w : World) (hG : Glob w) (hbig : 20 < n) :
    Calls Tryd.prog 7 #[.slice a0 n cap, .int .u8 u] w fun e w' => e = .returned (.bool true) ∧ Below w.heap.size w w' := by
  have cS := shown_any w hG
  go_enter Tryd.func7, Tryd.ntmps7
  go_wp2_with (go_at_call 9; refine cS.mono ?_; rintro e w1 ⟨rfl, hb1⟩)
  go_ret
  exact ⟨rfl, hb1⟩

theorem put_same {w : World} {b i : Nat} {cs : Array Value} {T : TypeId} {fr : Nat × Nat} (hb : w.heap[b]? = some (.cells cs T fr)) (v : Value) : (w.setCell ⟨b, i, none⟩ v).heap[b]? = some (.cells (cs.setIfInBounds i v) T fr) := by
  simp [World.setCell, Array.getElem?_modify, hb]
/-- A block of three cells, stored anew. -/
theorem three_put {w : World} {B T : Nat} {a b c : Value} (h : w.heap[B]? = some (.cells #[a, b, c] T (0, 0))) (v0 v1 v2 : Value) :
    (((w.setCell ⟨B, 0, none⟩ v0).setCell ⟨B, 1, none⟩ v1).setCell ⟨B, 2, none⟩ v2).heap[B]? = some (.cells #[v0, v1, v2] T (0, 0)) :=
  put_same (i := 2) (put_same (i := 1) (put_same (i := 0) h v0) v1) v2
theorem three_frz {w : World} {B T : Nat} {a b c : Value} (h : w.heap[B]? = some (.cells #[a, b, c] T (0, 0))) : w.cell? ⟨B, 0, none⟩ = some a ∧ w.cell? ⟨B, 1, none⟩ = some b ∧ w.cell? ⟨B, 2, none⟩ = some c ∧ w.frozen? ⟨B, 0, none⟩ = false ∧ w.frozen? ⟨B, 1, none⟩ = false ∧ w.frozen? ⟨B, 2, none⟩ = false :=
  ⟨by rw [Lib.cell_of_heap h]; rfl, by rw [Lib.cell_of_heap h]; rfl, by rw [Lib.cell_of_heap h]; rfl, Lib.frozen_of_heap h 0, Lib.frozen_of_heap h 1, Lib.frozen_of_heap h 2⟩
theorem three_below {W w : World} (B : Nat) (h : Below W.heap.size W w) (hB : W.heap.size ≤ B) (v0 v1 v2 : Value) :
    Below W.heap.size W (((w.setCell ⟨B, 0, none⟩ v0).setCell ⟨B, 1, none⟩ v1).setCell ⟨B, 2, none⟩ v2) :=
  ((h.setCell (p := ⟨B, 0, none⟩) hB v0).setCell (p := ⟨B, 1, none⟩) hB v1).setCell (p := ⟨B, 2, none⟩) hB v2
theorem Sc.three {w : World} {b : Nat} {l : List UInt8} {line : Int} {semi : Bool} (h : Sc w b l line semi) (B : Nat) (hB : B ≠ b) (v0 v1 v2 : Value) :
    Sc (((w.setCell ⟨B, 0, none⟩ v0).setCell ⟨B, 1, none⟩ v1).setCell ⟨B, 2, none⟩ v2) b l line semi :=
  ((h.setCell ⟨B, 0, none⟩ hB v0).setCell ⟨B, 1, none⟩ hB v1).setCell ⟨B, 2, none⟩ hB v2
def wordsOf (Xs : List ByteArray) : List (List UInt8) := Xs.map (·.data.toList)

set_option maxRecDepth 100000 in
set_option maxHeartbeats 8000000 in
theorem names_small (a0 : Option Addr) (b off n cap u : Nat) (Xs : List ByteArray) (w : World) (hG : Glob w) (hn : n ≤ 20) (hu : u < 256) (hXn : Xs.length = n) (hat : 0 < n → a0 = some ⟨b, off, none⟩)
    (hc : Hid (∀ j X, Xs[j]? = some X → w.cell? ⟨b, off + j, none⟩ = some (.string X))) :
    Calls Tryd.prog 7 #[.slice a0 n cap, .int .u8 u] w fun e w' => e = .returned (.bool true) ∧ Below w.heap.size w w' := by
  have cS := shown_any w hG
  have hd : decide ((20 : Int) < (n : Int)) = false := decide_eq_false (by omega)
  have HAT := Lib.hid hat
  have HXN := Lib.hid hXn
  clear hat hXn
  go_enter Tryd.func7, Tryd.ntmps7
  go_wp2_with (go_at_call 9; refine cS.mono ?_; rintro e w1 ⟨rfl, hb1⟩)
  have hG1 := hG.below hb1
  have hb1a := hb1.alloc hb1.size (.cells #[.string ⟨#[32]⟩, .string ⟨#[9]⟩, .string ⟨#[32, 13, 32]⟩, .string ⟨#[47, 42, 42, 47]⟩] 9)
  have hgap0 : (w1.alloc (.cells #[.string ⟨#[32]⟩, .string ⟨#[9]⟩, .string ⟨#[32, 13, 32]⟩, .string ⟨#[47, 42, 42, 47]⟩] 9)).heap[w1.heap.size]? = some (.cells gapCells 9 (0, 0)) := heap_alloc_new w1 _
  obtain ⟨g, hg⟩ : ∃ g, u % 4 = g := ⟨_, rfl⟩
  have hgi : (u : Int) % 4 = (g : Int) := by omega
  have hg4 : g < 4 := by omega
  have hg4i : (g : Int) < 4 := by omega
  obtain ⟨Gb, hGc, hGl, hGs⟩ := gap_cell g hg4
  have HGL := Lib.hid hGl
  have HGC := Lib.hid hGc
  have HGAP := Lib.hid hgap0
  have HU := Lib.hid hu
  have HGN := Lib.hid hg
  clear hGl hGc hgap0 hg hu cS
  obtain ⟨w1a, hw1a⟩ : ∃ w1a, w1.alloc (.cells #[.string ⟨#[32]⟩, .string ⟨#[9]⟩, .string ⟨#[32, 13, 32]⟩, .string ⟨#[47, 42, 42, 47]⟩] 9) = w1a := ⟨_, rfl⟩
  rw [hw1a] at hb1a HGAP
  have hsz1a : w1a.heap.size = w1.heap.size + 1 := by rw [← hw1a]; simp
  have HSZ := Lib.hid hsz1a
  rw [hw1a]
  clear hw1a hsz1a
  go_loopg [5, 7] n (fun gf sv iv wx => ∃ (k : Nat) (S : ByteArray), sv = .string S ∧ iv = .int .i64 k ∧ k ≤ n ∧ (S.size : Int) ≤ 25 * k ∧ Hid (S.data.toList = nameSrc g ((wordsOf Xs).take k)) ∧ Hid (∀ x ∈ (wordsOf Xs).take k, NameOk x) ∧ Below w1a.heap.size w1a wx ∧ n ≤ k + gf)
  case atStart => exact ⟨0, ⟨#[]⟩, rfl, rfl, by omega, by decide, rfl, by intro x hx; simp at hx, Below.refl _ _, by omega⟩
  case round =>
    obtain ⟨k, S, rfl, rfl, hk, hSs, HS, HN, hbr, hfu⟩ := hrel
    have hbw := hb1a.trans (hbr.mono hb1a.size)
    have hGr := hG.below hbw
    have cS := shown_any _ hGr
    by_cases hlt : k < n
    · obtain ⟨gf', rfl⟩ : ∃ g', gk = g' + 1 := ⟨gk - 1, by omega⟩
      obtain rfl := HAT.out (by omega)
      obtain ⟨X, hX⟩ : ∃ X, Xs[k]? = some X := ⟨Xs[k]'(by have := HXN.out; omega), List.getElem?_eq_getElem _⟩
      have hcell : wr.cell? ⟨b, off + k, none⟩ = some (.string X) := cell_later (hc.out k X hX) hbw
      have hki : (k : Int) < (n : Int) := by omega
      have HX := Lib.hid hX
      clear hX
      by_cases hX0 : X.size = 0
      · have hX0' : ((X.size : Int) == 0) = true := by rw [beq_iff_eq]; omega
        clear hX0
        go_wp2_with (go_at_call 9; refine cS.mono ?_; rintro e w2 ⟨rfl, hb2⟩)
        go_ret
        exact ⟨rfl, hbw.trans (hb2.mono hbw.size)⟩
      · have hX0' : ((X.size : Int) == 0) = false := by rw [beq_eq_false_iff_ne]; omega
        by_cases hX20 : (20 : Int) < (X.size : Int)
        · go_wp2_with (go_at_call 9; refine cS.mono ?_; rintro e w2 ⟨rfl, hb2⟩)
          go_ret
          exact ⟨rfl, hbw.trans (hb2.mono hbw.size)⟩
        · have hX20' : (X.size : Int) ≤ 20 := by omega
          clear hX20 hX0
          have hgcell : wr.cell? ⟨w1.heap.size, g, none⟩ = some (.string Gb) := by
            have h := (hbr.block _ (lt_of_block HGAP.out)).trans HGAP.out
            rw [Lib.cell_of_heap h]
            exact HGC.out
          go_wp2
          go_loopg [8] X.size (fun gf2 qv wy => ∃ q : Nat, qv = .int .i64 q ∧ Hid (wy = wr) ∧ q ≤ X.size ∧ Hid (∀ c ∈ X.data.toList.take q, lowOk c.toNat = true) ∧ X.size ≤ q + gf2)
          case atStart => exact ⟨0, rfl, rfl, by omega, by intro c hc; simp at hc, by omega⟩
          case round =>
            obtain ⟨q, rfl, hw, hq, HC, hfu2⟩ := hrel
            obtain rfl := hw.out
            clear hw
            by_cases hqX : q < X.size
            · obtain ⟨g2, rfl⟩ : ∃ g', gk = g' + 1 := ⟨gk - 1, by omega⟩
              obtain ⟨c, hcX⟩ : ∃ c : Nat, (X[q]'hqX).toNat = c := ⟨_, rfl⟩
              by_cases h97 : (c : Int) < 97
              · go_wp2_with (go_at_call 9; refine cS.mono ?_; rintro e w2 ⟨rfl, hb2⟩)
                go_ret
                exact ⟨rfl, hbw.trans (hb2.mono hbw.size)⟩
              · have h97' : (97 : Int) ≤ (c : Int) := by omega
                clear h97
                by_cases h122 : (122 : Int) < (c : Int)
                · go_wp2_with (go_at_call 9; refine cS.mono ?_; rintro e w2 ⟨rfl, hb2⟩)
                  go_ret
                  exact ⟨rfl, hbw.trans (hb2.mono hbw.size)⟩
                · have h122' : (c : Int) ≤ 122 := by omega
                  clear h122
                  have HCX := Lib.hid hcX
                  go_wp2
                  go_roundg g2
                  case measure => omega
                  case rel =>
                    refine ⟨q + 1, by go_num, rfl, by omega, ?_, by omega⟩
                    intro a ha
                    rw [snoc_take3 X q hqX, List.mem_append, List.mem_singleton] at ha
                    rcases ha with ha | rfl
                    · exact HC.out a ha
                    · rw [HCX.out]
                      exact decide_eq_true ⟨by omega, by omega⟩
            · have hall : ∀ c ∈ X.data.toList, lowOk c.toNat = true := by
                have h := HC.out
                rw [List.take_of_length_le (by rw [Array.length_toList]; exact Nat.le_of_not_lt hqX)] at h
                exact h
              clear HC
              obtain ⟨S1, hS1⟩ : ∃ S1, S ++ X = S1 := ⟨_, rfl⟩
              obtain ⟨S2, hS2⟩ : ∃ S2, S1 ++ Gb = S2 := ⟨_, rfl⟩
              obtain ⟨S3, hS3⟩ : ∃ S3, S2 ++ ({ data := #[44] } : ByteArray) = S3 := ⟨_, rfl⟩
              have hwk : (wordsOf Xs).take (k + 1) = (wordsOf Xs).take k ++ [X.data.toList] := by
                have hk' : (wordsOf Xs)[k]? = some X.data.toList := by unfold wordsOf; rw [List.getElem?_map, HX.out]; rfl
                obtain ⟨hlt', he⟩ := List.getElem?_eq_some_iff.1 hk'
                rw [List.take_succ_eq_append_getElem hlt', he]
              have hS3l : S3.data.toList = nameSrc g ((wordsOf Xs).take (k + 1)) := by
                rw [hwk, nameSrc_append, nameSrc_cons, ← hS3, app_list3, ← hS2, app_list3, ← hS1, app_list3, HS.out, HGL.out]
                simp [nameSrc]
              have hN3 : ∀ x ∈ (wordsOf Xs).take (k + 1), NameOk x := by
                intro x hx
                rw [hwk, List.mem_append, List.mem_singleton] at hx
                rcases hx with hx | rfl
                · exact HN.out x hx
                · refine ⟨fun e => ?_, ?_, hall⟩
                  · rw [Lib.size_eq, e] at hX0'
                    simp at hX0'
                  · rw [← Lib.size_eq]
                    omega
              have hz0 : (S.size : Int) ≤ 8388608 := by omega
              have hzX : (X.size : Int) ≤ 8388608 := by omega
              have hGb4 : Gb.size ≤ 4 := by rw [Lib.size_eq, HGL.out]; exact gap_len g
              have hz1e : S1.size = S.size + X.size := by rw [← hS1, Lib.size_eq, app_list3, List.length_append, ← Lib.size_eq, ← Lib.size_eq]
              have hz2e : S2.size = S1.size + Gb.size := by rw [← hS2, Lib.size_eq, app_list3, List.length_append, ← Lib.size_eq, ← Lib.size_eq]
              have hz3e : S3.size = S2.size + 1 := by rw [← hS3, Lib.size_eq, app_list3, List.length_append, ← Lib.size_eq]; rfl
              have hz1 : (S1.size : Int) ≤ 8388608 := by omega
              have hz2 : (S2.size : Int) ≤ 8388608 := by omega
              have hz3 : (S3.size : Int) ≤ 25 * ((k + 1 : Nat) : Int) := by omega
              have HZ3 := Lib.hid hz3
              have HS3 := Lib.hid hS3l
              have HN3 := Lib.hid hN3
              clear hz3 hS3l hN3 hall hwk hz1e hz2e hz3e hGb4 HS HN
              have hui : (u : Int) ≤ 255 := by have := HU.out; omega
              have hgn : u % 4 = g := HGN.out
              go_upto_region 16 with (fail)
              go_quiet (fail)
              clear hui hgn
              go_wp2
              go_roundg gf'
              case measure => omega
              case rel => exact ⟨k + 1, S3, rfl, by go_num, by omega, HZ3.out, HS3, HN3, hbr.trans ((below_drewN _ nq).mono hbr.size), by omega⟩
    · have hkn : (wordsOf Xs).take k = wordsOf Xs := List.take_of_length_le (by unfold wordsOf; rw [List.length_map]; have := HXN.out; omega)
      have hSl := HS.out
      have hNl := HN.out
      rw [hkn] at hSl hNl
      have hkk : n = k := by omega
      subst hkk
      have hgood := ascii_good S (by rw [hSl]; exact names_good g _ hNl)
      have hS500 : S.size ≤ 500 := by omega
      have cN := new_good S wr (by omega) hGr hgood (nameSrc g (wordsOf Xs)) (by rw [hSl]; exact trim_none _ (names_head g _ hNl))
      have hL500 : (nameSrc g (wordsOf Xs)).length ≤ 500 := by rw [← hSl, ← Lib.size_eq]; exact hS500
      have HNL := Lib.hid hNl
      have HL5 := Lib.hid hL500
      have hlt2 := glob_lt hG
      clear HS HN hkn cS hgood hSl hNl hL500
      go_upto_region 20 with (go_at_call 10; refine cN.mono ?_; rintro e w2 ⟨b2, hb2, rfl, hs2, hbe2⟩)
      clear cN
      have hbw2 := hbw.trans (hbe2.mono hbw.size)
      have hbw2a := hbw2.alloc hbw2.size (.cells #[.int .i64 0, .string ⟨#[]⟩, .int .i64 0] 26)
      have hs2a := hs2.alloc (.cells #[.int .i64 0, .string ⟨#[]⟩, .int .i64 0] 26)
      have hb20 : w.heap.size ≤ b2 := Nat.le_trans hbw.size hb2
      clear hs2 hbe2
      go_wp2
      go_loopg [12] n (fun gf iv wx => ∃ k : Nat, iv = .int .i64 k ∧ k ≤ n ∧ Hid ((nameSrc g ((wordsOf Xs).drop k)).length ≤ 500) ∧ Sc wx b2 (nameSrc g ((wordsOf Xs).drop k)) 1 false ∧ Below w.heap.size w wx ∧ n ≤ k + gf)
      case atStart => exact ⟨0, rfl, by omega, HL5, hs2a, hbw2a, by omega⟩
      case round =>
        obtain ⟨k, rfl, hk, HL, hsc, hbx, hfu⟩ := hrel
        clear hs2a hbw2a hbw2
        have hGx := hG.below hbx
        obtain ⟨m, hm⟩ := hGx.maxLen
        have hb2lt := hsc.lt
        by_cases hlt : k < n
        · obtain ⟨gf', rfl⟩ : ∃ g', gk = g' + 1 := ⟨gk - 1, by omega⟩
          obtain rfl := HAT.out (by omega)
          obtain ⟨X, hX⟩ : ∃ X, Xs[k]? = some X := ⟨Xs[k]'(by have := HXN.out; omega), List.getElem?_eq_getElem _⟩
          have hX0 := hc.out k X hX
          have hcell : wr.cell? ⟨b, off + k, none⟩ = some (.string X) := cell_later hX0 hbx
          have hblt := cell_below hX0
          have hki : (k : Int) < (n : Int) := by omega
          have hwd : (wordsOf Xs).drop k = X.data.toList :: (wordsOf Xs).drop (k + 1) := by
            have hk' : (wordsOf Xs)[k]? = some X.data.toList := by unfold wordsOf; rw [List.getElem?_map, hX]; rfl
            obtain ⟨hlt', he⟩ := List.getElem?_eq_some_iff.1 hk'
            rw [List.drop_eq_getElem_cons hlt', he]
          have hok : NameOk X.data.toList := HNL.out _ (List.mem_of_mem_drop (by rw [hwd]; exact List.mem_cons_self))
          have hL := HL.out
          rw [hwd, nameSrc_cons] at hL hsc
          obtain ⟨R, hR⟩ : ∃ R, nameSrc g ((wordsOf Xs).drop (k + 1)) = R := ⟨_, rfl⟩
          rw [hR] at hL hsc
          have hRl : R.length ≤ 400 + 100 ∧ (gapL g ++ 44 :: R).length ≤ 500 ∧ (44 :: R).length ≤ 500 := by
            simp only [List.length_append, List.length_cons] at hL ⊢
            omega
          have hn1 := name_step g X.data.toList R hok
          obtain ⟨L0, hL0⟩ : ∃ L0, X.data.toList ++ (gapL g ++ 44 :: R) = L0 := ⟨_, rfl⟩
          obtain ⟨L1, hL1⟩ : ∃ L1, gapL g ++ 44 :: R = L1 := ⟨_, rfl⟩
          rw [hL1] at hL0 hn1 hRl
          rw [hL1, hL0] at hL hsc
          rw [hL0] at hn1
          have cA := next_is b2 L0 1 false wr (by omega) (by omega) hsc m hm (by omega) 1 X.data.toList X 1 0 0 L1 1 true hn1 (bs_of X)
          have HR := Lib.hid hR
          have HL1 := Lib.hid hL1
          have HRl := Lib.hid hRl
          have HX := Lib.hid hX
          clear hX hX0 hwd hok hL hn1 hL0 hL1 hR hRl HL
          go_upto_region 24 with (go_at_call 12; refine cA.mono ?_; rintro e w3 ⟨rfl, hs3, hb3⟩)
          clear cA
          have hbw3 := hb3.below hbx hb20
          have h3s := hb3.size
          have hbw3a := (hbw3.alloc hbw3.size (.cells #[.int .i64 1, .string X, .int .i64 1] 33)).alloc (by have := hbw3.size; simp; omega) (.cells #[.int .i64 0, .string ⟨#[]⟩, .int .i64 0] 26)
          have hP : ((w3.alloc (.cells #[.int .i64 1, .string X, .int .i64 1] 33)).alloc (.cells #[.int .i64 0, .string ⟨#[]⟩, .int .i64 0] 26)).heap[w3.heap.size]? = some (.cells #[.int .i64 1, .string X, .int .i64 1] 33 (0, 0)) := (Below.heap_alloc (w3.alloc _) _ _ (by simp)).trans (heap_alloc_new w3 _)
          have hZ : ((w3.alloc (.cells #[.int .i64 1, .string X, .int .i64 1] 33)).alloc (.cells #[.int .i64 0, .string ⟨#[]⟩, .int .i64 0] 26)).heap[w3.heap.size + 1]? = some (.cells #[.int .i64 0, .string ⟨#[]⟩, .int .i64 0] 26 (0, 0)) := by
            have h := heap_alloc_new (w3.alloc (.cells #[.int .i64 1, .string X, .int .i64 1] 33)) (.cells #[.int .i64 0, .string ⟨#[]⟩, .int .i64 0] 26)
            simpa using h
          obtain ⟨p0, p1, p2, _, _, _⟩ := three_frz hP
          obtain ⟨z0, z1, z2, _, _, _⟩ := three_frz hZ
          have hx3 : ((w3.alloc (.cells #[.int .i64 1, .string X, .int .i64 1] 33)).alloc (.cells #[.int .i64 0, .string ⟨#[]⟩, .int .i64 0] 26)).cell? ⟨b, off + k, none⟩ = some (.string X) := cell_later (hc.out k X HX.out) hbw3a
          go_quiet (fail)
          clear p0 p1 p2 z0 z1 z2 hx3
          have hbq := hbw3a.trans ((below_drewN ((w3.alloc (.cells #[.int .i64 1, .string X, .int .i64 1] 33)).alloc (.cells #[.int .i64 0, .string ⟨#[]⟩, .int .i64 0] 26)) nq).mono hbw3a.size)
          have hsq : Sc (((w3.alloc (.cells #[.int .i64 1, .string X, .int .i64 1] 33)).alloc (.cells #[.int .i64 0, .string ⟨#[]⟩, .int .i64 0] 26)).drewN nq) b2 L1 1 true := ((hs3.alloc _).alloc _).drewN nq
          have hPq : (((w3.alloc (.cells #[.int .i64 1, .string X, .int .i64 1] 33)).alloc (.cells #[.int .i64 0, .string ⟨#[]⟩, .int .i64 0] 26)).drewN nq).heap[w3.heap.size]? = some (.cells #[.int .i64 1, .string X, .int .i64 1] 33 (0, 0)) := ((below_drewN ((w3.alloc (.cells #[.int .i64 1, .string X, .int .i64 1] 33)).alloc (.cells #[.int .i64 0, .string ⟨#[]⟩, .int .i64 0] 26)) nq).block _ (lt_of_block hP)).trans hP
          obtain ⟨wq, hwq⟩ : ∃ wq, (((w3.alloc (.cells #[.int .i64 1, .string X, .int .i64 1] 33)).alloc (.cells #[.int .i64 0, .string ⟨#[]⟩, .int .i64 0] 26)).drewN nq) = wq := ⟨_, rfl⟩
          rw [hwq] at hbq hsq hPq
          rw [hwq]
          clear hwq hP hZ
          obtain ⟨m3, hm3⟩ := (hG.below hbq).maxLen
          have hB0 : w.heap.size ≤ w3.heap.size := hbw3.size
          have hBb : w3.heap.size ≠ b2 := by omega
          have hqb := hsq.lt
          by_cases hg3 : g = 3
          · subst hg3
            have hg3' : (3 : Int) = 3 := rfl
            have hn2 : nxt L1 1 true = ⟨4, [47, 42, 42, 47], 1, 0, 0, 44 :: R, 1, true⟩ := by rw [← HL1.out]; exact note_step R
            have cB := next_is b2 L1 1 true wq (by have := HRl.out; omega) (by have := HRl.out; omega) hsq m3 hm3 (by omega) 4 [47, 42, 42, 47] ⟨#[47, 42, 42, 47]⟩ 1 0 0 (44 :: R) 1 true hn2 rfl
            clear hn2
            have HPQ := Lib.hid hPq
            clear hPq hg3'
            go_upto_region 27 with (go_at_call 12; refine cB.mono ?_; rintro e w4 ⟨rfl, hs4, hb4⟩; have hP4 := hb4.keep HPQ.out hBb; obtain ⟨p0, p1, p2, p3, p4, p5⟩ := three_frz hP4)
            clear cB p0 p1 p2 p3 p4 p5
            have hbw4 := three_below w3.heap.size (hb4.below hbq hb20) hB0 (.int .i64 4) (.string ⟨#[47, 42, 42, 47]⟩) (.int .i64 1)
            have hs5 := hs4.three w3.heap.size hBb (.int .i64 4) (.string ⟨#[47, 42, 42, 47]⟩) (.int .i64 1)
            have hP5 := three_put hP4 (.int .i64 4) (.string ⟨#[47, 42, 42, 47]⟩) (.int .i64 1)
            obtain ⟨w5, hw5⟩ : ∃ w5, (((w4.setCell ⟨w3.heap.size, 0, none⟩ (.int .i64 4)).setCell ⟨w3.heap.size, 1, none⟩ (.string ⟨#[47, 42, 42, 47]⟩)).setCell ⟨w3.heap.size, 2, none⟩ (.int .i64 1)) = w5 := ⟨_, rfl⟩
            rw [hw5] at hbw4 hs5 hP5
            rw [hw5]
            clear hw5 hP4 hs4
            obtain ⟨m5, hm5⟩ := (hG.below hbw4).maxLen
            have cC := next_is b2 (44 :: R) 1 true w5 (by have := HRl.out; omega) (by have := HRl.out; omega) hs5 m5 hm5 (by omega) 3 [44] ⟨#[44]⟩ 1 0 0 R 1 false (comma_now R) rfl
            have hui : (u : Int) ≤ 255 := by have := HU.out; omega
            obtain ⟨p0, p1, p2, p3, p4, p5⟩ := three_frz hP5
            have HP5 := Lib.hid hP5
            clear hP5
            go_upto_region 31 with (go_at_call 12; refine cC.mono ?_; rintro e w6 ⟨rfl, hs6, hb6⟩; have hP6 := hb6.keep HP5.out hBb; obtain ⟨q0, q1, q2, q3, q4, q5⟩ := three_frz hP6)
            clear cC p0 p1 p2 p3 p4 p5 q0 q1 q2 q3 q4 q5 hui
            have hbw6 := three_below w3.heap.size (hb6.below hbw4 hb20) hB0 (.int .i64 3) (.string ⟨#[44]⟩) (.int .i64 1)
            have hs7 := hs6.three w3.heap.size hBb (.int .i64 3) (.string ⟨#[44]⟩) (.int .i64 1)
            have hP7 := three_put hP6 (.int .i64 3) (.string ⟨#[44]⟩) (.int .i64 1)
            obtain ⟨w7, hw7⟩ : ∃ w7, (((w6.setCell ⟨w3.heap.size, 0, none⟩ (.int .i64 3)).setCell ⟨w3.heap.size, 1, none⟩ (.string ⟨#[44]⟩)).setCell ⟨w3.heap.size, 2, none⟩ (.int .i64 1)) = w7 := ⟨_, rfl⟩
            rw [hw7] at hbw6 hs7 hP7
            rw [hw7]
            clear hw7 hP6 hs6
            obtain ⟨p0, p1, p2, _, _, _⟩ := three_frz hP7
            clear hP7
            go_wp2
            go_roundg gf'
            case measure => omega
            case rel => exact ⟨k + 1, by go_num, by omega, Lib.hid (by rw [HR.out]; have := HRl.out; omega), by rw [HR.out]; exact hs7, hbw6, by omega⟩
          · have hg3' : ((g : Int) == 3) = false := by rw [beq_eq_false_iff_ne]; omega
            have hn2 : nxt L1 1 true = ⟨3, [44], 1, 0, 0, R, 1, false⟩ := by rw [← HL1.out]; exact comma_gap g (by omega) R
            have cC := next_is b2 L1 1 true wq (by have := HRl.out; omega) (by have := HRl.out; omega) hsq m3 hm3 (by omega) 3 [44] ⟨#[44]⟩ 1 0 0 R 1 false hn2 rfl
            clear hn2
            have HPQ := Lib.hid hPq
            clear hPq hg3
            go_upto_region 27 with (go_at_call 12; refine cC.mono ?_; rintro e w6 ⟨rfl, hs6, hb6⟩; have hP6 := hb6.keep HPQ.out hBb; obtain ⟨p0, p1, p2, p3, p4, p5⟩ := three_frz hP6)
            clear cC p0 p1 p2 p3 p4 p5
            have hbw6 := three_below w3.heap.size (hb6.below hbq hb20) hB0 (.int .i64 3) (.string ⟨#[44]⟩) (.int .i64 1)
            have hs7 := hs6.three w3.heap.size hBb (.int .i64 3) (.string ⟨#[44]⟩) (.int .i64 1)
            have hP7 := three_put hP6 (.int .i64 3) (.string ⟨#[44]⟩) (.int .i64 1)
            obtain ⟨w7, hw7⟩ : ∃ w7, (((w6.setCell ⟨w3.heap.size, 0, none⟩ (.int .i64 3)).setCell ⟨w3.heap.size, 1, none⟩ (.string ⟨#[44]⟩)).setCell ⟨w3.heap.size, 2, none⟩ (.int .i64 1)) = w7 := ⟨_, rfl⟩
            rw [hw7] at hbw6 hs7 hP7
            rw [hw7]
            clear hw7 hP6 hs6
            obtain ⟨p0, p1, p2, _, _, _⟩ := three_frz hP7
            clear hP7
            have hui : (u : Int) ≤ 255 := by have := HU.out; omega
            go_wp2
            go_roundg gf'
            case measure => omega
            case rel => exact ⟨k + 1, by go_num, by omega, Lib.hid (by rw [HR.out]; have := HRl.out; omega), by rw [HR.out]; exact hs7, hbw6, by omega⟩
        · have hkn : (wordsOf Xs).drop k = [] := List.drop_of_length_le (by unfold wordsOf; rw [List.length_map]; have := HXN.out; omega)
          rw [hkn] at hsc
          have cE := next_is b2 [] 1 false wr (by simp) (by simp) hsc m hm (by omega) 0 [] ⟨#[]⟩ 1 0 0 [] 1 false names_end rfl
          clear hkn HL
          have hki : (n : Int) ≤ (k : Int) := by omega
          go_wp2_with (go_at_call 12; refine cE.mono ?_; rintro e w3 ⟨rfl, hs3, hb3⟩)
          go_ret
          have hbw3 := hb3.below hbx hb20
          exact ⟨rfl, (hbw3.alloc hbw3.size _).alloc (by have := hbw3.size; simp; omega) _⟩
theorem names_law (a0 : Option Addr) (b off n cap u : Nat) (Xs : List ByteArray) (w : World) (hG : Glob w) (hu : u < 256) (hXn : Xs.length = n) (hat : 0 < n → a0 = some ⟨b, off, none⟩)
    (hc : ∀ j X, Xs[j]? = some X → w.cell? ⟨b, off + j, none⟩ = some (.string X)) :
    Calls Tryd.prog 7 #[.slice a0 n cap, .int .u8 u] w fun e w' => e = .returned (.bool true) ∧ Below w.heap.size w w' := by
  by_cases h : n ≤ 20
  · exact names_small a0 b off n cap u Xs w hG h hu hXn hat (Lib.hid hc)
  · exact names_big a0 n cap u w hG (by omega)
end Go.Proofs.YtkcjembmdiaclaaDoor
