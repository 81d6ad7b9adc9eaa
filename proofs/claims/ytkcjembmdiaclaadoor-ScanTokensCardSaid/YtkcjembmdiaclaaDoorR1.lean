/- The walk of the program's Next, from where it has no semicolon to come. -/
import Derived.Test.YtkcjembmdiaclaaDoorQ
namespace Go.Proofs.YtkcjembmdiaclaaDoor
open Go.RowKit Go.Lib Go.Maps
set_option linter.unusedVariables false
set_option linter.unusedSimpArgs false

set_option maxRecDepth 100000 in
set_option maxHeartbeats 40000000 in
theorem next_f (b : Nat) (l : List UInt8) (line : Nat) (w : World) (hl : l.length ≤ 1048576) (hline : line + l.length ≤ 1048576) (h : Sc w b l line false) (m : Int) (hm : w.cell? ⟨2, 0, none⟩ = some (.int .i64 m)) (hb2 : 2 < b) :
    Calls Tryd.prog 12 #[.pointer (some ⟨b, 0, none⟩)] w (NextPost w b (nxt l line false)) := by
  obtain ⟨R, hR⟩ : ∃ R, nxt l line false = R := ⟨_, rfl⟩
  rw [hR]
  have HR := Lib.hid hR
  clear hR
  have hlt := h.lt
  have hsi : Sc ((w.alloc (.cells #[.int .i64 0, .string ⟨#[]⟩, .int .i64 0] 33)).alloc (.cells #[.int .i64 0, .string ⟨#[]⟩, .int .i64 0] 26)) b l line false := (h.alloc _).alloc _
  have hbut : But b w ((w.alloc (.cells #[.int .i64 0, .string ⟨#[]⟩, .int .i64 0] 33)).alloc (.cells #[.int .i64 0, .string ⟨#[]⟩, .int .i64 0] 26)) := ((But.refl b w).alloc _).alloc _
  have hF : ((w.alloc (.cells #[.int .i64 0, .string ⟨#[]⟩, .int .i64 0] 33)).alloc (.cells #[.int .i64 0, .string ⟨#[]⟩, .int .i64 0] 26)).heap[w.heap.size]? = some (.cells #[.int .i64 0, .string ⟨#[]⟩, .int .i64 0] 33 (0, 0)) := (Below.heap_alloc (w.alloc _) _ _ (by simp)).trans (heap_alloc_new w _)
  have hG : ((w.alloc (.cells #[.int .i64 0, .string ⟨#[]⟩, .int .i64 0] 33)).alloc (.cells #[.int .i64 0, .string ⟨#[]⟩, .int .i64 0] 26)).heap[w.heap.size + 1]? = some (.cells #[.int .i64 0, .string ⟨#[]⟩, .int .i64 0] 26 (0, 0)) := by
    have h := heap_alloc_new (w.alloc (.cells #[.int .i64 0, .string ⟨#[]⟩, .int .i64 0] 33)) (.cells #[.int .i64 0, .string ⟨#[]⟩, .int .i64 0] 26)
    simpa using h
  have hm1 := maxLen_later hm (((Below.refl w.heap.size w).alloc (Nat.le_refl _) (.cells #[.int .i64 0, .string ⟨#[]⟩, .int .i64 0] 33)).alloc (by simp) (.cells #[.int .i64 0, .string ⟨#[]⟩, .int .i64 0] 26))
  have c0 := hsi.c0
  have c2 := hsi.c2
  have f0 := hsi.fz 0
  have HF := Lib.hid hF
  have HG := Lib.hid hG
  clear hF hG
  obtain ⟨C, hC⟩ : ∃ C, (l.takeWhile (blankB false)).length = C := ⟨_, rfl⟩
  have hCl : C ≤ l.length := by rw [← hC]; exact tw_le _ _
  have htk : l.take C = l.takeWhile (blankB false) := by rw [← hC]; exact take_tw _ _
  have cX := fun W => cutLeft_bs l false W hl
  rw [hC] at cX
  have hwr : IntKind.i64.wrap (((bs l).size : Int) - ((bs (l.drop C)).size : Int)) = (C : Int) := by
    have e : ((bs l).size : Int) - ((bs (l.drop C)).size : Int) = (C : Int) := by rw [bs_size, bs_size, List.length_drop]; omega
    rw [e]
    exact IntWalk.i64_in _ (by omega)
  have HC := Lib.hid hC
  have HTK := Lib.hid htk
  clear hC htk
  go_enter Tryd.func12, Tryd.ntmps12
  go_wp2
  go_cut [] (fun wc => Mid w b l line false m wc)
  case first =>
    go_region_with (first | (go_at_call 20; refine (cX _).mono ?_; rintro e w1 ⟨rfl, hb1⟩; have hs1 := hsi.drew.below hb1; have c01 := hs1.c0) | (go_at_call 19; refine (skip_any b l line false C _ hl (by omega) hCl (by assumption)).mono ?_; rintro e w2 ⟨rfl, hs2, hbut2⟩))
    all_goals
      go_wp2
      go_meet
      case rel => exact Mid.of hb2 hlt hbut HF.out HG.out hm1 hb1 HC.out HTK.out hs2 hbut2
  case rest =>
    clear c0 c2 f0 hm1 hsi hbut HF HG cX hwr HC HTK hCl C h
    obtain ⟨hsc, hbut, hF, hG, hmc⟩ := hcut
    have hR := HR.out
    unfold nxt at hR
    clear HR
    have hnl : nls (l.takeWhile (blankB false)) ≤ (l.takeWhile (blankB false)).length := List.count_le_length
    have htl := tw_le (blankB false) l
    have hl1len : (l.drop (l.takeWhile (blankB false)).length).length ≤ 1048576 := by rw [List.length_drop]; omega
    obtain ⟨l1, hl1⟩ : ∃ l1, l.drop (l.takeWhile (blankB false)).length = l1 := ⟨_, rfl⟩
    obtain ⟨line1, hline1⟩ : ∃ line1, line + nls (l.takeWhile (blankB false)) = line1 := ⟨_, rfl⟩
    have hline2 : line1 ≤ 1048576 := by omega
    have hcases := tok_cases l1
    rw [hl1, hline1] at hsc hR
    rw [hl1] at hl1len
    clear hnl htl
    have c0 := hsc.c0
    have c1 := hsc.c1
    have cT := token_any l1 wc hl1len m hmc
    obtain ⟨k, hk⟩ : ∃ k, (tokL l1).1 = k := ⟨_, rfl⟩
    obtain ⟨t, ht⟩ : ∃ t, (tokL l1).2.1 = t := ⟨_, rfl⟩
    obtain ⟨n, hn⟩ : ∃ n, (tokL l1).2.2 = n := ⟨_, rfl⟩
    rw [hk, ht, hn] at cT hcases hR
    have HR := Lib.hid hR
    clear hR
    have HCS := Lib.hid hcases
    clear hcases
    unfold tokV at cT
    obtain ⟨T, hT⟩ : ∃ T, bs t = T := ⟨_, rfl⟩
    rw [hT] at cT
    have HF := Lib.hid hF
    have HG := Lib.hid hG
    have HN := Lib.hid (And.intro hk (And.intro ht (And.intro hn (And.intro hT (And.intro hl1 hline1)))))
    clear hk ht hn hT hl1 hline1 hF hG
    go_upto_region 8 with (go_at_call 21; refine cT.mono ?_; rintro e w1 ⟨rfl, hb1⟩; have hs1 := hsc.below hb1; have n1 := hs1.new1; have n2 := hs1.new2)
    have hLate := Late.of (k := k) (T := T) hsc hbut HF.out HG.out hmc hb1
    clear hsc hbut HF HG hmc hb1 hs1 n1 n2 c0 c1 cT
    go_cut [45] (fun v45 wd => v45 = .bool (decide (n < 0)) ∧ Late w b w1.heap.size l1 line1 false k T m wd)
    case first =>
      go_wp2
      go_meet
      case rel => exact ⟨rfl, hLate⟩
    case rest =>
      clear hLate
      obtain ⟨rfl, hsc, hbut, hF, hG, hM, hM1, hMN, hmc⟩ := hcut
      obtain ⟨-, -, -, hT, -, -⟩ := HN.out
      have HT := Lib.hid hT
      clear hT HN
      have c0 := hsc.c0
      have c1 := hsc.c1
      have c2 := hsc.c2
      have f0 := hsc.fz 0
      have f1 := hsc.fz 1
      have f2 := hsc.fz 2
      obtain ⟨⟨kM0, kM1, kM2⟩, -, -, -⟩ := block_cells hM
      have HF := Lib.hid hF
      have HG := Lib.hid hG
      have HM := Lib.hid hM
      have HS := Lib.hid hM1
      have HB := Lib.hid hbut
      have HMC := Lib.hid hmc
      clear hF hG hM hM1 hbut hmc hm
      rcases HCS.out with ⟨rfl, rfl, rfl⟩ | ⟨hn0, hn1, hkk⟩
      · -- a fault
        have hr : nxtTok l1 line1 false 0 [] (-1) = ⟨0, [], 0, 100, line1, l1, line1, false⟩ := by unfold nxtTok; rw [if_pos (by omega)]
        obtain rfl := hr.symm.trans HR.out
        obtain ⟨⟨kF0, kF1, kF2⟩, qF0, qF1, qF2⟩ := block_cells HF.out
        obtain ⟨⟨kG0, kG1, kG2⟩, qG0, qG1, qG2⟩ := block_cells HG.out
        clear hr HCS HR HT
        go_wp2
        go_region
        all_goals
          go_wp2
          refine bodyPost_ret (v := .tuple #[.agg #[.int .i64 0, .string ⟨#[]⟩, .int .i64 0], .agg #[.int .i64 100, .string ⟨#[]⟩, .int .i64 line1]]) (by simp [results, Tryd.results12, go_sem, kF0, kF1, kF2, kG0, kG1, kG2, qF0, qF1, qF2, qG0, qG1, qG2, kM0, kM1, kM2]) rfl ⟨rfl, ?_, ?_⟩
          · show Sc _ b l1 (line1 : Int) false
            first | (with_reducible exact (hsc.six hlt _ _ _ _ _ _)) | (with_reducible exact (hsc.six hlt _ _ _ _ _ _).drew)
          · first | (with_reducible exact (HB.out).six _ _ _ _ _ _) | (with_reducible exact ((HB.out).six _ _ _ _ _ _).drew)
      · clear HCS
        obtain ⟨nn, rfl⟩ : ∃ nn : Nat, n = nn := ⟨n.toNat, by omega⟩
        have hnn : nn ≤ l1.length := by omega
        have hneg : decide ((nn : Int) < 0) = false := decide_eq_false (by omega)
        rcases hkk with ⟨rfl, -, -, hn⟩ | ⟨rfl, hn⟩ | ⟨rfl, hn⟩ | ⟨rfl, hn, c, r, hl0, ht0⟩ | ⟨rfl, hn⟩
        · -- the end
          clear hn
          have hr : nxtTok l1 line1 false 0 t nn = ⟨0, t, line1, 0, 0, l1.drop nn, line1 + nls (l1.take nn), false⟩ := by
            unfold nxtTok
            rw [if_neg (by omega), if_neg (by simp), if_neg (by simp)]
            simp
          obtain rfl := hr.symm.trans HR.out
          clear hr HR
          go_wp2_with (first | (go_at_call 19; refine (skip_any b l1 line1 false nn _ hl1len hline2 hnn hsc).mono ?_; rintro e w3 ⟨rfl, hs3, hb3⟩; obtain ⟨⟨kF0, kF1, kF2⟩, qF0, qF1, qF2⟩ := block_cells (hb3.keep HF.out (by omega)); obtain ⟨⟨kG0, kG1, kG2⟩, qG0, qG1, qG2⟩ := block_cells (hb3.keep HG.out (by omega)); obtain ⟨⟨kT0, kT1, kT2⟩, -, -, -⟩ := block_cells (hb3.keep HM.out (by omega)); have d2 := hs3.c2; have g2 := hs3.fz 2))
          refine bodyPost_ret (v := .tuple #[.agg #[.int .i64 0, .string T, .int .i64 line1], .agg #[.int .i64 0, .string ⟨#[]⟩, .int .i64 0]]) (by simp [results, Tryd.results12, go_sem, kF0, kF1, kF2, kG0, kG1, kG2, qF0, qF1, qF2, qG0, qG1, qG2, kM0, kM1, kM2]) rfl ⟨by rw [← HT.out]; rfl, ?_, ?_⟩
          · show Sc _ b (l1.drop nn) ((line1 + nls (l1.take nn) : Nat) : Int) _
            first | (with_reducible exact (hs3.six hlt _ _ _ _ _ _)) | (with_reducible exact (hs3.six hlt _ _ _ _ _ _).drew) | (with_reducible exact (hs3.put2.six hlt _ _ _ _ _ _)) | (with_reducible exact (hs3.put2.six hlt _ _ _ _ _ _).drew)
          · first | (with_reducible exact ((HB.out.trans hb3).setCell 2 _).six _ _ _ _ _ _) | (with_reducible exact (((HB.out.trans hb3).setCell 2 _).six _ _ _ _ _ _).drew) | (with_reducible exact (HB.out.trans hb3).six _ _ _ _ _ _) | (with_reducible exact ((HB.out.trans hb3).six _ _ _ _ _ _).drew)
        · -- a name
          have hr : nxtTok l1 line1 false 1 t nn = ⟨1, t, line1, 0, 0, l1.drop nn, line1 + nls (l1.take nn), true⟩ := by
            unfold nxtTok
            rw [if_neg (by omega), if_neg (by simp), if_neg (by simp)]
            simp
          obtain rfl := hr.symm.trans HR.out
          clear hr HR
          go_wp2_with (first | (go_at_call 19; refine (skip_any b l1 line1 false nn _ hl1len hline2 hnn hsc).mono ?_; rintro e w3 ⟨rfl, hs3, hb3⟩; obtain ⟨⟨kF0, kF1, kF2⟩, qF0, qF1, qF2⟩ := block_cells (hb3.keep HF.out (by omega)); obtain ⟨⟨kG0, kG1, kG2⟩, qG0, qG1, qG2⟩ := block_cells (hb3.keep HG.out (by omega)); obtain ⟨⟨kT0, kT1, kT2⟩, -, -, -⟩ := block_cells (hb3.keep HM.out (by omega)); have d2 := hs3.c2; have g2 := hs3.fz 2))
          refine bodyPost_ret (v := .tuple #[.agg #[.int .i64 1, .string T, .int .i64 line1], .agg #[.int .i64 0, .string ⟨#[]⟩, .int .i64 0]]) (by simp [results, Tryd.results12, go_sem, kF0, kF1, kF2, kG0, kG1, kG2, qF0, qF1, qF2, qG0, qG1, qG2, kM0, kM1, kM2]) rfl ⟨by rw [← HT.out]; rfl, ?_, ?_⟩
          · show Sc _ b (l1.drop nn) ((line1 + nls (l1.take nn) : Nat) : Int) _
            first | (with_reducible exact (hs3.six hlt _ _ _ _ _ _)) | (with_reducible exact (hs3.six hlt _ _ _ _ _ _).drew) | (with_reducible exact (hs3.put2.six hlt _ _ _ _ _ _)) | (with_reducible exact (hs3.put2.six hlt _ _ _ _ _ _).drew)
          · first | (with_reducible exact ((HB.out.trans hb3).setCell 2 _).six _ _ _ _ _ _) | (with_reducible exact (((HB.out.trans hb3).setCell 2 _).six _ _ _ _ _ _).drew) | (with_reducible exact (HB.out.trans hb3).six _ _ _ _ _ _) | (with_reducible exact ((HB.out.trans hb3).six _ _ _ _ _ _).drew)
        · -- a text
          have hr : nxtTok l1 line1 false 2 t nn = ⟨2, t, line1, 0, 0, l1.drop nn, line1 + nls (l1.take nn), true⟩ := by
            unfold nxtTok
            rw [if_neg (by omega), if_neg (by simp), if_neg (by simp)]
            simp
          obtain rfl := hr.symm.trans HR.out
          clear hr HR
          go_wp2_with (first | (go_at_call 19; refine (skip_any b l1 line1 false nn _ hl1len hline2 hnn hsc).mono ?_; rintro e w3 ⟨rfl, hs3, hb3⟩; obtain ⟨⟨kF0, kF1, kF2⟩, qF0, qF1, qF2⟩ := block_cells (hb3.keep HF.out (by omega)); obtain ⟨⟨kG0, kG1, kG2⟩, qG0, qG1, qG2⟩ := block_cells (hb3.keep HG.out (by omega)); obtain ⟨⟨kT0, kT1, kT2⟩, -, -, -⟩ := block_cells (hb3.keep HM.out (by omega)); have d2 := hs3.c2; have g2 := hs3.fz 2))
          refine bodyPost_ret (v := .tuple #[.agg #[.int .i64 2, .string T, .int .i64 line1], .agg #[.int .i64 0, .string ⟨#[]⟩, .int .i64 0]]) (by simp [results, Tryd.results12, go_sem, kF0, kF1, kF2, kG0, kG1, kG2, qF0, qF1, qF2, qG0, qG1, qG2, kM0, kM1, kM2]) rfl ⟨by rw [← HT.out]; rfl, ?_, ?_⟩
          · show Sc _ b (l1.drop nn) ((line1 + nls (l1.take nn) : Nat) : Int) _
            first | (with_reducible exact (hs3.six hlt _ _ _ _ _ _)) | (with_reducible exact (hs3.six hlt _ _ _ _ _ _).drew) | (with_reducible exact (hs3.put2.six hlt _ _ _ _ _ _)) | (with_reducible exact (hs3.put2.six hlt _ _ _ _ _ _).drew)
          · first | (with_reducible exact ((HB.out.trans hb3).setCell 2 _).six _ _ _ _ _ _) | (with_reducible exact (((HB.out.trans hb3).setCell 2 _).six _ _ _ _ _ _).drew) | (with_reducible exact (HB.out.trans hb3).six _ _ _ _ _ _) | (with_reducible exact ((HB.out.trans hb3).six _ _ _ _ _ _).drew)
        · clear hn
          by_cases hc10 : t = [10]
          · -- a line feed
            have hr : nxtTok l1 line1 false 3 t nn = ⟨3, [10], line1, 0, 0, l1.drop 1, line1 + nls (l1.take 1), false⟩ := by
              unfold nxtTok
              rw [if_neg (by omega), if_pos ⟨rfl, hc10⟩]
            have hl01 : 1 ≤ l1.length := by rw [hl0]; simp
            obtain rfl := hr.symm.trans HR.out
            obtain rfl : T = ⟨#[10]⟩ := by rw [← HT.out, hc10]; rfl
            clear hr HR HT hc10 ht0 hl0
            go_wp2_with (go_at_call 19; refine (skip_any b l1 line1 false 1 _ hl1len hline2 hl01 hsc.put2).mono ?_; rintro e w3 ⟨rfl, hs3, hb3⟩; obtain ⟨⟨kF0, kF1, kF2⟩, qF0, qF1, qF2⟩ := block_cells ((((But.refl b wc).setCell 2 (.bool false)).trans hb3).keep HF.out (by omega)); obtain ⟨⟨kG0, kG1, kG2⟩, qG0, qG1, qG2⟩ := block_cells ((((But.refl b wc).setCell 2 (.bool false)).trans hb3).keep HG.out (by omega)); obtain ⟨⟨kS0, kS1, kS2⟩, -, -, -⟩ := block_cells ((((But.refl b wc).setCell 2 (.bool false)).trans hb3).keep HS.out (by omega)))
            refine bodyPost_ret (v := .tuple #[.agg #[.int .i64 3, .string ⟨#[10]⟩, .int .i64 line1], .agg #[.int .i64 0, .string ⟨#[]⟩, .int .i64 0]]) (by simp [results, Tryd.results12, go_sem, kF0, kF1, kF2, kG0, kG1, kG2, qF0, qF1, qF2, qG0, qG1, qG2, kM0, kM1, kM2]) rfl ⟨rfl, ?_, ?_⟩
            · show Sc _ b (l1.drop 1) ((line1 + nls (l1.take 1) : Nat) : Int) false
              first | (with_reducible exact (hs3.six hlt _ _ _ _ _ _)) | (with_reducible exact (hs3.six hlt _ _ _ _ _ _).drew)
            · first | (with_reducible exact (HB.out.trans (((But.refl b wc).setCell 2 (.bool false)).trans hb3)).six _ _ _ _ _ _) | (with_reducible exact ((HB.out.trans (((But.refl b wc).setCell 2 (.bool false)).trans hb3)).six _ _ _ _ _ _).drew)
          · -- another sign
            have hTl : T.data.toList = t := by rw [← HT.out, bs_list]
            have e1 : (T.toList == (⟨#[10]⟩ : ByteArray).toList) = false := by rw [Lib.toList_data, Lib.toList_data, hTl, beq_eq_false_iff_ne]; exact hc10
            have e2 : (T.toList == [10]) = false := by rw [Lib.toList_data, hTl, beq_eq_false_iff_ne]; exact hc10
            have HTL := Lib.hid hTl
            clear hTl ht0 hl0
            have hr : nxtTok l1 line1 false 3 t nn = ⟨3, t, line1, 0, 0, l1.drop nn, line1 + nls (l1.take nn), closeB t⟩ := by
              unfold nxtTok
              rw [if_neg (by omega), if_neg (by intro h; exact hc10 h.2), if_neg (by simp)]
              simp
            obtain rfl := hr.symm.trans HR.out
            clear hr HR
            have cC := fun W hm' => Tryd.strings_Contains ⟨#[41, 93, 125]⟩ T m W (by decide) hm'
            rw [HTL.out] at cC
            have eC : Lib.contains (⟨#[41, 93, 125]⟩ : ByteArray).data.toList t = closeB t := rfl
            rw [eC] at cC
            obtain ⟨CB, hCB⟩ : ∃ CB, closeB t = CB := ⟨_, rfl⟩
            rw [hCB] at cC
            have HCB := Lib.hid hCB
            clear hc10 eC hCB
            go_wp2_with (first | (go_at_call 19; refine (skip_any b l1 line1 false nn _ hl1len hline2 hnn hsc).mono ?_; rintro e w3 ⟨rfl, hs3, hb3⟩; obtain ⟨⟨kF0, kF1, kF2⟩, qF0, qF1, qF2⟩ := block_cells (hb3.keep HF.out (by omega)); obtain ⟨⟨kG0, kG1, kG2⟩, qG0, qG1, qG2⟩ := block_cells (hb3.keep HG.out (by omega)); obtain ⟨⟨kT0, kT1, kT2⟩, -, -, -⟩ := block_cells (hb3.keep HM.out (by omega)); have d2 := hs3.c2; have g2 := hs3.fz 2; have hm3 : w3.cell? ⟨2, 0, none⟩ = some (.int .i64 m) := by rw [← HMC.out]; exact World.cell?_of_block (hb3.block 2 (cell_below HMC.out) (fun e => by injection e with e; omega))) | (go_at_call 22; refine (cC _ hm3).mono ?_; rintro e w' ⟨rfl, hw'⟩; obtain rfl := hw'.symm))
            refine bodyPost_ret (v := .tuple #[.agg #[.int .i64 3, .string T, .int .i64 line1], .agg #[.int .i64 0, .string ⟨#[]⟩, .int .i64 0]]) (by simp [results, Tryd.results12, go_sem, kF0, kF1, kF2, kG0, kG1, kG2, qF0, qF1, qF2, qG0, qG1, qG2, kM0, kM1, kM2]) rfl ⟨by rw [← HT.out]; rfl, ?_, ?_⟩
            · show Sc _ b (l1.drop nn) ((line1 + nls (l1.take nn) : Nat) : Int) (closeB t)
              rw [HCB.out]
              first | (with_reducible exact (hs3.six hlt _ _ _ _ _ _)) | (with_reducible exact (hs3.six hlt _ _ _ _ _ _).drew) | (with_reducible exact (hs3.put2.six hlt _ _ _ _ _ _)) | (with_reducible exact (hs3.put2.six hlt _ _ _ _ _ _).drew)
            · first | (with_reducible exact ((HB.out.trans hb3).setCell 2 _).six _ _ _ _ _ _) | (with_reducible exact (((HB.out.trans hb3).setCell 2 _).six _ _ _ _ _ _).drew) | (with_reducible exact (HB.out.trans hb3).six _ _ _ _ _ _) | (with_reducible exact ((HB.out.trans hb3).six _ _ _ _ _ _).drew)
        · -- a comment
          have hr : nxtTok l1 line1 false 4 t nn = ⟨4, t, line1, 0, 0, l1.drop nn, line1 + nls (l1.take nn), false⟩ := by
            unfold nxtTok
            rw [if_neg (by omega), if_neg (by simp), if_neg (by simp)]
            simp
          obtain rfl := hr.symm.trans HR.out
          clear hr HR
          go_wp2_with (first | (go_at_call 19; refine (skip_any b l1 line1 false nn _ hl1len hline2 hnn hsc).mono ?_; rintro e w3 ⟨rfl, hs3, hb3⟩; obtain ⟨⟨kF0, kF1, kF2⟩, qF0, qF1, qF2⟩ := block_cells (hb3.keep HF.out (by omega)); obtain ⟨⟨kG0, kG1, kG2⟩, qG0, qG1, qG2⟩ := block_cells (hb3.keep HG.out (by omega)); obtain ⟨⟨kT0, kT1, kT2⟩, -, -, -⟩ := block_cells (hb3.keep HM.out (by omega)); have d2 := hs3.c2; have g2 := hs3.fz 2))
          refine bodyPost_ret (v := .tuple #[.agg #[.int .i64 4, .string T, .int .i64 line1], .agg #[.int .i64 0, .string ⟨#[]⟩, .int .i64 0]]) (by simp [results, Tryd.results12, go_sem, kF0, kF1, kF2, kG0, kG1, kG2, qF0, qF1, qF2, qG0, qG1, qG2, kM0, kM1, kM2]) rfl ⟨by rw [← HT.out]; rfl, ?_, ?_⟩
          · show Sc _ b (l1.drop nn) ((line1 + nls (l1.take nn) : Nat) : Int) _
            first | (with_reducible exact (hs3.six hlt _ _ _ _ _ _)) | (with_reducible exact (hs3.six hlt _ _ _ _ _ _).drew) | (with_reducible exact (hs3.put2.six hlt _ _ _ _ _ _)) | (with_reducible exact (hs3.put2.six hlt _ _ _ _ _ _).drew)
          · first | (with_reducible exact ((HB.out.trans hb3).setCell 2 _).six _ _ _ _ _ _) | (with_reducible exact (((HB.out.trans hb3).setCell 2 _).six _ _ _ _ _ _).drew) | (with_reducible exact (HB.out.trans hb3).six _ _ _ _ _ _) | (with_reducible exact ((HB.out.trans hb3).six _ _ _ _ _ _).drew)
end Go.Proofs.YtkcjembmdiaclaaDoor
