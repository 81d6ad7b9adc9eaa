/- The document's Next, whole: a step of it is the program's. -/
import Derived.Test.YtkcjembmdiaclaaDoorSnF
import Derived.Test.YtkcjembmdiaclaaDoorSnT
import Derived.Test.YtkcjembmdiaclaaDoorLinP
namespace Go.Proofs.YtkcjembmdiaclaaDoor
open Go.RowKit Go.Lib Go.Maps
set_option linter.unusedVariables false
set_option linter.unusedSimpArgs false

/-- What the document's Next hands back: the step's token and its fault; where there is no fault, its scanner stands where the step's does. -/
def RNext (w : World) (b : Nat) (s : ByteArray) (r : NR) (e : Ending) (w' : World) : Prop :=
  e = .returned (.tuple #[tkV r.k r.t r.ln, faultV r.e r.el]) ∧ But b w w' ∧ (r.e = 0 → ∃ at' : Nat, at' ≤ s.size ∧ RSc w' b s at' r.semi ∧ s.data.toList.drop at' = r.l ∧ 1 + nls (s.data.toList.take at') = r.line)

theorem take_drop_add (l : List UInt8) (a n : Nat) : nls (l.take (a + n)) = nls (l.take a) + nls ((l.drop a).take n) := by
  rw [List.take_add, nls_append]
theorem sign_eq (c : UInt8) (k : UInt8) : ((bs [c]).toList == [k]) = decide (c = k) := by
  rw [Lib.toList_data, bs_list]
  by_cases h : c = k
  · rw [h]; simp
  · simp [h]
set_option maxRecDepth 100000 in
theorem close_table : ∀ x : Fin 256, closeB [UInt8.ofNat x.val] = decide (UInt8.ofNat x.val = 41 ∨ UInt8.ofNat x.val = 93 ∨ UInt8.ofNat x.val = 125) := by decide +kernel
theorem close_one (c : UInt8) : closeB [c] = decide (c = 41 ∨ c = 93 ∨ c = 125) := by
  have h := close_table ⟨c.toNat, UInt8.toNat_lt c⟩
  simp only [UInt8.ofNat_toNat] at h
  exact h

theorem trimCR_le (l : List UInt8) : (trimCR l).length ≤ l.length := by
  unfold trimCR
  split
  · rw [List.length_dropLast]; omega
  · exact Nat.le_refl _
/-- A comment is no longer than what it begins. -/
theorem tok_len4 (l : List UInt8) (h : (tokL l).1 = 4) : (tokL l).2.1.length ≤ l.length := by
  cases l with
  | nil => simp [tokL] at h
  | cons c r =>
    rw [tokL_cons] at h ⊢
    by_cases h1 : letterN c.toNat = true
    · rw [if_pos h1] at h; simp at h
    · rw [if_neg h1] at h ⊢
      by_cases h2 : c.toNat = 96
      · rw [if_pos h2] at h
        by_cases h3 : (96 : UInt8) ∈ r
        · rw [if_pos h3] at h; simp at h
        · rw [if_neg h3] at h; simp at h
      · rw [if_neg h2] at h ⊢
        by_cases h3 : c.toNat = 34
        · rw [if_pos h3] at h
          by_cases hq : quotedL (c :: r) = 0
          · rw [if_pos hq] at h; simp at h
          · rw [if_neg hq] at h
            cases hu : unquoteL (r.take (quotedL (c :: r) - 2)) with
            | some u => rw [hu] at h; simp at h
            | none => rw [hu] at h; simp at h
        · rw [if_neg h3] at h ⊢
          by_cases h4 : Lib.hasPrefix (c :: r) [47, 47] = true
          · rw [if_pos h4]
            exact Nat.le_trans (trimCR_le _) (tw_le _ _)
          · rw [if_neg h4] at h ⊢
            by_cases h5 : Lib.hasPrefix (c :: r) [47, 42] = true
            · rw [if_pos h5] at h ⊢
              cases hf : findEnd (r.drop 1) with
              | some i => simp only [List.length_take]; omega
              | none => rw [hf] at h; simp at h
            · rw [if_neg h5] at h
              simp at h

theorem rnext_any (b : Nat) (s : ByteArray) (at_ : Nat) (semi : Bool) (w : World) (hs : s.size ≤ 1048576) (h : RSc w b s at_ semi) (hat : at_ ≤ s.size) :
    Calls Tryd.prog 13 #[.pointer (some ⟨b, 0, none⟩)] w (RNext w b s (nxt (s.data.toList.drop at_) (1 + nls (s.data.toList.take at_)) semi)) := by
  obtain ⟨N, hN⟩ : ∃ N, ((s.data.toList.drop at_).takeWhile (blankB semi)).length = N := ⟨_, rfl⟩
  obtain ⟨at1, ha1⟩ : ∃ at1, at_ + N = at1 := ⟨_, rfl⟩
  have hNle : at1 ≤ s.size := by
    have := tw_le (blankB semi) (s.data.toList.drop at_)
    rw [hN, List.length_drop, ← Lib.size_eq] at this
    omega
  have htk : (s.data.toList.drop at_).take N = (s.data.toList.drop at_).takeWhile (blankB semi) := by rw [← hN]; exact take_tw _ _
  have hL : 1 + nls (s.data.toList.take at_) + nls ((s.data.toList.drop at_).takeWhile (blankB semi)) = 1 + nls (s.data.toList.take at1) := by
    rw [← ha1, take_drop_add, htk]
    omega
  obtain ⟨LN, hLN⟩ : ∃ LN, 1 + nls (s.data.toList.take at1) = LN := ⟨_, rfl⟩
  obtain ⟨l1, hl1⟩ : ∃ l1, s.data.toList.drop at1 = l1 := ⟨_, rfl⟩
  have hd1 : (s.data.toList.drop at_).drop N = l1 := by rw [List.drop_drop, ha1, hl1]
  have ha1' : at_ + ((s.data.toList.drop at_).takeWhile (blankB semi)).length = at1 := by rw [hN, ha1]
  have hr : nxt (s.data.toList.drop at_) (1 + nls (s.data.toList.take at_)) semi = nxtTok l1 LN semi (tokL l1).1 (tokL l1).2.1 (tokL l1).2.2 := by
    unfold nxt
    rw [hN, hd1, hL, hLN]
  rw [hr]
  have hl1len : l1.length = s.size - at1 := by rw [← hl1, List.length_drop, ← Lib.size_eq]
  -- where a step ends, told by how far it went
  have hgo : ∀ n, n ≤ l1.length → s.data.toList.drop (at1 + n) = l1.drop n ∧ 1 + nls (s.data.toList.take (at1 + n)) = LN + nls (l1.take n) := by
    intro n hn
    refine ⟨by rw [← hl1, List.drop_drop], ?_⟩
    rw [take_drop_add, hl1, ← hLN]
    omega
  by_cases he : at1 < s.size
  · have hc := drop_at s he
    rw [hl1] at hc
    obtain ⟨c, hcc⟩ : ∃ c, s[at1]'he = c := ⟨_, rfl⟩
    rw [hcc] at hc
    have hbl : blankB semi c = false := by
      have hlt : N < (s.data.toList.drop at_).length := by rw [List.length_drop, ← Lib.size_eq]; omega
      have h1 := tw_out (p := blankB semi) (s.data.toList.drop at_) N hlt hN
      rw [List.getElem_drop] at h1
      simp only [ha1] at h1
      rw [← hcc]
      exact h1
    by_cases hnl : semi = true ∧ c = 10
    · obtain ⟨rfl, rfl⟩ := hnl
      have ht : tokL l1 = (3, [10], 1) := by rw [hc, tokL_cons]; cases (s.data.toList.drop (at1 + 1)) <;> rfl
      rw [ht]
      simp only
      rw [nxtTok_feed (by omega)]
      refine (rnx_t_nl b s at_ w hs h hat at1 ha1' LN hLN he (by rw [hcc]; rfl)).mono fun e w' ⟨h1, h2, h3⟩ => ⟨h1, h3, fun _ => ⟨at1 + 1, by omega, h2, (hgo 1 (by omega)).1, (hgo 1 (by omega)).2⟩⟩
    · have hblf : blankB false (s[at1]'he) = false := by
        rw [hcc]
        cases semi with
        | false => exact hbl
        | true =>
          unfold blankB at hbl ⊢
          have h10 : (c == 10) = false := by rw [beq_eq_false_iff_ne]; exact fun e => hnl ⟨rfl, e⟩
          rw [h10] at *
          simpa using hbl
      have hcne : c ≠ 10 := by
        intro e
        rw [hcc, e] at hblf
        exact absurd hblf (by decide)
      rcases tok_cases l1 with ⟨hb, hb2, hb3⟩ | ⟨hn0, hnle, hk⟩
      · rw [nxtTok_fault (by omega)]
        cases semi with
        | false => exact (rnx_f_bad b s at_ w hs h hat at1 ha1' LN hLN he hblf (by rw [hl1]; omega)).mono fun e w' ⟨h1, h2⟩ => ⟨h1, h2, fun h => absurd h (by simp)⟩
        | true => exact (rnx_t_bad b s at_ w hs h hat at1 ha1' LN hLN he hblf (by rw [hl1]; omega)).mono fun e w' ⟨h1, h2⟩ => ⟨h1, h2, fun h => absurd h (by simp)⟩
      · obtain ⟨k, hkk⟩ : ∃ k, (tokL l1).1 = k := ⟨_, rfl⟩
        obtain ⟨t, htt⟩ : ∃ t, (tokL l1).2.1 = t := ⟨_, rfl⟩
        obtain ⟨n, hnn⟩ : ∃ n : Nat, (tokL l1).2.2 = (n : Int) := ⟨(tokL l1).2.2.toNat, by omega⟩
        have ht : tokL (s.data.toList.drop at1) = (k, t, (n : Int)) := by rw [hl1, ← hkk, ← htt, ← hnn]
        rw [hkk, htt, hnn] at hk ⊢
        rw [hnn] at hnle
        have hn6 : n ≤ 1048576 := by omega
        have hnl1 : n ≤ l1.length := by omega
        obtain ⟨g1, g2⟩ := hgo n hnl1
        have han : at1 + n ≤ s.size := by omega
        rcases hk with ⟨_, _, hl0, _⟩ | ⟨rfl, _⟩ | ⟨rfl, _⟩ | ⟨rfl, hn1, c', r', hl', rfl⟩ | ⟨rfl, hn1⟩
        · rw [hc] at hl0
          cases hl0
        · rw [nxtTok_plain (by omega) (by omega)]
          cases semi with
          | false => exact (rnx_f_k1 b s at_ w hs h hat at1 ha1' LN hLN he hblf t n ht _ rfl hn6).mono fun e w' ⟨h1, h2, h3⟩ => ⟨h1, h3, fun _ => ⟨at1 + n, han, h2, g1, g2⟩⟩
          | true => exact (rnx_t_k1 b s at_ w hs h hat at1 ha1' LN hLN he hblf t n ht _ rfl hn6).mono fun e w' ⟨h1, h2, h3⟩ => ⟨h1, h3, fun _ => ⟨at1 + n, han, h2, g1, g2⟩⟩
        · rw [nxtTok_plain (by omega) (by omega)]
          cases semi with
          | false => exact (rnx_f_k2 b s at_ w hs h hat at1 ha1' LN hLN he hblf t n ht _ rfl hn6).mono fun e w' ⟨h1, h2, h3⟩ => ⟨h1, h3, fun _ => ⟨at1 + n, han, h2, g1, g2⟩⟩
          | true => exact (rnx_t_k2 b s at_ w hs h hat at1 ha1' LN hLN he hblf t n ht _ rfl hn6).mono fun e w' ⟨h1, h2, h3⟩ => ⟨h1, h3, fun _ => ⟨at1 + n, han, h2, g1, g2⟩⟩
        · have hc' : c' = c := by rw [hc] at hl'; injection hl' with h1 _; exact h1.symm
          subst hc'
          have h3 : ¬ ((3 : Int) = 3 ∧ [c'] = [10]) := fun h => hcne (by have := h.2; simpa using this)
          rw [nxtTok_plain h3 (by omega)]
          have hse : (if (3 : Int) = 4 then semi else decide ((3 : Int) = 1 ∨ (3 : Int) = 2) || (decide ((3 : Int) = 3) && closeB [c'])) = decide (c' = 41 ∨ c' = 93 ∨ c' = 125) := by
            rw [close_one]
            simp
          rw [hse]
          have hone : ∀ k : UInt8, c' = k → bs [c'] = bs [k] := fun k e => by rw [e]
          by_cases d1 : c' = 41
          · have hv : decide (c' = 41 ∨ c' = 93 ∨ c' = 125) = true := decide_eq_true (.inl d1)
            rw [hv]
            cases semi with
            | false => exact (rnx_f_k3_41 b s at_ w hs h hat at1 ha1' LN hLN he hblf [c'] n ht _ rfl hn6 (hone 41 d1)).mono fun e w' ⟨h1, h2, h3⟩ => ⟨h1, h3, fun _ => ⟨at1 + n, han, h2, g1, g2⟩⟩
            | true => exact (rnx_t_k3_41 b s at_ w hs h hat at1 ha1' LN hLN he hblf [c'] n ht _ rfl hn6 (hone 41 d1)).mono fun e w' ⟨h1, h2, h3⟩ => ⟨h1, h3, fun _ => ⟨at1 + n, han, h2, g1, g2⟩⟩
          · by_cases d2 : c' = 93
            · have hv : decide (c' = 41 ∨ c' = 93 ∨ c' = 125) = true := decide_eq_true (.inr (.inl d2))
              rw [hv]
              cases semi with
              | false => exact (rnx_f_k3_93 b s at_ w hs h hat at1 ha1' LN hLN he hblf [c'] n ht _ rfl hn6 (hone 93 d2)).mono fun e w' ⟨h1, h2, h3⟩ => ⟨h1, h3, fun _ => ⟨at1 + n, han, h2, g1, g2⟩⟩
              | true => exact (rnx_t_k3_93 b s at_ w hs h hat at1 ha1' LN hLN he hblf [c'] n ht _ rfl hn6 (hone 93 d2)).mono fun e w' ⟨h1, h2, h3⟩ => ⟨h1, h3, fun _ => ⟨at1 + n, han, h2, g1, g2⟩⟩
            · by_cases d3 : c' = 125
              · have hv : decide (c' = 41 ∨ c' = 93 ∨ c' = 125) = true := decide_eq_true (.inr (.inr d3))
                rw [hv]
                cases semi with
                | false => exact (rnx_f_k3_125 b s at_ w hs h hat at1 ha1' LN hLN he hblf [c'] n ht _ rfl hn6 (hone 125 d3)).mono fun e w' ⟨h1, h2, h3⟩ => ⟨h1, h3, fun _ => ⟨at1 + n, han, h2, g1, g2⟩⟩
                | true => exact (rnx_t_k3_125 b s at_ w hs h hat at1 ha1' LN hLN he hblf [c'] n ht _ rfl hn6 (hone 125 d3)).mono fun e w' ⟨h1, h2, h3⟩ => ⟨h1, h3, fun _ => ⟨at1 + n, han, h2, g1, g2⟩⟩
              · have hv : decide (c' = 41 ∨ c' = 93 ∨ c' = 125) = false := decide_eq_false (by intro k; rcases k with k | k | k; exact d1 k; exact d2 k; exact d3 k)
                rw [hv]
                have x1 : ((bs [c']).toList == [41]) = false := by rw [sign_eq]; exact decide_eq_false d1
                have x2 : ((bs [c']).toList == [93]) = false := by rw [sign_eq]; exact decide_eq_false d2
                have x3 : ((bs [c']).toList == [125]) = false := by rw [sign_eq]; exact decide_eq_false d3
                cases semi with
                | false => exact (rnx_f_k3_o b s at_ w hs h hat at1 ha1' LN hLN he hblf [c'] n ht _ rfl hn6 x1 x2 x3).mono fun e w' ⟨h1, h2, h3⟩ => ⟨h1, h3, fun _ => ⟨at1 + n, han, h2, g1, g2⟩⟩
                | true => exact (rnx_t_k3_o b s at_ w hs h hat at1 ha1' LN hLN he hblf [c'] n ht _ rfl hn6 x1 x2 x3).mono fun e w' ⟨h1, h2, h3⟩ => ⟨h1, h3, fun _ => ⟨at1 + n, han, h2, g1, g2⟩⟩
        · cases semi with
          | false =>
            rw [nxtTok_plain (by omega) (by simp)]
            exact (rnx_f_k4 b s at_ w hs h hat at1 ha1' LN hLN he hblf t n ht _ rfl hn6).mono fun e w' ⟨h1, h2, h3⟩ => ⟨h1, h3, fun _ => ⟨at1 + n, han, h2, g1, g2⟩⟩
          | true =>
            have htl : (bs t).size ≤ 1048576 := by
              have := tok_len4 l1 hkk
              rw [htt] at this
              rw [bs_size]
              omega
            have hnm : (10 : UInt8) ∈ t ↔ 0 < nls (bs t).data.toList := by
              rw [bs_list]
              unfold nls Lib.countByte
              exact List.count_pos_iff.symm
            by_cases hm : (10 : UInt8) ∈ t
            · rw [nxtTok_semi (by omega) (.inr ⟨rfl, hm⟩)]
              have g := hgo 0 (Nat.zero_le _)
              exact (rnx_t_k4_b b s at_ w hs h hat at1 ha1' LN hLN he hblf t n ht _ rfl hn6 (decide_eq_true (hnm.1 hm)) htl).mono fun e w' ⟨h1, h2, h3⟩ => ⟨h1, h3, fun _ => ⟨at1, hNle, h2, hl1, hLN⟩⟩
            · rw [nxtTok_plain (by omega) (by intro k; rcases k.2 with k | k; omega; exact hm k.2)]
              exact (rnx_t_k4_p b s at_ w hs h hat at1 ha1' LN hLN he hblf t n ht _ rfl hn6 (decide_eq_false (fun k => hm (hnm.2 k))) htl).mono fun e w' ⟨h1, h2, h3⟩ => ⟨h1, h3, fun _ => ⟨at1 + n, han, h2, g1, g2⟩⟩
  · have hae : at1 = s.size := by omega
    have hl0 : l1 = [] := by rw [← hl1]; exact drop_end s he
    subst hl0
    have ht : tokL [] = (0, [], ((0 : Nat) : Int)) := rfl
    rw [ht]
    simp only
    cases semi with
    | false =>
      rw [nxtTok_plain (by simp) (by simp)]
      exact (rnx_f_end b s at_ w hs h hat at1 ha1' LN hLN hae).mono fun e w' ⟨h1, h2, h3⟩ => ⟨h1, h3, fun _ => ⟨at1, hNle, h2, hl1, hLN⟩⟩
    | true =>
      rw [nxtTok_semi (by omega) (.inl rfl)]
      exact (rnx_t_end b s at_ w hs h hat at1 ha1' LN hLN hae).mono fun e w' ⟨h1, h2, h3⟩ => ⟨h1, h3, fun _ => ⟨at1, hNle, h2, hl1, hLN⟩⟩
end Go.Proofs.YtkcjembmdiaclaaDoor
