/- The document's token, whole: it is the program's. -/
import Derived.Test.YtkcjembmdiaclaaDoorSk
namespace Go.Proofs.YtkcjembmdiaclaaDoor
open Go.RowKit Go.Lib Go.Maps
set_option linter.unusedVariables false
set_option linter.unusedSimpArgs false

/-- What the document's token hands back: the program's token, or no token where the program has none. -/
def RTok (w : World) (at_ LN : Nat) (r : Int × List UInt8 × Int) (e : Ending) (w' : World) : Prop :=
  ((0 ≤ r.2.2 ∧ e = .returned (rtkV r.1 r.2.1 LN ((at_ : Int) + r.2.2))) ∨ (r.2.2 < 0 ∧ ∃ (k : Int) (V : ByteArray), e = .returned (.tuple #[.agg #[.int .i64 k, .string V, .int .i64 LN], .int .i64 (-1)]))) ∧ Below w.heap.size w w'
theorem mem_iff_tw (x : UInt8) (l : List UInt8) : x ∈ l ↔ (l.takeWhile (· != x)).length < l.length := by
  constructor
  · intro h
    rcases Nat.lt_or_ge (l.takeWhile (· != x)).length l.length with h1 | h1
    · exact h1
    · exfalso
      have he := take_tw (· != x) l
      rw [List.take_of_length_le h1] at he
      rw [he] at h
      have := mem_tw h
      simp at this
  · intro h
    have := tw_out (p := (· != x)) l _ h rfl
    simp only [bne_eq_false_iff_eq] at this
    exact this ▸ List.getElem_mem _

theorem rtok_post (b : Nat) (s : ByteArray) (at_ : Nat) (a0 : Int) (semi : Bool) (w : World) (hs : s.size ≤ 1048576) (h : RSc w b s a0 semi) (hat : at_ ≤ s.size) (LN : Nat) (hLN : 1 + nls (s.data.toList.take at_) = LN) :
    Calls Tryd.prog 23 #[.pointer (some ⟨b, 0, none⟩), .int .i64 at_] w (RTok w at_ LN (tokL (s.data.toList.drop at_))) := by
  by_cases hend : at_ < s.size
  · obtain ⟨T, hT⟩ : ∃ T, bs (s.data.toList.drop at_) = T := ⟨_, rfl⟩
    have hI := TokIn.of hs h hend hT hLN
    have hTl : T.data.toList = s.data.toList.drop at_ := by rw [← hT, bs_list]
    rw [← hTl]
    have h0 := hI.h0
    have hd0 : T.data.toList = T[0]'h0 :: T.data.toList.drop 1 := by have := drop_at T h0; rwa [List.drop_zero] at this
    obtain ⟨c, hc⟩ : ∃ c, T[0]'h0 = c := ⟨_, rfl⟩
    obtain ⟨r, hr⟩ : ∃ r, T.data.toList.drop 1 = r := ⟨_, rfl⟩
    have hTs : T.size = r.length + 1 := by rw [← hr, List.length_drop, ← Lib.size_eq]; omega
    rw [hc, hr] at hd0
    have hcn : (T[0]'h0).toNat = c.toNat := by rw [hc]
    rw [hd0, tokL_cons]
    by_cases h1 : letterN c.toNat = true
    · rw [if_pos h1]
      refine (rtok_name b s at_ w T LN hI c.toNat hcn h1 _ rfl).mono fun e w' ⟨he, hb⟩ => ⟨.inl ⟨by simp only; omega, ?_⟩, hb⟩
      rw [he, take_tw, hd0]
      exact congrArg Ending.returned (congrArg (rtkV _ _ _) (by simp only; omega))
    · rw [if_neg h1]
      have h1f : letterN c.toNat = false := by simpa using h1
      by_cases h2 : c.toNat = 96
      · rw [if_pos h2]
        refine (rtok_raw b s at_ w T LN hI (hcn.trans h2) _ rfl).mono fun e w' ⟨⟨k, V, n, he, hx⟩, hb⟩ => ⟨?_, hb⟩
        rw [hr] at hx
        have hm := mem_iff_tw 96 r
        rcases hx with ⟨hx, hn⟩ | ⟨hx, hk, hV, hn⟩
        · rw [if_neg (by rw [hm]; omega)]
          exact .inr ⟨by simp, k, V, by rw [he, hn]⟩
        · rw [if_pos (hm.2 (by omega))]
          refine .inl ⟨by simp only; omega, ?_⟩
          rw [he, hk, hV, hn, take_tw]
          have e2 : ((at_ + ((r.takeWhile (· != 96)).length + 2) : Nat) : Int) = (at_ : Int) + (((r.takeWhile (· != 96)).length : Int) + 2) := by omega
          rw [e2]
          rfl
      · rw [if_neg h2]
        by_cases h3 : c.toNat = 34
        · rw [if_pos h3]
          refine (rtok_quote b s at_ w T LN hI (hcn.trans h3)).mono fun e w' ⟨he, hb⟩ => ⟨?_, hb⟩
          rw [he, ← hd0]
          unfold quoteV
          by_cases hq : quotedL T.data.toList = 0
          · rw [if_pos hq, if_pos hq]
            exact .inr ⟨by simp, 0, _, rfl⟩
          · rw [if_neg hq, if_neg hq, hr]
            cases hu : unquoteL (r.take (quotedL T.data.toList - 2)) with
            | some u =>
              refine .inl ⟨by simp only; omega, ?_⟩
              have e2 : ((at_ + quotedL T.data.toList : Nat) : Int) = (at_ : Int) + (quotedL T.data.toList : Int) := by omega
              simp only
              rw [e2]
            | none => exact .inr ⟨by simp, 0, _, rfl⟩
        · rw [if_neg h3]
          have h96f : ((c.toNat : Int) == 96) = false := by rw [beq_eq_false_iff_ne]; omega
          have h34f : ((c.toNat : Int) == 34) = false := by rw [beq_eq_false_iff_ne]; omega
          have hpre : ∀ x : UInt8, Lib.hasPrefix (c :: r) [47, x] = true → c.toNat = 47 ∧ ∃ r', r = x :: r' := by
            intro x hp
            obtain ⟨q, hq⟩ : ∃ q, [47, x] ++ q = c :: r := List.isPrefixOf_iff_prefix.1 hp
            injection hq with hq1 hq2
            refine ⟨by rw [← hq1]; rfl, q, hq2.symm⟩
          have hone : ∀ (x : UInt8) (r' : List UInt8), r = x :: r' → ∃ h1 : 1 < T.size, (T[1]'h1) = x := by
            intro x r' hrr
            have h1s : 1 < T.size := by rw [hTs, hrr]; simp
            refine ⟨h1s, ?_⟩
            have := drop_at T h1s
            rw [hr, hrr] at this
            injection this with h1 _
            exact h1.symm
          by_cases h4 : Lib.hasPrefix (c :: r) [47, 47] = true
          · rw [if_pos h4]
            obtain ⟨h47, r', hrr⟩ := hpre 47 h4
            obtain ⟨hs1, hx⟩ := hone 47 r' hrr
            have hpos : 1 ≤ ((c :: r).takeWhile (· != 10)).length := by
              have : (c != 10) = true := by
                rw [bne_iff_ne]
                intro e
                rw [e] at h47
                exact absurd h47 (by decide)
              rw [List.takeWhile_cons, if_pos this]
              simp
            obtain ⟨M, hM⟩ : ∃ M, ((c :: r).takeWhile (· != 10)).length = M + 1 := ⟨((c :: r).takeWhile (· != 10)).length - 1, by omega⟩
            refine (rtok_line b s at_ w T LN hI (hcn.trans h47) hs1 (by rw [hx]; rfl) M (by rw [hd0]; exact hM)).mono fun e w' ⟨he, hb⟩ => ⟨.inl ⟨by simp only; omega, ?_⟩, hb⟩
            have htk : T.data.toList.take (M + 1) = (c :: r).takeWhile (· != 10) := by rw [hd0, ← hM]; exact take_tw _ _
            rw [he, htk, hM]
            exact congrArg Ending.returned (congrArg (rtkV _ _ _) (by simp only; omega))
          · rw [if_neg h4]
            by_cases h5 : Lib.hasPrefix (c :: r) [47, 42] = true
            · rw [if_pos h5]
              obtain ⟨h47, r', hrr⟩ := hpre 42 h5
              obtain ⟨hs1, hx⟩ := hone 42 r' hrr
              have hd2 : T.data.toList.drop 2 = r.drop 1 := by rw [← hr, List.drop_drop]
              refine (rtok_star b s at_ w T LN hI (hcn.trans h47) hs1 (by rw [hx]; rfl)).mono fun e w' ⟨he, hb⟩ => ⟨?_, hb⟩
              rw [he, hd2]
              cases hf : findEnd (r.drop 1) with
              | none => exact .inr ⟨by simp, 0, _, rfl⟩
              | some f =>
                refine .inl ⟨by simp only; omega, ?_⟩
                have e2 : ((at_ + (f + 4) : Nat) : Int) = (at_ : Int) + ((f : Int) + 4) := by omega
                show Ending.returned (rtkV 4 (T.data.toList.take (f + 4)) LN ((at_ + (f + 4) : Nat) : Int)) = _
                rw [e2, hd0]
            · rw [if_neg h5]
              have hno : T.size = 1 ∨ ¬ c.toNat = 47 ∨ ∃ h1 : 1 < T.size, ¬ (T[1]'h1).toNat = 47 ∧ ¬ (T[1]'h1).toNat = 42 := by
                cases hrr : r with
                | nil => exact .inl (by rw [hTs, hrr]; rfl)
                | cons x r' =>
                  by_cases h47 : c.toNat = 47
                  · obtain ⟨hs1, hx⟩ := hone x r' hrr
                    refine .inr (.inr ⟨hs1, ?_, ?_⟩)
                    · intro e
                      refine h4 ?_
                      have hxx : x = 47 := UInt8.toNat_inj.1 (by rw [← hx, e]; rfl)
                      have hcc : c = 47 := UInt8.toNat_inj.1 (by rw [h47]; rfl)
                      rw [hrr, hxx, hcc]
                      exact List.isPrefixOf_iff_prefix.2 ⟨r', rfl⟩
                    · intro e
                      refine h5 ?_
                      have hxx : x = 42 := UInt8.toNat_inj.1 (by rw [← hx, e]; rfl)
                      have hcc : c = 47 := UInt8.toNat_inj.1 (by rw [h47]; rfl)
                      rw [hrr, hxx, hcc]
                      exact List.isPrefixOf_iff_prefix.2 ⟨r', rfl⟩
                  · exact .inr (.inl h47)
              refine (rtok_sign b s at_ w T LN hI c.toNat hcn h1f h96f h34f hno).mono fun e w' ⟨he, hb⟩ => ⟨.inl ⟨by simp, ?_⟩, hb⟩
              rw [he, hc]
  · have hae : at_ = s.size := by omega
    rw [drop_end s hend]
    refine (rtok_empty b s at_ a0 semi w hs h hae LN hLN).mono fun e w' ⟨he, hb⟩ => ⟨.inl ⟨by simp [tokL], ?_⟩, hb⟩
    rw [he]
    exact congrArg Ending.returned (congrArg (rtkV _ _ _) (by simp [tokL]))

/-- A token of the document where the program has one. -/
theorem rtok_ok (b : Nat) (s : ByteArray) (at_ : Nat) (a0 : Int) (semi : Bool) (w : World) (hs : s.size ≤ 1048576) (h : RSc w b s a0 semi) (hat : at_ ≤ s.size) (LN : Nat) (hLN : 1 + nls (s.data.toList.take at_) = LN) (k : Int) (t : List UInt8) (n : Nat) (ht : tokL (s.data.toList.drop at_) = (k, t, (n : Int))) (X : ByteArray) (hX : bs t = X) :
    Calls Tryd.prog 23 #[.pointer (some ⟨b, 0, none⟩), .int .i64 at_] w fun e w' => e = .returned (.tuple #[.agg #[.int .i64 k, .string X, .int .i64 LN], .int .i64 ((at_ : Int) + (n : Int))]) ∧ Below w.heap.size w w' := by
  refine (rtok_post b s at_ a0 semi w hs h hat LN hLN).mono fun e w' hp => ?_
  rw [ht] at hp
  obtain ⟨hp, hb⟩ := hp
  rcases hp with ⟨_, he⟩ | ⟨hn, _⟩
  · exact ⟨by rw [he, ← hX]; rfl, hb⟩
  · simp only at hn
    omega
/-- .. and where it has none. -/
theorem rtok_bad (b : Nat) (s : ByteArray) (at_ : Nat) (a0 : Int) (semi : Bool) (w : World) (hs : s.size ≤ 1048576) (h : RSc w b s a0 semi) (hat : at_ ≤ s.size) (LN : Nat) (hLN : 1 + nls (s.data.toList.take at_) = LN) (hn : (tokL (s.data.toList.drop at_)).2.2 < 0) :
    Calls Tryd.prog 23 #[.pointer (some ⟨b, 0, none⟩), .int .i64 at_] w fun e w' => ∃ (k : Int) (V : ByteArray), e = .returned (.tuple #[.agg #[.int .i64 k, .string V, .int .i64 LN], .int .i64 (-1)]) ∧ Below w.heap.size w w' := by
  refine (rtok_post b s at_ a0 semi w hs h hat LN hLN).mono fun e w' hp => ?_
  obtain ⟨hp, hb⟩ := hp
  rcases hp with ⟨h0, _⟩ | ⟨_, k, V, he⟩
  · omega
  · exact ⟨k, V, he, hb⟩
end Go.Proofs.YtkcjembmdiaclaaDoor
