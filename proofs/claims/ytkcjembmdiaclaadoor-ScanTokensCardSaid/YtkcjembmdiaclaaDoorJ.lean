/- The walk of the program's Unquote. -/
import Derived.Test.YtkcjembmdiaclaaDoorH
import Derived.Test.YtkcjembmdiaclaaDoorI
namespace Go.Proofs.YtkcjembmdiaclaaDoor
open Go.RowKit Go.Lib Go.Maps
set_option linter.unusedVariables false
set_option linter.unusedSimpArgs false

theorem valueL_len {l : List UInt8} {many : Nat} {base r : Int} (h : valueL l many base = some r) : many ≤ l.length := by
  unfold valueL at h
  split at h
  · cases h
  · omega
theorem encode_size (n : Int) : (Utf8.encode n).data.toList.length ≤ 4 := by
  unfold Utf8.encode
  dsimp only
  generalize (if Utf8.valid n = true then n.toNat else Utf8.runeError) = c
  by_cases h1 : c < 128
  · rw [if_pos h1]; simp
  · rw [if_neg h1]
    by_cases h2 : c < 2048
    · rw [if_pos h2]; simp
    · rw [if_neg h2]
      by_cases h3 : c < 65536
      · rw [if_pos h3]; simp
      · rw [if_neg h3]; simp
theorem escL_len (l : List UInt8) : (escL l).2 ≤ l.length ∧ (escL l).1.length ≤ (escL l).2 := by
  cases l with
  | nil => simp [escL]
  | cons c r =>
    rw [escL_cons]
    split
    · simp
    · split
      · split
        · rename_i n hv
          have := valueL_len hv
          split
          · simp at this ⊢; omega
          · simp
        · simp
      · split
        · split
          · rename_i n hv
            have := valueL_len hv
            simp at this ⊢; omega
          · simp
        · split
          · rename_i hm
            split
            · rename_i n hv
              have := valueL_len hv
              have he := encode_size n
              split
              · simp at this he ⊢; omega
              · simp
            · simp
          · simp

/-- What the program's Unquote says, behind what it has said. -/
def unqF : Nat → List UInt8 → List UInt8 → Option (List UInt8)
  | 0, _, _ => none
  | f + 1, [], acc => some acc
  | f + 1, c :: r, acc =>
    if ((c.toNat : Int) == 10) = true then none else if ((c.toNat : Int) == 34) = true then none
    else if ((c.toNat : Int) == 92) = true then (if (((escL r).2 : Int) == 0) = true then none else unqF f (r.drop (escL r).2) (acc ++ (escL r).1))
    else unqF f r (acc ++ [c])
def unquoteL (l : List UInt8) : Option (List UInt8) := unqF (l.length + 1) l []
def uRet (r : Option (List UInt8)) : Value := match r with | some l => .tuple #[.string (bs l), .bool true] | none => .tuple #[.string (bs []), .bool false]

theorem builder_below {B b : Nat} {cs : List Value} {w w' : World} (h : Lib.IsBuilderF 79 5 B b cs w) (hb : Below w.heap.size w w') : Lib.IsBuilderF 79 5 B b cs w' := by
  have at_ : ∀ p, Lib.BuilderAtF 79 5 B b p cs w → Lib.BuilderAtF 79 5 B b p cs w' := by
    intro p hp
    have hlt := hp.lt
    obtain ⟨hB, v, hbk, hown, hne⟩ := hp
    exact ⟨hB, v, (hb.block b hlt).trans hbk, hown.kept (row := none) ⟨hb.os, hb.tape, hb.output, hb.size, fun k hk _ => hb.block k hk⟩ (by cases hv : v.ownBlock <;> simp), hne⟩
  exact h.elim (fun x => .inl (at_ _ x)) (fun x => .inr (at_ _ x))
theorem byteCells_append (a b : List UInt8) : Lib.byteCells (a ++ b) = Lib.byteCells a ++ Lib.byteCells b := by simp [Lib.byteCells]
theorem byteCells_length (a : List UInt8) : (Lib.byteCells a).length = a.length := by simp [Lib.byteCells]
theorem strCells_bs (l : List UInt8) : Lib.strCells (bs l) = Lib.byteCells l := by
  unfold Lib.strCells Lib.byteCells bs
  simp

theorem bs_at (c : UInt8) (r : List UInt8) (h : 0 < (bs (c :: r)).size) : (bs (c :: r))[0]'h = c := rfl

set_option maxRecDepth 100000 in
set_option maxHeartbeats 4000000 in
theorem unquote_any (s : ByteArray) (w : World) (hs : s.size ≤ 1048576) :
    Calls Tryd.prog 35 #[.string s] w fun e w' => e = .returned (uRet (unquoteL s.data.toList)) ∧ Below w.heap.size w w' := by
  obtain ⟨R, hR⟩ : ∃ R, unquoteL s.data.toList = R := ⟨_, rfl⟩
  rw [hR]
  obtain ⟨l0, hl0⟩ : ∃ l0, s.data.toList = l0 := ⟨_, rfl⟩
  have hs0 : s = bs l0 := by rw [← hl0, bs_of]
  have hn : l0.length ≤ 1048576 := by rw [← hl0, ← Lib.size_eq]; exact hs
  rw [hl0] at hR
  subst hs0
  have HR := Lib.hid hR
  clear hR hl0 hs
  go_enter Tryd.func35, Tryd.ntmps35
  go_wp2
  go_loopg [0] (l0.length + 1) (fun gf v0 wx => ∃ l acc : List UInt8, v0 = .string (bs l) ∧ Lib.IsBuilderF 79 5 w.heap.size w.heap.size (Lib.byteCells acc) wx ∧ Below w.heap.size w wx ∧ Hid (unqF gf l acc = R) ∧ l.length < gf ∧ acc.length + l.length ≤ l0.length)
  case atStart => exact ⟨l0, [], rfl, Lib.IsBuilderF.of (Lib.fresh_isBuilder 79 5 w), (Below.refl _ w).alloc (Nat.le_refl _) _, HR, by omega, by simp⟩
  case round =>
    obtain ⟨l, acc, rfl, hbd, hbw, HK, hfu, hlen⟩ := hrel
    obtain ⟨g', rfl⟩ : ∃ g', gk = g' + 1 := ⟨gk - 1, by omega⟩
    cases l with
    | nil =>
      have hv := HK.out
      simp only [unqF] at hv
      subst hv
      clear HK HR
      have hemp : (bs []).toList.isEmpty = true := by rw [Lib.toList_data, bs_list]; rfl
      have cS := Tryd.Builder_String_any_f w.heap.size w.heap.size acc wr hbd hbw.size
      go_wp2_with (go_at_call 51; refine cS.mono ?_; rintro e w' ⟨rfl, hbd2, hb2⟩)
      go_ret2
      exact ⟨rfl, hbw.trans hb2⟩
    | cons c r =>
      have hv := HK.out
      simp only [unqF] at hv
      have HV := Lib.hid hv
      clear hv HK HR
      have h0 : 0 < (bs (c :: r)).size := by rw [bs_size]; simp
      have hemp := not_empty h0
      have hat := bs_at c r h0
      have hsl : ∀ W, (Instr.slice 9 (.string (bs (c :: r))) (some (.int .i64 1)) none none).run Tryd.prog W = .ok (.string (bs r)) W := by
        have h := sl_l (bs (c :: r)) 1 (by omega)
        rw [bs_list] at h
        exact h
      simp only [List.length_cons] at hfu hlen
      obtain ⟨S, hS⟩ : ∃ S, bs (c :: r) = S := ⟨_, rfl⟩
      rw [hS] at hsl hemp
      have hat2 : ∀ h : 0 < S.size, (S[0]'h).toNat = c.toNat := by subst hS; intro h; rw [hat]
      have h0S : 0 < S.size := by rw [← hS]; exact h0
      have hat3 := hat2 h0S
      rw [hS]
      clear hat hat2 hS h0
      obtain ⟨C, hC⟩ : ∃ C, c.toNat = C := ⟨_, rfl⟩
      rw [hC] at HV hat3
      by_cases h10 : ((C : Int) == 10) = true
      · have hnone : R = none := by rw [← HV.out, if_pos h10]
        subst hnone
        go_wp2
        go_ret2
        exact ⟨rfl, hbw⟩
      · have h10f : ((C : Int) == 10) = false := by simpa using h10
        by_cases h34 : ((C : Int) == 34) = true
        · have hnone : R = none := by rw [← HV.out, if_neg h10, if_pos h34]
          subst hnone
          clear h10
          go_wp2
          go_ret2
          exact ⟨rfl, hbw⟩
        · have h34f : ((C : Int) == 34) = false := by simpa using h34
          by_cases h92 : ((C : Int) == 92) = true
          · have cE := fun W => escape_any (bs r) W (by rw [bs_size]; omega)
            rw [bs_list] at cE
            have hel := escL_len r
            obtain ⟨E1, hE1⟩ : ∃ E1, (escL r).1 = E1 := ⟨_, rfl⟩
            obtain ⟨E2, hE2⟩ : ∃ E2, (escL r).2 = E2 := ⟨_, rfl⟩
            rw [hE1, hE2] at HV cE hel
            clear hE1 hE2
            by_cases hz : ((E2 : Int) == 0) = true
            · have hnone : R = none := by rw [← HV.out, if_neg h10, if_neg h34, if_pos h92, if_pos hz]
              subst hnone
              clear h10 h34
              go_wp2_with (go_at_call 48; refine (cE _).mono ?_; rintro e w' ⟨rfl, hb1⟩)
              go_ret2
              exact ⟨rfl, hbw.trans (hb1.mono hbw.size)⟩
            · have hzf : ((E2 : Int) == 0) = false := by simpa using hz
              have hnext : unqF g' (r.drop E2) (acc ++ E1) = R := by
                have h := HV.out
                rw [if_neg h10, if_neg h34, if_pos h92, if_neg hz] at h
                exact h
              have HN := Lib.hid hnext
              have hE2 : 1 ≤ E2 := by
                rcases Nat.eq_zero_or_pos E2 with h | h
                · subst h; simp at hz
                · exact h
              clear h10 h34 hz hnext HV
              obtain ⟨hel1, hel2⟩ := hel
              have hsl2 := sl_l (bs r) E2 (by rw [bs_size]; exact hel1)
              rw [bs_list] at hsl2
              go_wp2_with (first | (go_at_call 48; refine (cE _).mono ?_; rintro e w1 ⟨rfl, hb1⟩) | (go_at_call 49; refine (writeString_any w.heap.size w.heap.size (Lib.byteCells acc) (bs E1) _ (builder_below hbd hb1) (by rw [byteCells_length, bs_size]; omega) (Nat.le_trans hbw.size hb1.size)).mono ?_; rintro e w2 ⟨rfl, hbd2, hb2, _⟩))
              go_roundg g'
              case measure => omega
              case rel =>
                rw [strCells_bs, ← byteCells_append] at hbd2
                exact ⟨r.drop E2, acc ++ E1, rfl, .inr hbd2, (hbw.trans (hb1.mono hbw.size)).trans hb2, HN, by rw [List.length_drop]; omega, by rw [List.length_append, List.length_drop]; omega⟩
          · have h92f : ((C : Int) == 92) = false := by simpa using h92
            have hnext : unqF g' r (acc ++ [c]) = R := by
              have h := HV.out
              rw [if_neg h10, if_neg h34, if_neg h92] at h
              exact h
            have HN := Lib.hid hnext
            clear h10 h34 h92 hnext HV
            go_wp2_with (go_at_call 50; refine (writeByte_any w.heap.size w.heap.size (Lib.byteCells acc) (C : Int) _ hbd (by rw [byteCells_length]; omega) hbw.size).mono ?_; rintro e w2 ⟨rfl, hbd2, hb2, _⟩)
            go_roundg g'
            case measure => omega
            case rel =>
              have e1 : Lib.byteCells acc ++ [Value.int .u8 (C : Int)] = Lib.byteCells (acc ++ [c]) := by rw [byteCells_append, ← hC]; rfl
              rw [e1] at hbd2
              exact ⟨r, acc ++ [c], rfl, .inr hbd2, hbw.trans hb2, HN, by omega, by rw [List.length_append, List.length_singleton]; omega⟩
end Go.Proofs.YtkcjembmdiaclaaDoor
