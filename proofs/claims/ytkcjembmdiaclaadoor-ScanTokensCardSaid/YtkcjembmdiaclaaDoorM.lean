/- The walk of the program's token, the other cases: a text in quotes, comments, signs. -/
import Derived.Test.YtkcjembmdiaclaaDoorL
namespace Go.Proofs.YtkcjembmdiaclaaDoor
open Go.RowKit Go.Lib Go.Maps
set_option linter.unusedVariables false
set_option linter.unusedSimpArgs false

theorem hasPrefix_two {s : ByteArray} {a b : UInt8} (h : Lib.hasPrefix s.data.toList [a, b] = true) : 2 ≤ s.size := by
  rw [Lib.size_eq]
  unfold Lib.hasPrefix at h
  have := List.IsPrefix.length_le (List.isPrefixOf_iff_prefix.1 h)
  simpa using this

set_option maxRecDepth 100000 in
set_option maxHeartbeats 1000000 in
/-- A quote that is cut off. -/
theorem token_quote_cut (s : ByteArray) (w : World) (hs : s.size ≤ 1048576) (h0 : 0 < s.size) (c : Nat) (hc : (s[0]'h0).toNat = c) (hl : letterN c = false) (h96 : ((c : Int) == 96) = false) (h34 : ((c : Int) == 34) = true) (hq : quotedL s.data.toList = 0) :
    Calls Tryd.prog 21 #[.string s] w fun e w' => e = .returned (tokV 0 [] (-1)) ∧ Below w.heap.size w w' := by
  have hc256 : c < 256 := by rw [← hc]; exact UInt8.toNat_lt _
  have hemp := not_empty h0
  have cl := fun W => letter_any (c : Int) W (by omega)
  rw [Int.toNat_natCast, hl] at cl
  have hbel : Below w.heap.size w (w.alloc (.cells #[.int .i64 0, .string ⟨#[]⟩, .int .i64 0] 33)) := (Below.refl _ _).alloc (Nat.le_refl _) _
  have cQ := fun W => quoted_any s W (by omega)
  rw [hq] at cQ
  clear hl hq
  go_enter Tryd.func21, Tryd.ntmps21
  go_wp2_with (first | (go_at_call 28; refine (cl _).mono ?_; rintro e w' ⟨rfl, rfl⟩) | (go_at_call 34; refine (cQ _).mono ?_; rintro e w' ⟨rfl, rfl⟩))
  refine bodyPost_ret (v := .tuple #[.agg #[.int .i64 0, .string ⟨#[]⟩, .int .i64 0], .int .i64 (-1)]) (by simp [results, Tryd.results21, go_sem]) rfl ⟨rfl, ?_⟩
  exact hbel

set_option maxRecDepth 100000 in
set_option maxHeartbeats 1000000 in
/-- A quote that says nothing. -/
theorem token_quote_bad (s : ByteArray) (w : World) (hs : s.size ≤ 1048576) (h0 : 0 < s.size) (c : Nat) (hc : (s[0]'h0).toNat = c) (hl : letterN c = false) (h96 : ((c : Int) == 96) = false) (h34 : ((c : Int) == 34) = true) (Q : Nat) (hq : quotedL s.data.toList = Q) (hQ : 2 ≤ Q) (hQ2 : Q ≤ s.size) (hu : unquoteL ((s.data.toList.drop 1).take (Q - 2)) = none) :
    Calls Tryd.prog 21 #[.string s] w fun e w' => e = .returned (tokV 0 [] (-1)) ∧ Below w.heap.size w w' := by
  have hc256 : c < 256 := by rw [← hc]; exact UInt8.toNat_lt _
  have hemp := not_empty h0
  have cl := fun W => letter_any (c : Int) W (by omega)
  rw [Int.toNat_natCast, hl] at cl
  have hbel : Below w.heap.size w (w.alloc (.cells #[.int .i64 0, .string ⟨#[]⟩, .int .i64 0] 33)) := (Below.refl _ _).alloc (Nat.le_refl _) _
  have cQ := fun W => quoted_any s W (by omega)
  rw [hq] at cQ
  have hsl : ∀ W, (Instr.slice 9 (.string s) (some (.int .i64 1)) (some (.int .i64 ((Q : Int) - 1))) none).run Tryd.prog W = .ok (.string (bs ((s.data.toList.drop 1).take (Q - 2)))) W := fun W => by
    rw [run_slice_string W 9 s .i64 .i64 1 ((Q : Int) - 1) Tryd.underlying9 (by omega) (by omega) (by omega), bs_extract]
    have e1 : (1 : Int).toNat = 1 := rfl
    have e2 : ((Q : Int) - 1).toNat = Q - 1 := by omega
    rw [e1, e2, Nat.sub_sub]
  have cU := fun W => unquote_none (bs ((s.data.toList.drop 1).take (Q - 2))) W (by rw [bs_size]; refine Nat.le_trans (List.length_take_le' _ _) ?_; rw [List.length_drop, ← Lib.size_eq]; omega) (by rw [bs_list]; exact hu)
  obtain ⟨S1, hS1⟩ : ∃ S1, bs ((s.data.toList.drop 1).take (Q - 2)) = S1 := ⟨_, rfl⟩
  rw [hS1] at hsl cU
  have hz : ((Q : Int) == 0) = false := by simp; omega
  clear hS1 hl hq hu
  go_enter Tryd.func21, Tryd.ntmps21
  go_wp2_with (first | (go_at_call 28; refine (cl _).mono ?_; rintro e w' ⟨rfl, rfl⟩) | (go_at_call 34; refine (cQ _).mono ?_; rintro e w' ⟨rfl, rfl⟩) | (go_at_call 35; refine (cU _).mono ?_; rintro e w1 ⟨rfl, hb1⟩; obtain ⟨⟨k0, k1, k2⟩, q0, q1, q2⟩ := three_cells hb1))
  refine bodyPost_ret (v := .tuple #[.agg #[.int .i64 0, .string ⟨#[]⟩, .int .i64 0], .int .i64 (-1)]) (by simp [results, Tryd.results21, go_sem, k0, k1, k2, q0, q1, q2]) rfl ⟨rfl, ?_⟩
  exact (((hbel.trans (hb1.mono (by simp))).setCell (by simp) _).setCell (by simp) _).setCell (by simp) _

set_option maxRecDepth 100000 in
set_option maxHeartbeats 1000000 in
/-- A text in quotes. -/
theorem token_quote (s : ByteArray) (w : World) (hs : s.size ≤ 1048576) (h0 : 0 < s.size) (c : Nat) (hc : (s[0]'h0).toNat = c) (hl : letterN c = false) (h96 : ((c : Int) == 96) = false) (h34 : ((c : Int) == 34) = true) (Q : Nat) (hq : quotedL s.data.toList = Q) (hQ : 2 ≤ Q) (hQ2 : Q ≤ s.size) (u : List UInt8) (hu : unquoteL ((s.data.toList.drop 1).take (Q - 2)) = some u) :
    Calls Tryd.prog 21 #[.string s] w fun e w' => e = .returned (tokV 2 u Q) ∧ Below w.heap.size w w' := by
  have hc256 : c < 256 := by rw [← hc]; exact UInt8.toNat_lt _
  have hemp := not_empty h0
  have cl := fun W => letter_any (c : Int) W (by omega)
  rw [Int.toNat_natCast, hl] at cl
  have hbel : Below w.heap.size w (w.alloc (.cells #[.int .i64 0, .string ⟨#[]⟩, .int .i64 0] 33)) := (Below.refl _ _).alloc (Nat.le_refl _) _
  have cQ := fun W => quoted_any s W (by omega)
  rw [hq] at cQ
  have hsl : ∀ W, (Instr.slice 9 (.string s) (some (.int .i64 1)) (some (.int .i64 ((Q : Int) - 1))) none).run Tryd.prog W = .ok (.string (bs ((s.data.toList.drop 1).take (Q - 2)))) W := fun W => by
    rw [run_slice_string W 9 s .i64 .i64 1 ((Q : Int) - 1) Tryd.underlying9 (by omega) (by omega) (by omega), bs_extract]
    have e1 : (1 : Int).toNat = 1 := rfl
    have e2 : ((Q : Int) - 1).toNat = Q - 1 := by omega
    rw [e1, e2, Nat.sub_sub]
  have cU := fun W => unquote_some (bs ((s.data.toList.drop 1).take (Q - 2))) W (by rw [bs_size]; refine Nat.le_trans (List.length_take_le' _ _) ?_; rw [List.length_drop, ← Lib.size_eq]; omega) u (by rw [bs_list]; exact hu)
  obtain ⟨S1, hS1⟩ : ∃ S1, bs ((s.data.toList.drop 1).take (Q - 2)) = S1 := ⟨_, rfl⟩
  rw [hS1] at hsl cU
  have hz : ((Q : Int) == 0) = false := by simp; omega
  clear hS1 hl hq hu
  unfold tokV
  obtain ⟨T, hT⟩ : ∃ T, bs u = T := ⟨_, rfl⟩
  rw [hT] at cU ⊢
  clear hT
  go_enter Tryd.func21, Tryd.ntmps21
  go_wp2_with (first | (go_at_call 28; refine (cl _).mono ?_; rintro e w' ⟨rfl, rfl⟩) | (go_at_call 34; refine (cQ _).mono ?_; rintro e w' ⟨rfl, rfl⟩) | (go_at_call 35; refine (cU _).mono ?_; rintro e w1 ⟨rfl, hb1⟩; obtain ⟨⟨k0, k1, k2⟩, q0, q1, q2⟩ := three_cells hb1))
  refine bodyPost_ret (v := .tuple #[.agg #[.int .i64 2, .string T, .int .i64 0], .int .i64 Q]) (by simp [results, Tryd.results21, go_sem, k0, k1, k2, q0, q1, q2]) rfl ⟨rfl, ?_⟩
  exact (((hbel.trans (hb1.mono (by simp))).setCell (by simp) _).setCell (by simp) _).setCell (by simp) _

set_option maxRecDepth 100000 in
set_option maxHeartbeats 1000000 in
/-- A comment of two slashes. -/
theorem token_line (s : ByteArray) (w : World) (hs : s.size ≤ 1048576) (m : Int) (hm : w.cell? ⟨2, 0, none⟩ = some (.int .i64 m)) (h0 : 0 < s.size) (c : Nat) (hc : (s[0]'h0).toNat = c) (hl : letterN c = false) (h96 : ((c : Int) == 96) = false) (h34 : ((c : Int) == 34) = false) (hp1 : Lib.hasPrefix s.data.toList [47, 47] = true) (a b : List UInt8) (f : Bool) (hcut : Lib.cut s.data.toList [10] = (a, b, f)) (hal : a.length ≤ s.size) :
    Calls Tryd.prog 21 #[.string s] w fun e w' => e = .returned (tokV 4 (Lib.trimSuffix a [13]) a.length) ∧ Below w.heap.size w w' := by
  have hc256 : c < 256 := by rw [← hc]; exact UInt8.toNat_lt _
  have hemp := not_empty h0
  have cl := fun W => letter_any (c : Int) W (by omega)
  rw [Int.toNat_natCast, hl] at cl
  have hbel : Below w.heap.size w (w.alloc (.cells #[.int .i64 0, .string ⟨#[]⟩, .int .i64 0] 33)) := (Below.refl _ _).alloc (Nat.le_refl _) _
  have cH1 := fun W => Tryd.strings_HasPrefix s ⟨#[47, 47]⟩ W
  have e1 : Lib.hasPrefix s.data.toList (⟨#[47, 47]⟩ : ByteArray).data.toList = true := hp1
  rw [e1] at cH1
  clear e1
  have cC := fun W (hW : Below w.heap.size w W) => cut_any s ⟨#[10]⟩ W hs m (maxLen_later hm hW) a b f hcut
  have cT := fun W => Tryd.strings_TrimSuffix (bs a) ⟨#[13]⟩ W (by rw [bs_size]; omega)
  rw [bs_list] at cT
  obtain ⟨T, hT⟩ : ∃ T, bs (Lib.trimSuffix a [13]) = T := ⟨_, rfl⟩
  have hT' : (⟨(Lib.trimSuffix a (⟨#[13]⟩ : ByteArray).data.toList).toArray⟩ : ByteArray) = T := hT
  rw [hT'] at cT
  have hA : (bs a).size = a.length := bs_size a
  obtain ⟨A, hA'⟩ : ∃ A, bs a = A := ⟨_, rfl⟩
  rw [hA'] at cT hA cC
  unfold tokV
  rw [hT, ← hA]
  have hal2 : A.size ≤ s.size := by omega
  clear hT hT' hA' hl hA hcut hal hp1
  go_enter Tryd.func21, Tryd.ntmps21
  go_wp2_with (first | (go_at_call 28; refine (cl _).mono ?_; rintro e w' ⟨rfl, rfl⟩) | (go_at_call 36; refine (cH1 _).mono ?_; rintro e w' ⟨rfl, rfl⟩) | (go_at_call 32; refine (cC _ hbel).mono ?_; rintro e w1 ⟨rfl, hb1⟩; obtain ⟨⟨k0, k1, k2⟩, q0, q1, q2⟩ := three_cells hb1) | (go_at_call 37; refine (cT _).mono ?_; rintro e w' ⟨rfl, hw'⟩; obtain rfl := hw'.symm))
  refine bodyPost_ret (v := .tuple #[.agg #[.int .i64 4, .string T, .int .i64 0], .int .i64 A.size]) (by simp [results, Tryd.results21, go_sem, k0, k1, k2, q0, q1, q2]) rfl ⟨rfl, ?_⟩
  exact (((hbel.trans (hb1.mono (by simp))).setCell (by simp) _).setCell (by simp) _).setCell (by simp) _

set_option maxRecDepth 100000 in
set_option maxHeartbeats 1000000 in
/-- A comment with no end. -/
theorem token_block_none (s : ByteArray) (w : World) (hs : s.size ≤ 1048576) (m : Int) (hm : w.cell? ⟨2, 0, none⟩ = some (.int .i64 m)) (h0 : 0 < s.size) (c : Nat) (hc : (s[0]'h0).toNat = c) (hl : letterN c = false) (h96 : ((c : Int) == 96) = false) (h34 : ((c : Int) == 34) = false) (hp1 : Lib.hasPrefix s.data.toList [47, 47] = false) (hp2 : Lib.hasPrefix s.data.toList [47, 42] = true) (a b : List UInt8) (hcut : Lib.cut (s.data.toList.drop 2) [42, 47] = (a, b, false)) :
    Calls Tryd.prog 21 #[.string s] w fun e w' => e = .returned (tokV 0 [] (-1)) ∧ Below w.heap.size w w' := by
  have hc256 : c < 256 := by rw [← hc]; exact UInt8.toNat_lt _
  have hemp := not_empty h0
  have cl := fun W => letter_any (c : Int) W (by omega)
  rw [Int.toNat_natCast, hl] at cl
  have hbel : Below w.heap.size w (w.alloc (.cells #[.int .i64 0, .string ⟨#[]⟩, .int .i64 0] 33)) := (Below.refl _ _).alloc (Nat.le_refl _) _
  have cH1 := fun W => Tryd.strings_HasPrefix s ⟨#[47, 47]⟩ W
  have e1 : Lib.hasPrefix s.data.toList (⟨#[47, 47]⟩ : ByteArray).data.toList = false := hp1
  rw [e1] at cH1
  clear e1
  have cH2 := fun W => Tryd.strings_HasPrefix s ⟨#[47, 42]⟩ W
  have e2 : Lib.hasPrefix s.data.toList (⟨#[47, 42]⟩ : ByteArray).data.toList = true := hp2
  rw [e2] at cH2
  clear e2
  have hsz : 2 ≤ s.size := hasPrefix_two hp2
  have hsl : ∀ W, (Instr.slice 9 (.string s) (some (.int .i64 2)) none none).run Tryd.prog W = .ok (.string (bs (s.data.toList.drop 2))) W := sl_l s 2 (by omega)
  have cC := fun W (hW : Below w.heap.size w W) => cut_any (bs (s.data.toList.drop 2)) ⟨#[42, 47]⟩ W (by rw [bs_size, List.length_drop, ← Lib.size_eq]; omega) m (maxLen_later hm hW) a b false (by rw [bs_list]; exact hcut)
  obtain ⟨S1, hS1⟩ : ∃ S1, bs (s.data.toList.drop 2) = S1 := ⟨_, rfl⟩
  rw [hS1] at hsl cC
  clear hS1 hl hcut hp1 hp2
  go_enter Tryd.func21, Tryd.ntmps21
  go_wp2_with (first | (go_at_call 28; refine (cl _).mono ?_; rintro e w' ⟨rfl, rfl⟩) | (go_at_call 36; first | (refine (cH1 _).mono ?_; rintro e w' ⟨rfl, rfl⟩) | (refine (cH2 _).mono ?_; rintro e w' ⟨rfl, rfl⟩)) | (go_at_call 32; refine (cC _ hbel).mono ?_; rintro e w1 ⟨rfl, hb1⟩; obtain ⟨⟨k0, k1, k2⟩, q0, q1, q2⟩ := three_cells hb1))
  refine bodyPost_ret (v := .tuple #[.agg #[.int .i64 0, .string ⟨#[]⟩, .int .i64 0], .int .i64 (-1)]) (by simp [results, Tryd.results21, go_sem, k0, k1, k2, q0, q1, q2]) rfl ⟨rfl, ?_⟩
  exact (((hbel.trans (hb1.mono (by simp))).setCell (by simp) _).setCell (by simp) _).setCell (by simp) _

set_option maxRecDepth 100000 in
set_option maxHeartbeats 1000000 in
/-- A comment with an end. -/
theorem token_block (s : ByteArray) (w : World) (hs : s.size ≤ 1048576) (m : Int) (hm : w.cell? ⟨2, 0, none⟩ = some (.int .i64 m)) (h0 : 0 < s.size) (c : Nat) (hc : (s[0]'h0).toNat = c) (hl : letterN c = false) (h96 : ((c : Int) == 96) = false) (h34 : ((c : Int) == 34) = false) (hp1 : Lib.hasPrefix s.data.toList [47, 47] = false) (hp2 : Lib.hasPrefix s.data.toList [47, 42] = true) (a b : List UInt8) (hcut : Lib.cut (s.data.toList.drop 2) [42, 47] = (a, b, true)) (hal : a.length + 4 ≤ s.size) :
    Calls Tryd.prog 21 #[.string s] w fun e w' => e = .returned (tokV 4 (s.data.toList.take (a.length + 4)) (a.length + 4 : Int)) ∧ Below w.heap.size w w' := by
  have hc256 : c < 256 := by rw [← hc]; exact UInt8.toNat_lt _
  have hemp := not_empty h0
  have cl := fun W => letter_any (c : Int) W (by omega)
  rw [Int.toNat_natCast, hl] at cl
  have hbel : Below w.heap.size w (w.alloc (.cells #[.int .i64 0, .string ⟨#[]⟩, .int .i64 0] 33)) := (Below.refl _ _).alloc (Nat.le_refl _) _
  have cH1 := fun W => Tryd.strings_HasPrefix s ⟨#[47, 47]⟩ W
  have e1 : Lib.hasPrefix s.data.toList (⟨#[47, 47]⟩ : ByteArray).data.toList = false := hp1
  rw [e1] at cH1
  clear e1
  have cH2 := fun W => Tryd.strings_HasPrefix s ⟨#[47, 42]⟩ W
  have e2 : Lib.hasPrefix s.data.toList (⟨#[47, 42]⟩ : ByteArray).data.toList = true := hp2
  rw [e2] at cH2
  clear e2
  have hsz : 2 ≤ s.size := hasPrefix_two hp2
  have hsl : ∀ W, (Instr.slice 9 (.string s) (some (.int .i64 2)) none none).run Tryd.prog W = .ok (.string (bs (s.data.toList.drop 2))) W := sl_l s 2 (by omega)
  have cC := fun W (hW : Below w.heap.size w W) => cut_any (bs (s.data.toList.drop 2)) ⟨#[42, 47]⟩ W (by rw [bs_size, List.length_drop, ← Lib.size_eq]; omega) m (maxLen_later hm hW) a b true (by rw [bs_list]; exact hcut)
  obtain ⟨S1, hS1⟩ : ∃ S1, bs (s.data.toList.drop 2) = S1 := ⟨_, rfl⟩
  rw [hS1] at hsl cC
  have hsl4 : ∀ W, (Instr.slice 9 (.string s) none (some (.int .i64 ((a.length : Int) + 4))) none).run Tryd.prog W = .ok (.string (bs (s.data.toList.take (a.length + 4)))) W := sl_h s (a.length + 4) hal
  have hA : (bs a).size = a.length := bs_size a
  obtain ⟨A, hA'⟩ : ∃ A, bs a = A := ⟨_, rfl⟩
  rw [hA'] at hA cC
  obtain ⟨T, hT⟩ : ∃ T, bs (s.data.toList.take (a.length + 4)) = T := ⟨_, rfl⟩
  unfold tokV
  rw [hT] at hsl4 ⊢
  rw [← hA] at hsl4 ⊢
  have hal2 : A.size + 4 ≤ s.size := by omega
  clear hS1 hl hcut hp1 hp2 hT hA hA' hal
  go_enter Tryd.func21, Tryd.ntmps21
  go_wp2_with (first | (go_at_call 28; refine (cl _).mono ?_; rintro e w' ⟨rfl, rfl⟩) | (go_at_call 36; first | (refine (cH1 _).mono ?_; rintro e w' ⟨rfl, rfl⟩) | (refine (cH2 _).mono ?_; rintro e w' ⟨rfl, rfl⟩)) | (go_at_call 32; refine (cC _ hbel).mono ?_; rintro e w1 ⟨rfl, hb1⟩; obtain ⟨⟨k0, k1, k2⟩, q0, q1, q2⟩ := three_cells hb1))
  refine bodyPost_ret (v := .tuple #[.agg #[.int .i64 4, .string T, .int .i64 0], .int .i64 (A.size + 4)]) (by simp [results, Tryd.results21, go_sem, k0, k1, k2, q0, q1, q2]) rfl ⟨rfl, ?_⟩
  exact (((hbel.trans (hb1.mono (by simp))).setCell (by simp) _).setCell (by simp) _).setCell (by simp) _

set_option maxRecDepth 100000 in
set_option maxHeartbeats 1000000 in
/-- A sign. -/
theorem token_sign (s : ByteArray) (w : World) (hs : s.size ≤ 1048576) (h0 : 0 < s.size) (c : Nat) (hc : (s[0]'h0).toNat = c) (hl : letterN c = false) (h96 : ((c : Int) == 96) = false) (h34 : ((c : Int) == 34) = false) (hp1 : Lib.hasPrefix s.data.toList [47, 47] = false) (hp2 : Lib.hasPrefix s.data.toList [47, 42] = false) :
    Calls Tryd.prog 21 #[.string s] w fun e w' => e = .returned (tokV 3 (s.data.toList.take 1) 1) ∧ Below w.heap.size w w' := by
  have hc256 : c < 256 := by rw [← hc]; exact UInt8.toNat_lt _
  have hemp := not_empty h0
  have cl := fun W => letter_any (c : Int) W (by omega)
  rw [Int.toNat_natCast, hl] at cl
  have hbel : Below w.heap.size w (w.alloc (.cells #[.int .i64 0, .string ⟨#[]⟩, .int .i64 0] 33)) := (Below.refl _ _).alloc (Nat.le_refl _) _
  have cH1 := fun W => Tryd.strings_HasPrefix s ⟨#[47, 47]⟩ W
  have e1 : Lib.hasPrefix s.data.toList (⟨#[47, 47]⟩ : ByteArray).data.toList = false := hp1
  rw [e1] at cH1
  clear e1
  have cH2 := fun W => Tryd.strings_HasPrefix s ⟨#[47, 42]⟩ W
  have e2 : Lib.hasPrefix s.data.toList (⟨#[47, 42]⟩ : ByteArray).data.toList = false := hp2
  rw [e2] at cH2
  clear e2
  have hsl : ∀ W, (Instr.slice 9 (.string s) none (some (.int .i64 1)) none).run Tryd.prog W = .ok (.string (bs (s.data.toList.take 1))) W := sl_h s 1 (by omega)
  obtain ⟨T, hT⟩ : ∃ T, bs (s.data.toList.take 1) = T := ⟨_, rfl⟩
  unfold tokV
  rw [hT] at hsl ⊢
  clear hl hp1 hp2 hT
  go_enter Tryd.func21, Tryd.ntmps21
  go_wp2_with (first | (go_at_call 28; refine (cl _).mono ?_; rintro e w' ⟨rfl, rfl⟩) | (go_at_call 36; first | (refine (cH1 _).mono ?_; rintro e w' ⟨rfl, rfl⟩) | (refine (cH2 _).mono ?_; rintro e w' ⟨rfl, rfl⟩)))
  refine bodyPost_ret (v := .tuple #[.agg #[.int .i64 3, .string T, .int .i64 0], .int .i64 1]) (by simp [results, Tryd.results21, go_sem]) rfl ⟨rfl, ?_⟩
  exact (Below.refl _ _).alloc (Nat.le_refl _) _
end Go.Proofs.YtkcjembmdiaclaaDoor
