/- The walk of the program's value: a number of so many digits to a base. -/
import Derived.Test.YtkcjembmdiaclaaDoorD
import Derived.Lib.ConvBytes
namespace Go.Proofs.YtkcjembmdiaclaaDoor
open Go.RowKit Go.Lib
set_option linter.unusedVariables false
set_option linter.unusedSimpArgs false

def hexs : List UInt8 := [48, 49, 50, 51, 52, 53, 54, 55, 56, 57, 97, 98, 99, 100, 101, 102]
def hexIx (c : Nat) : Int := Lib.indexByte hexs (Go.bits .or .u8 (c : Int) 32).toNat.toUInt8
def dvN (c : Nat) : Int := if c ≤ 57 then (c : Int) - 48 else hexIx c
set_option maxRecDepth 100000 in
theorem hexIx_table : ∀ c : Fin 256, hexIx c.val = if 48 ≤ c.val ∧ c.val ≤ 57 then (c.val : Int) - 48 else if 16 ≤ c.val ∧ c.val ≤ 25 then (c.val : Int) - 16 else if 97 ≤ c.val ∧ c.val ≤ 102 then (c.val : Int) - 87 else if 65 ≤ c.val ∧ c.val ≤ 70 then (c.val : Int) - 55 else -1 := by decide +kernel
theorem hexIx_bd (c : Nat) (h : c < 256) : -1 ≤ hexIx c ∧ hexIx c ≤ 15 := by
  have := hexIx_table ⟨c, h⟩
  simp only at this
  rw [this]
  split
  · omega
  · split
    · omega
    · split
      · omega
      · split <;> omega

def vFrom (base : Int) : List UInt8 → Int → Option Int
  | [], n => some n
  | c :: r, n => if dvN c.toNat < 0 ∨ base ≤ dvN c.toNat ∨ c.toNat < 48 ∨ 67108864 ≤ n then none else vFrom base r (n * base + dvN c.toNat)
def valueL (l : List UInt8) (many : Nat) (base : Int) : Option Int := if l.length < many then none else vFrom base (l.take many) 0
/-- What the call hands back. -/
def vRet (r : Option Int) : Value := match r with | some n => .tuple #[.int .i32 n, .bool true] | none => .tuple #[.int .i32 0, .bool false]

set_option maxRecDepth 100000 in
set_option maxHeartbeats 1000000 in
theorem value_any (s : ByteArray) (many : Nat) (base : Int) (w : World) (hs : s.size ≤ 4611686018427387904) (hm : many ≤ 8) (hb0 : 8 ≤ base) (hb1 : base ≤ 16) :
    Calls Tryd.prog 58 #[.string s, .int .i64 many, .int .i32 base] w fun e w' => e = .returned (vRet (valueL s.data.toList many base)) ∧ Below w.heap.size w w' := by
  obtain ⟨V, hV⟩ : ∃ V, valueL s.data.toList many base = V := ⟨_, rfl⟩
  rw [hV]
  by_cases hlt : s.size < many
  · have hn : V = none := by rw [← hV]; unfold valueL; rw [if_pos (by rw [Array.length_toList]; exact hlt)]
    subst hn
    clear hV
    go_enter Tryd.func58, Tryd.ntmps58
    go_wp2
    go_ret2
    exact ⟨rfl, Below.refl _ _⟩
  · have hl : many ≤ s.size := by omega
    have hv : vFrom base (s.data.toList.take many) 0 = V := by rw [← hV]; unfold valueL; rw [if_neg (by rw [Array.length_toList]; exact hlt)]
    have HV := Lib.hid hv
    clear hV hv
    obtain ⟨l, hL⟩ : ∃ l, s.data.toList.take many = l := ⟨_, rfl⟩
    have hsl := sl_h s many hl
    rw [hL] at HV hsl
    have hts : (bs l).size = many := by rw [bs_size, ← hL, List.length_take, ← Lib.size_eq]; omega
    have hcv := Lib.run_convert_string_bytes (P := Tryd.prog) w 9 77 5 (bs l) (u := .string) Tryd.underlying9 Tryd.underlying77 Tryd.underlying5
    have hB : ∀ j, j < (bs l).size → (Lib.bytesWorld w 5 (bs l)).cell? ⟨w.heap.size, j, none⟩ = some (.int .u8 ((bs l).data.toList.getD j 0).toNat) := fun j hj => Lib.bytesWorld_cell w 5 (bs l) j hj
    have hbel : Below w.heap.size w (Lib.bytesWorld w 5 (bs l)) := ⟨rfl, rfl, rfl, by rw [Lib.bytesWorld_size]; omega, fun k hk => Lib.bytesWorld_at_old w 5 (bs l) k hk⟩
    obtain ⟨W1, hW1⟩ : ∃ W1, W1 = Lib.bytesWorld w 5 (bs l) := ⟨_, rfl⟩
    rw [← hW1] at hcv hB hbel
    clear hW1
    rw [hts] at hcv hB
    rw [bs_list] at hB
    have hLn : many = l.length := by rw [← hts, bs_size]
    have HLn := Lib.hid hLn
    clear hL hts hLn
    have hltb : decide (s.size < many) = false := decide_eq_false hlt
    clear hlt
    go_enter Tryd.func58, Tryd.ntmps58
    go_wp2
    go_loopg [8, 21] many (fun gf vn vi wx => ∃ (k : Nat) (n : Int), vn = .int .i32 n ∧ vi = .int .i64 k ∧ Hid (wx = W1) ∧ k ≤ many ∧ 0 ≤ n ∧ n ≤ 1073741839 ∧ Hid (vFrom base (l.drop k) n = V) ∧ many ≤ k + gf)
    case atStart => exact ⟨0, 0, rfl, rfl, rfl, by omega, by omega, by omega, HV, by omega⟩
    case round =>
      obtain ⟨k, n, rfl, rfl, hw1, hk, hn0, hn1, HK, hfu⟩ := hrel
      obtain rfl := hw1.out
      clear hw1
      by_cases hkn : k < many
      · obtain ⟨g', rfl⟩ : ∃ g', gk = g' + 1 := ⟨gk - 1, by omega⟩
        have hkl : k < l.length := by have := HLn.out; omega
        have hc := hB k hkn
        have hv := HK.out
        rw [List.drop_eq_getElem_cons hkl] at hv
        have hget : l.getD k 0 = l[k]'hkl := by simp [List.getD, List.getElem?_eq_getElem hkl]
        rw [hget] at hc
        generalize l[k]'hkl = c at hv hc
        simp only [vFrom] at hv
        have HC := Lib.hid hv
        clear hv HK hB hget hkl HV hsl hcv
        obtain ⟨C, hC⟩ : ∃ C : Nat, c.toNat = C := ⟨_, rfl⟩
        have hc256 : C < 256 := by rw [← hC]; exact c.toNat_lt
        rw [hC] at hc HC
        clear hC
        have hx := hexIx_bd C hc256
        obtain ⟨X, hX⟩ : ∃ X, hexIx C = X := ⟨_, rfl⟩
        have cI := fun w => hexDigit_any (bs hexs) (Go.bits .or .u8 (C : Int) 32) w
        rw [bs_list] at cI
        have e1 : Lib.indexByte hexs (Go.bits .or .u8 (C : Int) 32).toNat.toUInt8 = X := hX
        rw [e1] at cI
        have HX := Lib.hid hX
        rw [hX] at hx
        clear hX e1
        obtain ⟨hx0, hx1⟩ := hx
        have hmul : (8 ≤ base) := hb0
        have hp : 0 ≤ n * base := Int.mul_nonneg hn0 (by omega)
        by_cases hbig : 67108864 ≤ n
        · have hnone : V = none := by rw [← HC.out, if_pos (Or.inr (Or.inr (Or.inr hbig)))]
          subst hnone
          by_cases h57 : (C : Int) ≤ 57
          all_goals
            go_wp2_with (go_at_call 57; refine (cI _).mono ?_; rintro e w' ⟨rfl, rfl⟩)
            all_goals (go_ret2; exact ⟨rfl, hbel⟩)
        · have hp2 : n * base ≤ 67108863 * 16 := Int.mul_le_mul (by omega) hb1 (by omega) (by omega)
          obtain ⟨d, hd⟩ : ∃ d, dvN C = d := ⟨_, rfl⟩
          rw [hd] at HC
          by_cases h57 : (C : Int) ≤ 57
          · have hd' : (C : Int) - 48 = d := by rw [← hd]; unfold dvN; rw [if_pos (by omega)]
            clear hd
            obtain rfl := hd'
            by_cases h48 : 48 ≤ (C : Int)
            · by_cases hbs : base ≤ (C : Int) - 48
              · have hnone : V = none := by rw [← HC.out, if_pos (Or.inr (Or.inl hbs))]
                subst hnone
                go_wp2_with (go_at_call 57; refine (cI _).mono ?_; rintro e w' ⟨rfl, rfl⟩)
                go_ret2
                exact ⟨rfl, hbel⟩
              · have hsome : vFrom base (l.drop (k + 1)) (n * base + ((C : Int) - 48)) = V := by
                  have h := HC.out
                  rw [if_neg (by omega)] at h
                  exact h
                have HS := Lib.hid hsome
                clear hsome HC
                go_wp2_with (go_at_call 57; refine (cI _).mono ?_; rintro e w' ⟨rfl, rfl⟩)
                go_roundg g'
                case measure => omega
                case rel => exact ⟨k + 1, n * base + ((C : Int) - 48), rfl, by go_num, rfl, by omega, by omega, by omega, HS, by omega⟩
            · have hnone : V = none := by rw [← HC.out, if_pos (Or.inl (by omega))]
              subst hnone
              go_wp2_with (go_at_call 57; refine (cI _).mono ?_; rintro e w' ⟨rfl, rfl⟩)
              go_ret2
              exact ⟨rfl, hbel⟩
          · have hd' : X = d := by rw [← hd, ← HX.out]; unfold dvN; rw [if_neg (by omega)]
            clear hd
            obtain rfl := hd'
            clear HX
            by_cases hx00 : X < 0
            · have hnone : V = none := by rw [← HC.out, if_pos (Or.inl hx00)]
              subst hnone
              go_wp2_with (go_at_call 57; refine (cI _).mono ?_; rintro e w' ⟨rfl, rfl⟩)
              go_ret2
              exact ⟨rfl, hbel⟩
            · by_cases hbs : base ≤ X
              · have hnone : V = none := by rw [← HC.out, if_pos (Or.inr (Or.inl hbs))]
                subst hnone
                go_wp2_with (go_at_call 57; refine (cI _).mono ?_; rintro e w' ⟨rfl, rfl⟩)
                go_ret2
                exact ⟨rfl, hbel⟩
              · have hsome : vFrom base (l.drop (k + 1)) (n * base + X) = V := by
                  have h := HC.out
                  rw [if_neg (by omega)] at h
                  exact h
                have HS := Lib.hid hsome
                clear hsome HC
                go_wp2_with (go_at_call 57; refine (cI _).mono ?_; rintro e w' ⟨rfl, rfl⟩)
                go_roundg g'
                case measure => omega
                case rel => exact ⟨k + 1, n * base + X, rfl, by go_num, rfl, by omega, by omega, by omega, HS, by omega⟩
      · have hv := HK.out
        have hkl : ¬ k < l.length := by have := HLn.out; omega
        rw [List.drop_of_length_le (by omega)] at hv
        simp only [vFrom] at hv
        obtain rfl := hv
        clear HK HV hsl hcv hB
        go_wp2
        go_ret2
        exact ⟨rfl, hbel⟩
theorem value_some (s : ByteArray) (many : Nat) (base : Int) (w : World) (hs : s.size ≤ 4611686018427387904) (hm : many ≤ 8) (hb0 : 8 ≤ base) (hb1 : base ≤ 16) (n : Int) (hv : valueL s.data.toList many base = some n) :
    Calls Tryd.prog 58 #[.string s, .int .i64 many, .int .i32 base] w fun e w' => e = .returned (.tuple #[.int .i32 n, .bool true]) ∧ Below w.heap.size w w' := by
  have h := value_any s many base w hs hm hb0 hb1
  rw [hv] at h
  exact h
theorem value_none (s : ByteArray) (many : Nat) (base : Int) (w : World) (hs : s.size ≤ 4611686018427387904) (hm : many ≤ 8) (hb0 : 8 ≤ base) (hb1 : base ≤ 16) (hv : valueL s.data.toList many base = none) :
    Calls Tryd.prog 58 #[.string s, .int .i64 many, .int .i32 base] w fun e w' => e = .returned (.tuple #[.int .i32 0, .bool false]) ∧ Below w.heap.size w w' := by
  have h := value_any s many base w hs hm hb0 hb1
  rw [hv] at h
  exact h
end Go.Proofs.YtkcjembmdiaclaaDoor
