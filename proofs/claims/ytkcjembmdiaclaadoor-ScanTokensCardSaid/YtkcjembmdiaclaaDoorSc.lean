/- The walk of the document's utf8. (Lines alike written by genutf.py.) -/
import Derived.Test.YtkcjembmdiaclaaDoorSb
namespace Go.Proofs.YtkcjembmdiaclaaDoor
open Go.RowKit Go.Lib Go.Maps
set_option linter.unusedVariables false
set_option linter.unusedSimpArgs false

/-- A string made of a row of bytes. -/
theorem row_bytes (l : List UInt8) (n : Nat) (hn : n = l.length) (cs : Array Value) (hc : cs.toList = l.map fun b => Value.int .u8 b.toNat) (W : World) : (convert 77 9 (.slice (some ⟨W.heap.size, 0, none⟩) n n)).run Tryd.prog (W.alloc (.cells cs 5)) = .ok (.string (bs l)) (W.alloc (.cells cs 5)) := by
  subst hn
  exact run_convert_bytes_back (P := Tryd.prog) (W.alloc (.cells cs 5)) 77 9 5 ⟨W.heap.size, 0, none⟩ l.length l Tryd.underlying77 Tryd.underlying5 Tryd.underlying9 (fun j hj => by
    have e : cs[j]? = (l.map fun b => Value.int .u8 b.toNat)[j]? := by rw [← hc]; simp
    rw [List.getElem?_map, List.getElem?_eq_getElem hj] at e
    have e2 : (W.alloc (.cells cs 5)).cell? ⟨W.heap.size, j, none⟩ = cs[j]? := by
      rw [Lib.cell_of_heap (heap_alloc_new W _)]
    have e3 : (⟨W.heap.size, 0, none⟩ : Addr).add j = ⟨W.heap.size, j, none⟩ := by simp [Addr.add]; intro h; exact h.symm
    rw [e3, e2, e]
    simp [List.getD_eq_getElem?_getD, List.getElem?_eq_getElem hj])
theorem u8_nat {k : Nat} (h : k < 256) : ((UInt8.ofNat k).toNat : Int) = k := by
  rw [UInt8.toNat_ofNat']
  omega
/-- What the document's utf8 says. -/
def utfL (r : Int) : List UInt8 := if r < 0 ∨ 1114111 < r ∨ (55296 ≤ r ∧ r < 57344) then [] else (Utf8.encode r).data.toList

set_option maxRecDepth 100000 in
theorem rutf8_neg (r : Int) (w : World) (h1 : r < 0) :
    Calls Tryd.prog 55 #[.int .i64 r] w fun e w' => e = .returned (.string (bs [])) ∧ Below w.heap.size w w' := by
  go_enter Tryd.func55, Tryd.ntmps55
  go_wp2
  go_ret
  exact ⟨rfl, Below.refl _ w⟩

set_option maxRecDepth 100000 in
theorem rutf8_big (r : Int) (w : World) (h1 : 1114111 < r) :
    Calls Tryd.prog 55 #[.int .i64 r] w fun e w' => e = .returned (.string (bs [])) ∧ Below w.heap.size w w' := by
  go_enter Tryd.func55, Tryd.ntmps55
  go_wp2
  go_ret
  exact ⟨rfl, Below.refl _ w⟩

set_option maxRecDepth 100000 in
theorem rutf8_mid (r : Int) (w : World) (h1 : 55296 ≤ r) (h2 : r < 57344) :
    Calls Tryd.prog 55 #[.int .i64 r] w fun e w' => e = .returned (.string (bs [])) ∧ Below w.heap.size w w' := by
  go_enter Tryd.func55, Tryd.ntmps55
  go_wp2
  go_ret
  exact ⟨rfl, Below.refl _ w⟩

set_option maxRecDepth 100000 in
set_option maxHeartbeats 4000000 in
theorem rutf8_1 (n : Nat) (w : World) (h1 : (0 : Int) ≤ (n : Int)) (h2 : (n : Int) < 128) :
    Calls Tryd.prog 55 #[.int .i64 n] w fun e w' => e = .returned (.string (bs (Utf8.encode n).data.toList)) ∧ Below w.heap.size w w' := by
  have he : (Utf8.encode (n : Int)).data.toList = [UInt8.ofNat (n)] := by
    unfold Utf8.encode
    have hv : Utf8.valid (n : Int) = true := by unfold Utf8.valid; simp; omega
    simp only [hv, if_true, Int.toNat_natCast]
    rw [if_pos (by omega)]
  rw [he]
  obtain ⟨l, hl⟩ : ∃ l, [UInt8.ofNat (n)] = l := ⟨_, rfl⟩
  have hm : (#[Value.int .u8 ((n : Int))] : Array Value).toList = l.map fun b => Value.int .u8 b.toNat := by
    rw [← hl]
    simp only [List.map_cons, List.map_nil]
    rw [u8_nat (k := n) (by omega)];
  have ob := fun W => row_bytes l 1 (by rw [← hl]; rfl) #[Value.int .u8 ((n : Int))] hm W
  rw [hl]
  obtain ⟨R, hR⟩ : ∃ R, bs l = R := ⟨_, rfl⟩
  rw [hR] at ob ⊢
  clear hl hm he hR
  have t0 : decide ((n : Int) < 0) = false := decide_eq_false (by omega)
  have t1 : decide ((1114111 : Int) < (n : Int)) = false := decide_eq_false (by omega)
  have t2 : decide ((55296 : Int) ≤ (n : Int)) = false := decide_eq_false (by omega)
  have t3 : decide ((n : Int) < 57344) = true := decide_eq_true (by omega)
  have t4 : decide ((n : Int) < 128) = true := decide_eq_true (by omega)
  have t5 : decide ((n : Int) < 2048) = true := decide_eq_true (by omega)
  have t6 : decide ((n : Int) < 65536) = true := decide_eq_true (by omega)
  have g0 : 0 ≤ (n : Int) ∧ (n : Int) ≤ 255 := by omega
  obtain ⟨ga0, gb0⟩ := g0
  clear h1 h2
  go_enter Tryd.func55, Tryd.ntmps55
  go_wp2
  go_ret
  exact ⟨rfl, (Below.refl _ w).alloc (Nat.le_refl _) _⟩

set_option maxRecDepth 100000 in
set_option maxHeartbeats 4000000 in
theorem rutf8_2 (n : Nat) (w : World) (h1 : (128 : Int) ≤ (n : Int)) (h2 : (n : Int) < 2048) :
    Calls Tryd.prog 55 #[.int .i64 n] w fun e w' => e = .returned (.string (bs (Utf8.encode n).data.toList)) ∧ Below w.heap.size w w' := by
  have he : (Utf8.encode (n : Int)).data.toList = [UInt8.ofNat (192 + n / 64), UInt8.ofNat (128 + n % 64)] := by
    unfold Utf8.encode
    have hv : Utf8.valid (n : Int) = true := by unfold Utf8.valid; simp; omega
    simp only [hv, if_true, Int.toNat_natCast]
    rw [if_neg (by omega), if_pos (by omega)]
  rw [he]
  obtain ⟨l, hl⟩ : ∃ l, [UInt8.ofNat (192 + n / 64), UInt8.ofNat (128 + n % 64)] = l := ⟨_, rfl⟩
  have hm : (#[Value.int .u8 (192 + (n : Int) / 64), Value.int .u8 (128 + (n : Int) % 64)] : Array Value).toList = l.map fun b => Value.int .u8 b.toNat := by
    rw [← hl]
    simp only [List.map_cons, List.map_nil]
    rw [u8_nat (k := 192 + n / 64) (by omega)]; rw [u8_nat (k := 128 + n % 64) (by omega)];
    simp
  have ob := fun W => row_bytes l 2 (by rw [← hl]; rfl) #[Value.int .u8 (192 + (n : Int) / 64), Value.int .u8 (128 + (n : Int) % 64)] hm W
  rw [hl]
  obtain ⟨R, hR⟩ : ∃ R, bs l = R := ⟨_, rfl⟩
  rw [hR] at ob ⊢
  clear hl hm he hR
  have t0 : decide ((n : Int) < 0) = false := decide_eq_false (by omega)
  have t1 : decide ((1114111 : Int) < (n : Int)) = false := decide_eq_false (by omega)
  have t2 : decide ((55296 : Int) ≤ (n : Int)) = false := decide_eq_false (by omega)
  have t3 : decide ((n : Int) < 57344) = true := decide_eq_true (by omega)
  have t4 : decide ((n : Int) < 128) = false := decide_eq_false (by omega)
  have t5 : decide ((n : Int) < 2048) = true := decide_eq_true (by omega)
  have t6 : decide ((n : Int) < 65536) = true := decide_eq_true (by omega)
  have g0 : 0 ≤ 192 + (n : Int) / 64 ∧ 192 + (n : Int) / 64 ≤ 255 := by omega
  obtain ⟨ga0, gb0⟩ := g0
  have g1 : 0 ≤ 128 + (n : Int) % 64 ∧ 128 + (n : Int) % 64 ≤ 255 := by omega
  obtain ⟨ga1, gb1⟩ := g1
  clear h1 h2
  go_enter Tryd.func55, Tryd.ntmps55
  go_wp2
  go_ret
  exact ⟨rfl, (Below.refl _ w).alloc (Nat.le_refl _) _⟩

set_option maxRecDepth 100000 in
set_option maxHeartbeats 4000000 in
theorem rutf8_3a (n : Nat) (w : World) (h1 : (2048 : Int) ≤ (n : Int)) (h2 : (n : Int) < 55296) :
    Calls Tryd.prog 55 #[.int .i64 n] w fun e w' => e = .returned (.string (bs (Utf8.encode n).data.toList)) ∧ Below w.heap.size w w' := by
  have he : (Utf8.encode (n : Int)).data.toList = [UInt8.ofNat (224 + n / 4096), UInt8.ofNat (128 + n / 64 % 64), UInt8.ofNat (128 + n % 64)] := by
    unfold Utf8.encode
    have hv : Utf8.valid (n : Int) = true := by unfold Utf8.valid; simp; omega
    simp only [hv, if_true, Int.toNat_natCast]
    rw [if_neg (by omega), if_neg (by omega), if_pos (by omega)]
  rw [he]
  obtain ⟨l, hl⟩ : ∃ l, [UInt8.ofNat (224 + n / 4096), UInt8.ofNat (128 + n / 64 % 64), UInt8.ofNat (128 + n % 64)] = l := ⟨_, rfl⟩
  have hm : (#[Value.int .u8 (224 + (n : Int) / 4096), Value.int .u8 (128 + (n : Int) / 64 % 64), Value.int .u8 (128 + (n : Int) % 64)] : Array Value).toList = l.map fun b => Value.int .u8 b.toNat := by
    rw [← hl]
    simp only [List.map_cons, List.map_nil]
    rw [u8_nat (k := 224 + n / 4096) (by omega)]; rw [u8_nat (k := 128 + n / 64 % 64) (by omega)]; rw [u8_nat (k := 128 + n % 64) (by omega)];
    simp
  have ob := fun W => row_bytes l 3 (by rw [← hl]; rfl) #[Value.int .u8 (224 + (n : Int) / 4096), Value.int .u8 (128 + (n : Int) / 64 % 64), Value.int .u8 (128 + (n : Int) % 64)] hm W
  rw [hl]
  obtain ⟨R, hR⟩ : ∃ R, bs l = R := ⟨_, rfl⟩
  rw [hR] at ob ⊢
  clear hl hm he hR
  have t0 : decide ((n : Int) < 0) = false := decide_eq_false (by omega)
  have t1 : decide ((1114111 : Int) < (n : Int)) = false := decide_eq_false (by omega)
  have t2 : decide ((55296 : Int) ≤ (n : Int)) = false := decide_eq_false (by omega)
  have t3 : decide ((n : Int) < 57344) = true := decide_eq_true (by omega)
  have t4 : decide ((n : Int) < 128) = false := decide_eq_false (by omega)
  have t5 : decide ((n : Int) < 2048) = false := decide_eq_false (by omega)
  have t6 : decide ((n : Int) < 65536) = true := decide_eq_true (by omega)
  have g0 : 0 ≤ 224 + (n : Int) / 4096 ∧ 224 + (n : Int) / 4096 ≤ 255 := by omega
  obtain ⟨ga0, gb0⟩ := g0
  have g1 : 0 ≤ 128 + (n : Int) / 64 % 64 ∧ 128 + (n : Int) / 64 % 64 ≤ 255 := by omega
  obtain ⟨ga1, gb1⟩ := g1
  have g2 : 0 ≤ 128 + (n : Int) % 64 ∧ 128 + (n : Int) % 64 ≤ 255 := by omega
  obtain ⟨ga2, gb2⟩ := g2
  clear h1 h2
  go_enter Tryd.func55, Tryd.ntmps55
  go_wp2
  go_ret
  exact ⟨rfl, (Below.refl _ w).alloc (Nat.le_refl _) _⟩

set_option maxRecDepth 100000 in
set_option maxHeartbeats 4000000 in
theorem rutf8_3b (n : Nat) (w : World) (h1 : (57344 : Int) ≤ (n : Int)) (h2 : (n : Int) < 65536) :
    Calls Tryd.prog 55 #[.int .i64 n] w fun e w' => e = .returned (.string (bs (Utf8.encode n).data.toList)) ∧ Below w.heap.size w w' := by
  have he : (Utf8.encode (n : Int)).data.toList = [UInt8.ofNat (224 + n / 4096), UInt8.ofNat (128 + n / 64 % 64), UInt8.ofNat (128 + n % 64)] := by
    unfold Utf8.encode
    have hv : Utf8.valid (n : Int) = true := by unfold Utf8.valid; simp; omega
    simp only [hv, if_true, Int.toNat_natCast]
    rw [if_neg (by omega), if_neg (by omega), if_pos (by omega)]
  rw [he]
  obtain ⟨l, hl⟩ : ∃ l, [UInt8.ofNat (224 + n / 4096), UInt8.ofNat (128 + n / 64 % 64), UInt8.ofNat (128 + n % 64)] = l := ⟨_, rfl⟩
  have hm : (#[Value.int .u8 (224 + (n : Int) / 4096), Value.int .u8 (128 + (n : Int) / 64 % 64), Value.int .u8 (128 + (n : Int) % 64)] : Array Value).toList = l.map fun b => Value.int .u8 b.toNat := by
    rw [← hl]
    simp only [List.map_cons, List.map_nil]
    rw [u8_nat (k := 224 + n / 4096) (by omega)]; rw [u8_nat (k := 128 + n / 64 % 64) (by omega)]; rw [u8_nat (k := 128 + n % 64) (by omega)];
    simp
  have ob := fun W => row_bytes l 3 (by rw [← hl]; rfl) #[Value.int .u8 (224 + (n : Int) / 4096), Value.int .u8 (128 + (n : Int) / 64 % 64), Value.int .u8 (128 + (n : Int) % 64)] hm W
  rw [hl]
  obtain ⟨R, hR⟩ : ∃ R, bs l = R := ⟨_, rfl⟩
  rw [hR] at ob ⊢
  clear hl hm he hR
  have t0 : decide ((n : Int) < 0) = false := decide_eq_false (by omega)
  have t1 : decide ((1114111 : Int) < (n : Int)) = false := decide_eq_false (by omega)
  have t2 : decide ((55296 : Int) ≤ (n : Int)) = true := decide_eq_true (by omega)
  have t3 : decide ((n : Int) < 57344) = false := decide_eq_false (by omega)
  have t4 : decide ((n : Int) < 128) = false := decide_eq_false (by omega)
  have t5 : decide ((n : Int) < 2048) = false := decide_eq_false (by omega)
  have t6 : decide ((n : Int) < 65536) = true := decide_eq_true (by omega)
  have g0 : 0 ≤ 224 + (n : Int) / 4096 ∧ 224 + (n : Int) / 4096 ≤ 255 := by omega
  obtain ⟨ga0, gb0⟩ := g0
  have g1 : 0 ≤ 128 + (n : Int) / 64 % 64 ∧ 128 + (n : Int) / 64 % 64 ≤ 255 := by omega
  obtain ⟨ga1, gb1⟩ := g1
  have g2 : 0 ≤ 128 + (n : Int) % 64 ∧ 128 + (n : Int) % 64 ≤ 255 := by omega
  obtain ⟨ga2, gb2⟩ := g2
  clear h1 h2
  go_enter Tryd.func55, Tryd.ntmps55
  go_wp2
  go_ret
  exact ⟨rfl, (Below.refl _ w).alloc (Nat.le_refl _) _⟩

set_option maxRecDepth 100000 in
set_option maxHeartbeats 4000000 in
theorem rutf8_4 (n : Nat) (w : World) (h1 : (65536 : Int) ≤ (n : Int)) (h2 : (n : Int) < 1114112) :
    Calls Tryd.prog 55 #[.int .i64 n] w fun e w' => e = .returned (.string (bs (Utf8.encode n).data.toList)) ∧ Below w.heap.size w w' := by
  have he : (Utf8.encode (n : Int)).data.toList = [UInt8.ofNat (240 + n / 262144), UInt8.ofNat (128 + n / 4096 % 64), UInt8.ofNat (128 + n / 64 % 64), UInt8.ofNat (128 + n % 64)] := by
    unfold Utf8.encode
    have hv : Utf8.valid (n : Int) = true := by unfold Utf8.valid; simp; omega
    simp only [hv, if_true, Int.toNat_natCast]
    rw [if_neg (by omega), if_neg (by omega), if_neg (by omega)]
  rw [he]
  obtain ⟨l, hl⟩ : ∃ l, [UInt8.ofNat (240 + n / 262144), UInt8.ofNat (128 + n / 4096 % 64), UInt8.ofNat (128 + n / 64 % 64), UInt8.ofNat (128 + n % 64)] = l := ⟨_, rfl⟩
  have hm : (#[Value.int .u8 (240 + (n : Int) / 262144), Value.int .u8 (128 + (n : Int) / 4096 % 64), Value.int .u8 (128 + (n : Int) / 64 % 64), Value.int .u8 (128 + (n : Int) % 64)] : Array Value).toList = l.map fun b => Value.int .u8 b.toNat := by
    rw [← hl]
    simp only [List.map_cons, List.map_nil]
    rw [u8_nat (k := 240 + n / 262144) (by omega)]; rw [u8_nat (k := 128 + n / 4096 % 64) (by omega)]; rw [u8_nat (k := 128 + n / 64 % 64) (by omega)]; rw [u8_nat (k := 128 + n % 64) (by omega)];
    simp
  have ob := fun W => row_bytes l 4 (by rw [← hl]; rfl) #[Value.int .u8 (240 + (n : Int) / 262144), Value.int .u8 (128 + (n : Int) / 4096 % 64), Value.int .u8 (128 + (n : Int) / 64 % 64), Value.int .u8 (128 + (n : Int) % 64)] hm W
  rw [hl]
  obtain ⟨R, hR⟩ : ∃ R, bs l = R := ⟨_, rfl⟩
  rw [hR] at ob ⊢
  clear hl hm he hR
  have t0 : decide ((n : Int) < 0) = false := decide_eq_false (by omega)
  have t1 : decide ((1114111 : Int) < (n : Int)) = false := decide_eq_false (by omega)
  have t2 : decide ((55296 : Int) ≤ (n : Int)) = true := decide_eq_true (by omega)
  have t3 : decide ((n : Int) < 57344) = false := decide_eq_false (by omega)
  have t4 : decide ((n : Int) < 128) = false := decide_eq_false (by omega)
  have t5 : decide ((n : Int) < 2048) = false := decide_eq_false (by omega)
  have t6 : decide ((n : Int) < 65536) = false := decide_eq_false (by omega)
  have g0 : 0 ≤ 240 + (n : Int) / 262144 ∧ 240 + (n : Int) / 262144 ≤ 255 := by omega
  obtain ⟨ga0, gb0⟩ := g0
  have g1 : 0 ≤ 128 + (n : Int) / 4096 % 64 ∧ 128 + (n : Int) / 4096 % 64 ≤ 255 := by omega
  obtain ⟨ga1, gb1⟩ := g1
  have g2 : 0 ≤ 128 + (n : Int) / 64 % 64 ∧ 128 + (n : Int) / 64 % 64 ≤ 255 := by omega
  obtain ⟨ga2, gb2⟩ := g2
  have g3 : 0 ≤ 128 + (n : Int) % 64 ∧ 128 + (n : Int) % 64 ≤ 255 := by omega
  obtain ⟨ga3, gb3⟩ := g3
  clear h1 h2
  go_enter Tryd.func55, Tryd.ntmps55
  go_wp2
  go_ret
  exact ⟨rfl, (Below.refl _ w).alloc (Nat.le_refl _) _⟩

theorem rutf8_any (r : Int) (w : World) :
    Calls Tryd.prog 55 #[.int .i64 r] w fun e w' => e = .returned (.string (bs (utfL r))) ∧ Below w.heap.size w w' := by
  unfold utfL
  by_cases c1 : r < 0
  · rw [if_pos (.inl c1)]; exact rutf8_neg r w c1
  · by_cases c2 : 1114111 < r
    · rw [if_pos (.inr (.inl c2))]; exact rutf8_big r w c2
    · by_cases c3 : 55296 ≤ r ∧ r < 57344
      · rw [if_pos (.inr (.inr c3))]; exact rutf8_mid r w c3.1 c3.2
      · rw [if_neg (by omega)]
        obtain ⟨n, rfl⟩ : ∃ n : Nat, r = n := ⟨r.toNat, by omega⟩
        by_cases d1 : (n : Int) < 128
        · exact rutf8_1 n w (by omega) d1
        · by_cases d2 : (n : Int) < 2048
          · exact rutf8_2 n w (by omega) d2
          · by_cases d3 : (n : Int) < 55296
            · exact rutf8_3a n w (by omega) d3
            · by_cases d4 : (n : Int) < 65536
              · exact rutf8_3b n w (by omega) d4
              · exact rutf8_4 n w (by omega) (by omega)
end Go.Proofs.YtkcjembmdiaclaaDoor
