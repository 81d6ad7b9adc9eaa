/- The walk of the document's Unquote. -/
import Derived.Test.YtkcjembmdiaclaaDoorSd
import Derived.BigQuiet
namespace Go.Proofs.YtkcjembmdiaclaaDoor
open Go.RowKit Go.Lib Go.Maps
set_option linter.unusedVariables false
set_option linter.unusedSimpArgs false

theorem unqF_fuel : ∀ (n : Nat) (l acc : List UInt8) (f f' : Nat), l.length ≤ n → l.length < f → l.length < f' → unqF f l acc = unqF f' l acc
  | n, [], acc, f, f', _, h1, h2 => by
    obtain ⟨g, rfl⟩ : ∃ g, f = g + 1 := ⟨f - 1, by simp at h1; omega⟩
    obtain ⟨g', rfl⟩ : ∃ g', f' = g' + 1 := ⟨f' - 1, by simp at h2; omega⟩
    rfl
  | 0, c :: r, acc, f, f', h, _, _ => by simp at h
  | n + 1, c :: r, acc, f, f', h, h1, h2 => by
    simp only [List.length_cons] at h h1 h2
    obtain ⟨g, rfl⟩ : ∃ g, f = g + 1 := ⟨f - 1, by omega⟩
    obtain ⟨g', rfl⟩ : ∃ g', f' = g' + 1 := ⟨f' - 1, by omega⟩
    have hd : ∀ k, (r.drop k).length ≤ r.length := fun k => by rw [List.length_drop]; omega
    have e1 := unqF_fuel n r (acc ++ [c]) g g' (by omega) (by omega) (by omega)
    have hk := hd (escL r).2
    have e2 := unqF_fuel n (r.drop (escL r).2) (acc ++ (escL r).1) g g' (by omega) (by omega) (by omega)
    show (if _ then none else if _ then none else if _ then (if _ then none else unqF g _ _) else unqF g r (acc ++ [c])) = (if _ then none else if _ then none else if _ then (if _ then none else unqF g' _ _) else unqF g' r (acc ++ [c]))
    rw [e1, e2]
/-- What Unquote says of the rest, behind what it has said. -/
def unqA (l acc : List UInt8) : Option (List UInt8) := unqF (l.length + 1) l acc
theorem unqA_nil (acc : List UInt8) : unqA [] acc = some acc := rfl
theorem unqA_cons (c : UInt8) (r acc : List UInt8) : unqA (c :: r) acc =
    if c.toNat = 10 then none else if c.toNat = 34 then none
    else if c.toNat = 92 then (if (escL r).2 = 0 then none else unqA (r.drop (escL r).2) (acc ++ (escL r).1))
    else unqA r (acc ++ [c]) := by
  have hd : (r.drop (escL r).2).length ≤ r.length := by rw [List.length_drop]; omega
  have e2 := unqF_fuel r.length (r.drop (escL r).2) (acc ++ (escL r).1) (r.length + 1) ((r.drop (escL r).2).length + 1) hd (by omega) (by omega)
  have he : ((((escL r).2 : Int) == 0) = true) = ((escL r).2 = 0) := by rw [beq_iff_eq]; exact propext ⟨fun h => by omega, fun h => by omega⟩
  show (if ((c.toNat : Int) == 10) = true then none else if ((c.toNat : Int) == 34) = true then none
    else if ((c.toNat : Int) == 92) = true then (if (((escL r).2 : Int) == 0) = true then none else unqF (r.length + 1) (r.drop (escL r).2) (acc ++ (escL r).1))
    else unqF (r.length + 1) r (acc ++ [c])) = _
  have h10 : (((c.toNat : Int) == 10) = true) = (c.toNat = 10) := by rw [beq_iff_eq]; exact propext ⟨fun h => by omega, fun h => by omega⟩
  have h34 : (((c.toNat : Int) == 34) = true) = (c.toNat = 34) := by rw [beq_iff_eq]; exact propext ⟨fun h => by omega, fun h => by omega⟩
  have h92 : (((c.toNat : Int) == 92) = true) = (c.toNat = 92) := by rw [beq_iff_eq]; exact propext ⟨fun h => by omega, fun h => by omega⟩
  rw [e2]
  simp only [h10, h34, h92, he]
  rfl
theorem bs_append (a b : List UInt8) : bs a ++ bs b = bs (a ++ b) := by
  rw [← bs_of (bs a ++ bs b)]
  simp [bs_list]

/-- What becomes of an escape. -/
theorem esc_out (s : ByteArray) (j : Nat) (A : List UInt8) (R : Option (List UInt8)) (hj : j < s.size) (hA : A.length + 1 ≤ j)
    (h : (if (escL (s.data.toList.drop j)).2 = 0 then none else unqA ((s.data.toList.drop j).drop (escL (s.data.toList.drop j)).2) (A ++ (escL (s.data.toList.drop j)).1)) = R) :
    (rescL (s.data.toList.drop j) = [] ∧ R = none) ∨ (rescL (s.data.toList.drop j) ≠ [] ∧ j + rescW (s.data.toList.drop j) ≤ s.size ∧ unqA (s.data.toList.drop (j + rescW (s.data.toList.drop j))) (A ++ rescL (s.data.toList.drop j)) = R ∧ (A ++ rescL (s.data.toList.drop j)).length ≤ j + rescW (s.data.toList.drop j) ∧ (rescL (s.data.toList.drop j)).length ≤ 4) := by
  have hlen := escL_len (s.data.toList.drop j)
  rw [List.length_drop, ← Lib.size_eq] at hlen
  have h4 := resc_len (s.data.toList.drop j)
  rcases resc_is (s.data.toList.drop j) with ⟨h0, h1⟩ | ⟨h0, h1, h2, h3⟩
  · rw [if_pos h0] at h
    exact .inl ⟨h1, h.symm⟩
  · rw [if_neg (by omega), List.drop_drop, h0, h1] at h
    rw [h0, h1] at hlen
    refine .inr ⟨h2, by omega, h, ?_, h4⟩
    rw [List.length_append]
    omega
theorem from_at : ∀ (k : Nat) (h : k < 9), (({ data := #[97, 98, 102, 110, 114, 116, 118, 92, 34] } : ByteArray)[k]'h).toNat = (escs.getD k 0).toNat := by
  intro k h
  have : k = 0 ∨ k = 1 ∨ k = 2 ∨ k = 3 ∨ k = 4 ∨ k = 5 ∨ k = 6 ∨ k = 7 ∨ k = 8 := by omega
  rcases this with rfl | rfl | rfl | rfl | rfl | rfl | rfl | rfl | rfl <;> rfl
theorem said_at (k : Nat) (h : k < 9) (W : World) : (Instr.slice 9 (.string { data := #[7, 8, 12, 10, 13, 9, 11, 92, 34] }) (some (.int .i64 (k : Int))) (some (.int .i64 ((k : Int) + 1))) none).run Tryd.prog W = .ok (.string (bs [saids.getD k 0])) W := by
  have h1 := sl_lh { data := #[7, 8, 12, 10, 13, 9, 11, 92, 34] } k (k + 1) (by omega) (by show k + 1 ≤ 9; omega) W
  have e : ((({ data := #[7, 8, 12, 10, 13, 9, 11, 92, 34] } : ByteArray).data.toList).drop k).take (k + 1 - k) = [saids.getD k 0] := saids_at k h
  rw [e] at h1
  exact h1

set_option maxRecDepth 100000 in
set_option maxHeartbeats 8000000 in
theorem runquote_any (s : ByteArray) (w : World) (hs : s.size ≤ 1048576) :
    Calls Tryd.prog 41 #[.string s] w fun e w' => e = .returned (uRet (unquoteL s.data.toList)) ∧ Below w.heap.size w w' := by
  obtain ⟨R, hR⟩ : ∃ R, unquoteL s.data.toList = R := ⟨_, rfl⟩
  rw [hR]
  have hR0 : unqA (s.data.toList.drop 0) [] = R := by rw [← hR, List.drop_zero]; rfl
  have HR0 := Lib.hid hR0
  clear hR hR0
  go_enter Tryd.func41, Tryd.ntmps41
  go_wp2
  go_loopg [6, 7] s.size (fun gf tv iv wx => ∃ (i : Nat) (A : List UInt8), tv = .string (bs A) ∧ iv = .int .i64 i ∧ i ≤ s.size ∧ A.length ≤ i ∧ Hid (unqA (s.data.toList.drop i) A = R) ∧ Below w.heap.size w wx ∧ s.size ≤ i + gf)
  case atStart => exact ⟨0, [], rfl, rfl, by omega, by simp, HR0, Below.refl _ w, by omega⟩
  case round =>
    obtain ⟨i, A, rfl, rfl, hi, hA, HU, hbw, hfu⟩ := hrel
    clear HR0
    by_cases hlt : i < s.size
    · obtain ⟨g', rfl⟩ : ∃ g', gk = g' + 1 := ⟨gk - 1, by omega⟩
      obtain ⟨c, hc⟩ : ∃ c : Nat, (s[i]'hlt).toNat = c := ⟨_, rfl⟩
      have hst := HU.out
      rw [drop_at s hlt, unqA_cons, hc] at hst
      by_cases h10 : ((c : Int) == 10) = true
      · have hn : R = none := by rw [← hst, if_pos (by simp at h10; omega)]
        subst hn
        clear hst HU
        go_wp2
        go_ret2
        exact ⟨rfl, hbw⟩
      · have h10' : ((c : Int) == 10) = false := by simpa using h10
        rw [if_neg (by simp at h10; omega)] at hst
        clear h10
        by_cases h34 : ((c : Int) == 34) = true
        · have hn : R = none := by rw [← hst, if_pos (by simp at h34; omega)]
          subst hn
          clear hst HU
          go_wp2
          go_ret2
          exact ⟨rfl, hbw⟩
        · have h34' : ((c : Int) == 34) = false := by simpa using h34
          rw [if_neg (by simp at h34; omega)] at hst
          clear h34
          by_cases h92 : ((c : Int) == 92) = true
          · rw [if_pos (by simp at h92; omega)] at hst
            by_cases hj : i + 1 < s.size
            · skip
              obtain ⟨j, hji⟩ : ∃ j, i + 1 = j := ⟨_, rfl⟩
              have hjs : j < s.size := by omega
              obtain ⟨c2, hc2⟩ : ∃ c2 : Nat, (s[j]'hjs).toNat = c2 := ⟨_, rfl⟩
              have hc256 : c2 < 256 := by rw [← hc2]; exact UInt8.toNat_lt _
              have hout := esc_out s j A R hjs (by omega) (by rw [← hji]; exact hst)
              rw [drop_at s hjs] at hout
              have hje : ((i : Int) + 1 == (s.size : Int)) = false := by rw [beq_eq_false_iff_ne]; omega
              have hA8 : ((bs A).size : Int) ≤ 8388608 := by rw [bs_size]; omega
              have HOUT := Lib.hid hout
              have HJI := Lib.hid hji
              have cd := fun W => rdigit_any c2 W hc256
              clear hst HU hout
              go_wp2
              clear h10' h34' h92 hje hc
              rw [show (i : Int) + 1 = (j : Int) from by omega]
              go_loopg [8, 9] 9 (fun gf2 uv kv wy => ∃ k : Nat, uv = .string (bs (uAt c2 k)) ∧ kv = .int .i64 k ∧ k ≤ 9 ∧ Below w.heap.size w wy ∧ 9 ≤ k + gf2)
              case atStart => exact ⟨0, rfl, rfl, by omega, hbw, by omega⟩
              case round =>
                obtain ⟨k, rfl, rfl, hk9, hbx, hfu2⟩ := hrel
                by_cases hk : k < 9
                · obtain ⟨g2, rfl⟩ : ∃ g', gk = g' + 1 := ⟨gk - 1, by omega⟩
                  have hku : uAt c2 (k + 1) = if (escs.getD k 0).toNat = c2 then [saids.getD k 0] else uAt c2 k := rfl
                  obtain ⟨e, he⟩ : ∃ e : Nat, (escs.getD k 0).toNat = e := ⟨_, rfl⟩
                  have hix : (({ data := #[97, 98, 102, 110, 114, 116, 118, 92, 34] } : ByteArray)[k]'hk).toNat = e := by rw [← he]; exact from_at k hk
                  have hsd : ∀ W, (Instr.slice 9 (.string { data := #[7, 8, 12, 10, 13, 9, 11, 92, 34] }) (some (.int .i64 (k : Int))) (some (.int .i64 ((k : Int) + 1))) none).run Tryd.prog W = .ok (.string (bs [saids.getD k 0])) W := said_at k hk
                  obtain ⟨U, hU⟩ : ∃ U, uAt c2 (k + 1) = U := ⟨_, rfl⟩
                  rw [hU, he] at hku
                  have hki : (k : Int) < 9 := by omega
                  have HUU := Lib.hid hU
                  clear hU he
                  by_cases hec : e = c2
                  · rw [if_pos hec] at hku
                    have hec' : ((e : Int) == (c2 : Int)) = true := by rw [beq_iff_eq]; omega
                    rw [← hku] at hsd
                    clear hku hec
                    go_upto_region 18 with (fail)
                    go_quiet (fail)
                    go_wp2
                    go_roundg g2
                    case measure => omega
                    case rel => exact ⟨k + 1, by rw [HUU.out], by go_num, by omega, hbx.trans ((below_drewN _ nq).mono hbx.size), by omega⟩
                  · rw [if_neg hec] at hku
                    have hec' : ((e : Int) == (c2 : Int)) = false := by rw [beq_eq_false_iff_ne]; omega
                    clear hec hsd
                    go_upto_region 18 with (fail)
                    go_quiet (fail)
                    go_wp2
                    go_roundg g2
                    case measure => omega
                    case rel => exact ⟨k + 1, by rw [HUU.out, hku], by go_num, by omega, hbx.trans ((below_drewN _ nq).mono hbx.size), by omega⟩
                · have hk9' : k = 9 := by omega
                  subst hk9'
                  clear hk hfu2 hk9 hbw
                  have hji := HJI.out
                  have hu9 := uAt_table ⟨c2, hc256⟩
                  simp only at hu9
                  have hout := HOUT.out
                  rw [rescL_cons, rescW_cons, hc2, ← drop_at s hjs] at hout
                  clear HOUT
                  by_cases e1 : (0 : Int) ≤ escIx c2
                  · rw [if_pos e1] at hu9
                    rw [if_pos e1, if_pos e1] at hout
                    rw [hu9]
                    obtain ⟨x, hx⟩ : ∃ x, saids.getD (escIx c2).toNat 0 = x := ⟨_, rfl⟩
                    rw [hx] at hout ⊢
                    clear hu9 hx e1
                    rcases hout with ⟨hne, _⟩ | ⟨hne, hws, hU', hal, hl4⟩
                    · cases hne
                    · have hap : bs A ++ bs [x] = bs (A ++ [x]) := bs_append _ _
                      have hz2 : ((bs [x]).size : Int) ≤ 8388608 := by rw [bs_size]; omega
                      have hem : (bs [x]).toList.isEmpty = false := not_empty (by rw [bs_size]; exact List.length_pos_iff.2 hne)
                      obtain ⟨B, hB⟩ : ∃ B, bs [x] = B := ⟨_, rfl⟩
                      obtain ⟨A', hA'⟩ : ∃ A', A ++ [x] = A' := ⟨_, rfl⟩
                      rw [hB] at hap hz2 hem
                      rw [hA'] at hap hU' hal
                      have HU' := Lib.hid hU'
                      have HAL := Lib.hid (And.intro hws hal)
                      rw [hB]
                      clear hU' hal hws hB hA' hne hl4
                      go_wp2
                      have hji := HJI.out
                      obtain ⟨hws, hal⟩ := HAL.out
                      go_roundg g'
                      case measure => omega
                      case rel => exact ⟨j + 1, A', rfl, by go_num, hws, hal, HU', hbx, by omega⟩
                  · rw [if_neg e1] at hu9
                    rw [if_neg e1, if_neg e1] at hout
                    rw [hu9, show bs [] = ⟨#[]⟩ from rfl]
                    clear hu9 e1
                    by_cases e2 : 48 ≤ c2 ∧ c2 ≤ 57
                    · rw [if_pos e2, if_pos e2] at hout
                      have ed : digitN c2 = true := by unfold digitN; exact decide_eq_true e2
                      rw [ed] at cd
                      have hsl := sl_l s j (by omega)
                      have cN := fun W => rnumber_8 (bs (s.data.toList.drop j)) 3 W (by rw [bs_size, List.length_drop, ← Lib.size_eq]; omega) (by omega)
                      rw [bs_list] at cN
                      have hnb := numL_bd (s.data.toList.drop j) 3 8 (by omega)
                      obtain ⟨n, hn⟩ : ∃ n, numL (s.data.toList.drop j) 3 8 = n := ⟨_, rfl⟩
                      obtain ⟨SJ, hSJ⟩ : ∃ SJ, bs (s.data.toList.drop j) = SJ := ⟨_, rfl⟩
                      rw [hn] at cN hnb hout
                      rw [hSJ] at hsl cN
                      have hnb1 := hnb.1
                      have hnb2 : n < 512 := hnb.2
                      clear hn hSJ ed e2 hnb
                      by_cases n0 : 0 ≤ n
                      · by_cases n2 : n < 256
                        · rw [if_pos ⟨n0, n2⟩] at hout
                          have ob := fun W => one_byte n n0 n2 W
                          obtain ⟨x, hx⟩ : ∃ x, n.toNat.toUInt8 = x := ⟨_, rfl⟩
                          rw [hx] at hout ob
                          clear hx
                          rcases hout with ⟨hne, _⟩ | ⟨hne, hws, hU', hal, hl4⟩
                          · cases hne
                          · have hap : bs A ++ bs [x] = bs (A ++ [x]) := bs_append _ _
                            have hz2 : ((bs [x]).size : Int) ≤ 8388608 := by rw [bs_size]; omega
                            have hem : (bs [x]).toList.isEmpty = false := not_empty (by rw [bs_size]; exact List.length_pos_iff.2 hne)
                            obtain ⟨B, hB⟩ : ∃ B, bs [x] = B := ⟨_, rfl⟩
                            obtain ⟨A', hA'⟩ : ∃ A', A ++ [x] = A' := ⟨_, rfl⟩
                            rw [hB] at hap hz2 hem
                            rw [hA'] at hap hU' hal
                            have HU' := Lib.hid hU'
                            have HAL := Lib.hid (And.intro hws hal)
                            rw [hB] at ob
                            clear hU' hal hws hB hA' hne hl4
                            go_wp2_with (first | (go_at_call 40; refine (cd _).mono ?_; rintro e w1 ⟨rfl, hw1⟩; obtain rfl := hw1.symm) | (go_at_call 54; refine (cN _).mono ?_; rintro e w1 ⟨rfl, hw1⟩; obtain rfl := hw1.symm))
                            have hji := HJI.out
                            obtain ⟨hws, hal⟩ := HAL.out
                            go_roundg g'
                            case measure => omega
                            case rel => exact ⟨j + 3, A', rfl, by go_num, hws, hal, HU', hbx.alloc hbx.size _, by omega⟩
                        · rw [if_neg (fun h => n2 h.2)] at hout
                          have hR : R = none := by
                            rcases hout with ⟨_, h⟩ | ⟨h, _⟩
                            · exact h
                            · exact absurd rfl h
                          subst hR
                          have n2' : 256 ≤ n := by omega
                          clear hout n2
                          go_wp2_with (first | (go_at_call 40; refine (cd _).mono ?_; rintro e w1 ⟨rfl, hw1⟩; obtain rfl := hw1.symm) | (go_at_call 54; refine (cN _).mono ?_; rintro e w1 ⟨rfl, hw1⟩; obtain rfl := hw1.symm))
                          go_ret2
                          exact ⟨rfl, hbx⟩
                      · rw [if_neg (fun h => n0 h.1)] at hout
                        have hR : R = none := by
                          rcases hout with ⟨_, h⟩ | ⟨h, _⟩
                          · exact h
                          · exact absurd rfl h
                        subst hR
                        have n0' : n < 0 := by omega
                        clear hout n0
                        go_wp2_with (first | (go_at_call 40; refine (cd _).mono ?_; rintro e w1 ⟨rfl, hw1⟩; obtain rfl := hw1.symm) | (go_at_call 54; refine (cN _).mono ?_; rintro e w1 ⟨rfl, hw1⟩; obtain rfl := hw1.symm))
                        go_ret2
                        exact ⟨rfl, hbx⟩
                    · rw [if_neg e2, if_neg e2] at hout
                      have ed : digitN c2 = false := by unfold digitN; exact decide_eq_false e2
                      rw [ed] at cd
                      clear ed e2
                      have hsl : ∀ W, (Instr.slice 9 (.string s) (some (.int .i64 ((j : Int) + 1))) none none).run Tryd.prog W = .ok (.string (bs (s.data.toList.drop (j + 1)))) W := fun W => sl_l s (j + 1) (by omega) W
                      by_cases e3 : c2 = 120
                      · rw [if_pos e3, if_pos e3] at hout
                        have hx1 : ((c2 : Int) == 120) = true := by rw [beq_iff_eq]; omega
                        have cN := fun W => rnumber_16 (bs (s.data.toList.drop (j + 1))) 2 W (by rw [bs_size, List.length_drop, ← Lib.size_eq]; omega) (by omega)
                        rw [bs_list] at cN
                        have hnb := numL_bd (s.data.toList.drop (j + 1)) 2 16 (by omega)
                        obtain ⟨n, hn⟩ : ∃ n, numL (s.data.toList.drop (j + 1)) 2 16 = n := ⟨_, rfl⟩
                        obtain ⟨SJ, hSJ⟩ : ∃ SJ, bs (s.data.toList.drop (j + 1)) = SJ := ⟨_, rfl⟩
                        rw [hn] at cN hnb hout
                        rw [hSJ] at hsl cN
                        have hnb1 := hnb.1
                        have hnb2 : n < 256 := hnb.2
                        clear hn hSJ hnb e3
                        by_cases n0 : 0 ≤ n
                        · rw [if_pos n0] at hout
                          have ob := fun W => one_byte n n0 hnb2 W
                          obtain ⟨x, hx⟩ : ∃ x, n.toNat.toUInt8 = x := ⟨_, rfl⟩
                          rw [hx] at hout ob
                          clear hx
                          rcases hout with ⟨hne, _⟩ | ⟨hne, hws, hU', hal, hl4⟩
                          · cases hne
                          · have hap : bs A ++ bs [x] = bs (A ++ [x]) := bs_append _ _
                            have hz2 : ((bs [x]).size : Int) ≤ 8388608 := by rw [bs_size]; omega
                            have hem : (bs [x]).toList.isEmpty = false := not_empty (by rw [bs_size]; exact List.length_pos_iff.2 hne)
                            obtain ⟨B, hB⟩ : ∃ B, bs [x] = B := ⟨_, rfl⟩
                            obtain ⟨A', hA'⟩ : ∃ A', A ++ [x] = A' := ⟨_, rfl⟩
                            rw [hB] at hap hz2 hem
                            rw [hA'] at hap hU' hal
                            have HU' := Lib.hid hU'
                            have HAL := Lib.hid (And.intro hws hal)
                            rw [hB] at ob
                            clear hU' hal hws hB hA' hne hl4
                            go_wp2_with (first | (go_at_call 40; refine (cd _).mono ?_; rintro e w1 ⟨rfl, hw1⟩; obtain rfl := hw1.symm) | (go_at_call 54; refine (cN _).mono ?_; rintro e w1 ⟨rfl, hw1⟩; obtain rfl := hw1.symm))
                            have hji := HJI.out
                            obtain ⟨hws, hal⟩ := HAL.out
                            go_roundg g'
                            case measure => omega
                            case rel => exact ⟨j + 3, A', rfl, by go_num, hws, hal, HU', hbx.alloc hbx.size _, by omega⟩
                        · rw [if_neg n0] at hout
                          have hR : R = none := by
                            rcases hout with ⟨_, h⟩ | ⟨h, _⟩
                            · exact h
                            · exact absurd rfl h
                          subst hR
                          have n0' : n < 0 := by omega
                          clear hout n0
                          go_wp2_with (first | (go_at_call 40; refine (cd _).mono ?_; rintro e w1 ⟨rfl, hw1⟩; obtain rfl := hw1.symm) | (go_at_call 54; refine (cN _).mono ?_; rintro e w1 ⟨rfl, hw1⟩; obtain rfl := hw1.symm))
                          go_ret2
                          exact ⟨rfl, hbx⟩
                      · rw [if_neg e3, if_neg e3] at hout
                        have hx1 : ((c2 : Int) == 120) = false := by rw [beq_eq_false_iff_ne]; omega
                        clear e3
                        by_cases e4 : c2 = 117
                        · rw [if_pos e4, if_pos e4] at hout
                          have hx117 : ((c2 : Int) == 117) = true := by rw [beq_iff_eq]; omega
                          have cN := fun W => rnumber_16 (bs (s.data.toList.drop (j + 1))) 4 W (by rw [bs_size, List.length_drop, ← Lib.size_eq]; omega) (by omega)
                          rw [bs_list] at cN
                          obtain ⟨n, hn⟩ : ∃ n, numL (s.data.toList.drop (j + 1)) 4 16 = n := ⟨_, rfl⟩
                          obtain ⟨SJ, hSJ⟩ : ∃ SJ, bs (s.data.toList.drop (j + 1)) = SJ := ⟨_, rfl⟩
                          rw [hn] at cN hout
                          rw [hSJ] at hsl cN
                          have cU := fun W => rutf8_any n W
                          obtain ⟨U, hU⟩ : ∃ U, utfL n = U := ⟨_, rfl⟩
                          rw [hU] at cU hout
                          clear hn hSJ hU e4
                          rcases hout with ⟨hne, hR⟩ | ⟨hne, hws, hU', hal, hl4⟩
                          · subst hR
                            subst hne
                            have cU2 : ∀ W, Calls Tryd.prog 55 #[.int .i64 n] W fun e w' => e = .returned (.string ⟨#[]⟩) ∧ Below W.heap.size W w' := cU
                            go_wp2_with (first | (go_at_call 40; refine (cd _).mono ?_; rintro e w1 ⟨rfl, hw1⟩; obtain rfl := hw1.symm) | (go_at_call 54; refine (cN _).mono ?_; rintro e w1 ⟨rfl, hw1⟩; obtain rfl := hw1.symm) | (go_at_call 55; refine (cU2 _).mono ?_; rintro e w2 ⟨rfl, hb2⟩))
                            go_ret2
                            exact ⟨rfl, hbx.trans (hb2.mono hbx.size)⟩
                          · have hap : bs A ++ bs U = bs (A ++ U) := bs_append _ _
                            have hz2 : ((bs U).size : Int) ≤ 8388608 := by rw [bs_size]; omega
                            have hem : (bs U).toList.isEmpty = false := not_empty (by rw [bs_size]; exact List.length_pos_iff.2 hne)
                            obtain ⟨B, hB⟩ : ∃ B, bs U = B := ⟨_, rfl⟩
                            obtain ⟨A', hA'⟩ : ∃ A', A ++ U = A' := ⟨_, rfl⟩
                            rw [hB] at hap hz2 hem
                            rw [hA'] at hap hU' hal
                            have HU' := Lib.hid hU'
                            have HAL := Lib.hid (And.intro hws hal)
                            rw [hB] at cU
                            clear hU' hal hws hB hA' hne hl4
                            go_wp2_with (first | (go_at_call 40; refine (cd _).mono ?_; rintro e w1 ⟨rfl, hw1⟩; obtain rfl := hw1.symm) | (go_at_call 54; refine (cN _).mono ?_; rintro e w1 ⟨rfl, hw1⟩; obtain rfl := hw1.symm) | (go_at_call 55; refine (cU _).mono ?_; rintro e w2 ⟨rfl, hb2⟩))
                            have hji := HJI.out
                            obtain ⟨hws, hal⟩ := HAL.out
                            go_roundg g'
                            case measure => omega
                            case rel => exact ⟨j + 5, A', rfl, by go_num, hws, hal, HU', hbx.trans (hb2.mono hbx.size), by omega⟩
                        · rw [if_neg e4, if_neg e4] at hout
                          have hx2 : ((c2 : Int) == 117) = false := by rw [beq_eq_false_iff_ne]; omega
                          clear e4
                          by_cases e4 : c2 = 85
                          · rw [if_pos e4, if_pos e4] at hout
                            have hx85 : ((c2 : Int) == 85) = true := by rw [beq_iff_eq]; omega
                            have cN := fun W => rnumber_16 (bs (s.data.toList.drop (j + 1))) 8 W (by rw [bs_size, List.length_drop, ← Lib.size_eq]; omega) (by omega)
                            rw [bs_list] at cN
                            obtain ⟨n, hn⟩ : ∃ n, numL (s.data.toList.drop (j + 1)) 8 16 = n := ⟨_, rfl⟩
                            obtain ⟨SJ, hSJ⟩ : ∃ SJ, bs (s.data.toList.drop (j + 1)) = SJ := ⟨_, rfl⟩
                            rw [hn] at cN hout
                            rw [hSJ] at hsl cN
                            have cU := fun W => rutf8_any n W
                            obtain ⟨U, hU⟩ : ∃ U, utfL n = U := ⟨_, rfl⟩
                            rw [hU] at cU hout
                            clear hn hSJ hU e4
                            rcases hout with ⟨hne, hR⟩ | ⟨hne, hws, hU', hal, hl4⟩
                            · subst hR
                              subst hne
                              have cU2 : ∀ W, Calls Tryd.prog 55 #[.int .i64 n] W fun e w' => e = .returned (.string ⟨#[]⟩) ∧ Below W.heap.size W w' := cU
                              go_wp2_with (first | (go_at_call 40; refine (cd _).mono ?_; rintro e w1 ⟨rfl, hw1⟩; obtain rfl := hw1.symm) | (go_at_call 54; refine (cN _).mono ?_; rintro e w1 ⟨rfl, hw1⟩; obtain rfl := hw1.symm) | (go_at_call 55; refine (cU2 _).mono ?_; rintro e w2 ⟨rfl, hb2⟩))
                              go_ret2
                              exact ⟨rfl, hbx.trans (hb2.mono hbx.size)⟩
                            · have hap : bs A ++ bs U = bs (A ++ U) := bs_append _ _
                              have hz2 : ((bs U).size : Int) ≤ 8388608 := by rw [bs_size]; omega
                              have hem : (bs U).toList.isEmpty = false := not_empty (by rw [bs_size]; exact List.length_pos_iff.2 hne)
                              obtain ⟨B, hB⟩ : ∃ B, bs U = B := ⟨_, rfl⟩
                              obtain ⟨A', hA'⟩ : ∃ A', A ++ U = A' := ⟨_, rfl⟩
                              rw [hB] at hap hz2 hem
                              rw [hA'] at hap hU' hal
                              have HU' := Lib.hid hU'
                              have HAL := Lib.hid (And.intro hws hal)
                              rw [hB] at cU
                              clear hU' hal hws hB hA' hne hl4
                              go_wp2_with (first | (go_at_call 40; refine (cd _).mono ?_; rintro e w1 ⟨rfl, hw1⟩; obtain rfl := hw1.symm) | (go_at_call 54; refine (cN _).mono ?_; rintro e w1 ⟨rfl, hw1⟩; obtain rfl := hw1.symm) | (go_at_call 55; refine (cU _).mono ?_; rintro e w2 ⟨rfl, hb2⟩))
                              have hji := HJI.out
                              obtain ⟨hws, hal⟩ := HAL.out
                              go_roundg g'
                              case measure => omega
                              case rel => exact ⟨j + 9, A', rfl, by go_num, hws, hal, HU', hbx.trans (hb2.mono hbx.size), by omega⟩
                          · rw [if_neg e4, if_neg e4] at hout
                            have hx3 : ((c2 : Int) == 85) = false := by rw [beq_eq_false_iff_ne]; omega
                            have hR : R = none := by
                              rcases hout with ⟨_, h⟩ | ⟨h, _⟩
                              · exact h
                              · exact absurd rfl h
                            subst hR
                            clear hout e4
                            go_wp2_with (go_at_call 40; refine (cd _).mono ?_; rintro e w1 ⟨rfl, hw1⟩; obtain rfl := hw1.symm)
                            go_ret2
                            exact ⟨rfl, hbx⟩
            · have hje : ((i : Int) + 1 == (s.size : Int)) = true := by rw [beq_iff_eq]; omega
              have hn : R = none := by
                rw [← hst, List.drop_of_length_le (by rw [Array.length_toList]; exact Nat.le_of_not_lt hj)]
                rfl
              subst hn
              clear hst HU hj
              go_wp2
              go_ret2
              exact ⟨rfl, hbw⟩
          · have h92' : ((c : Int) == 92) = false := by simpa using h92
            rw [if_neg (by simp at h92; omega)] at hst
            have hsl : ∀ W, (Instr.slice 9 (.string s) (some (.int .i64 (i : Int))) (some (.int .i64 ((i : Int) + 1))) none).run Tryd.prog W = .ok (.string (bs [s[i]'hlt])) W := by
              intro W
              have h := sl_lh s i (i + 1) (by omega) (by omega) W
              have e : (s.data.toList.drop i).take (i + 1 - i) = [s[i]'hlt] := by
                rw [drop_at s hlt]
                have : i + 1 - i = 1 := by omega
                rw [this]
                rfl
              rw [e] at h
              exact h
            have hap : bs A ++ bs [s[i]'hlt] = bs (A ++ [s[i]'hlt]) := bs_append _ _
            have hz1 : ((bs A).size : Int) ≤ 8388608 := by rw [bs_size]; omega
            have hz2 : ((bs [s[i]'hlt]).size : Int) ≤ 8388608 := by rw [bs_size]; simp
            have hal : (A ++ [s[i]'hlt]).length ≤ i + 1 := by rw [List.length_append]; simp; omega
            have HU' := Lib.hid hst
            have HAL := Lib.hid hal
            obtain ⟨B, hB⟩ : ∃ B, bs [s[i]'hlt] = B := ⟨_, rfl⟩
            obtain ⟨A', hA'⟩ : ∃ A', A ++ [s[i]'hlt] = A' := ⟨_, rfl⟩
            rw [hB] at hsl hap hz2
            rw [hA'] at hap HU' HAL
            clear hst HU h92 hB hA' hal
            go_wp2
            go_roundg g'
            case measure => omega
            case rel => exact ⟨i + 1, A', rfl, by go_num, by omega, HAL.out, HU', hbw, by omega⟩
    · have he : R = some A := by
        rw [← HU.out, List.drop_of_length_le (by rw [Array.length_toList]; exact Nat.le_of_not_lt hlt)]
        rfl
      subst he
      clear HU
      go_wp2
      go_ret2
      exact ⟨rfl, hbw⟩
end Go.Proofs.YtkcjembmdiaclaaDoor
