/- The walks of the document's digit, letter, hex and number. -/
import Derived.Test.YtkcjembmdiaclaaDoorJ
namespace Go.Proofs.YtkcjembmdiaclaaDoor
open Go.RowKit Go.Lib Go.Maps
set_option linter.unusedVariables false
set_option linter.unusedSimpArgs false

theorem rdigit_any (c : Nat) (w : World) (h : c < 256) :
    Calls Tryd.prog 40 #[.int .u8 c] w fun e w' => e = .returned (.bool (digitN c)) ∧ w' = w := by
  have hd : digitN c = decide ((48 : Int) ≤ c ∧ (c : Int) ≤ 57) := by unfold digitN; exact decide_eq_decide.2 (by omega)
  rw [hd]
  by_cases h1 : (48 : Int) ≤ c <;> by_cases h2 : (c : Int) ≤ 57
  all_goals
    go_enter Tryd.func40, Tryd.ntmps40
    go_wp2
    go_ret
    exact ⟨by simp [*], rfl⟩

theorem rletter_any (c : Nat) (w : World) (h : c < 256) :
    Calls Tryd.prog 39 #[.int .u8 c] w fun e w' => e = .returned (.bool (letterN c)) ∧ w' = w := by
  obtain ⟨B, hB⟩ : ∃ B, letterN c = B := ⟨_, rfl⟩
  rw [hB]
  have hv : (c < 65) ∨ (65 ≤ c ∧ c ≤ 90) ∨ (90 < c ∧ c < 95) ∨ c = 95 ∨ c = 96 ∨ (97 ≤ c ∧ c ≤ 122) ∨ (122 < c ∧ c ≤ 127) ∨ 127 < c := by omega
  have key : ∀ (a b d e f g : Bool), decide ((97 : Int) ≤ c) = a → decide ((c : Int) ≤ 122) = b → decide ((65 : Int) ≤ c) = d → decide ((c : Int) ≤ 90) = e → ((c : Int) == 95) = f → decide ((127 : Int) < c) = g → (((a && b) || (d && e)) || f || g) = B →
      Calls Tryd.prog 39 #[.int .u8 c] w fun e w' => e = .returned (.bool B) ∧ w' = w := by
    intro a b d e f g ha hb hd he hf hg hB2
    clear hB hv h
    cases a <;> cases b <;> cases d <;> cases e <;> cases f <;> cases g
    all_goals
      simp at hB2
      subst hB2
      go_enter Tryd.func39, Tryd.ntmps39
      go_wp2
      go_ret
      exact ⟨rfl, rfl⟩
  refine key _ _ _ _ _ _ rfl rfl rfl rfl rfl rfl ?_
  rw [← hB]
  unfold letterN
  rw [Bool.eq_iff_iff]
  simp
  omega

/-- What a digit is worth; below 0: it is none. -/
def hexV (c : Nat) : Int := if 48 ≤ c ∧ c ≤ 57 then (c : Int) - 48 else if 97 ≤ c ∧ c ≤ 102 then (c : Int) - 87 else if 65 ≤ c ∧ c ≤ 70 then (c : Int) - 55 else -1
theorem hexV_bd (c : Nat) : -1 ≤ hexV c ∧ hexV c ≤ 15 := by
  unfold hexV
  repeat' split
  all_goals omega
set_option maxHeartbeats 1000000 in
theorem rhex_any (c : Nat) (w : World) (h : c < 256) :
    Calls Tryd.prog 66 #[.int .u8 c] w fun e w' => e = .returned (.int .i64 (hexV c)) ∧ w' = w := by
  have cd := fun w => rdigit_any c w h
  obtain ⟨V, hV⟩ : ∃ V, hexV c = V := ⟨_, rfl⟩
  rw [hV]
  unfold hexV at hV
  by_cases h1 : 48 ≤ c ∧ c ≤ 57
  · have e2 : digitN c = true := by unfold digitN; exact decide_eq_true h1
    rw [if_pos h1] at hV
    rw [e2] at cd
    obtain ⟨a1, a2⟩ := h1
    have b1 : (48 : Int) ≤ (c : Int) := by omega
    have b2 : (c : Int) ≤ 57 := by omega
    go_enter Tryd.func66, Tryd.ntmps66
    go_wp2_with (go_at_call 40; refine (cd _).mono ?_; rintro e w' ⟨rfl, hw'⟩; obtain rfl := hw'.symm)
    go_ret
    exact ⟨ret_int (by omega), rfl⟩
  · have e2 : digitN c = false := by unfold digitN; exact decide_eq_false h1
    rw [if_neg h1] at hV
    rw [e2] at cd
    by_cases h2 : 97 ≤ c ∧ c ≤ 102
    · rw [if_pos h2] at hV
      obtain ⟨a1, a2⟩ := h2
      have b1 : (97 : Int) ≤ (c : Int) := by omega
      have b2 : (c : Int) ≤ 102 := by omega
      clear h1
      go_enter Tryd.func66, Tryd.ntmps66
      go_wp2_with (go_at_call 40; refine (cd _).mono ?_; rintro e w' ⟨rfl, hw'⟩; obtain rfl := hw'.symm)
      go_ret
      exact ⟨ret_int (by omega), rfl⟩
    · rw [if_neg h2] at hV
      by_cases h3 : 65 ≤ c ∧ c ≤ 70
      · rw [if_pos h3] at hV
        obtain ⟨a1, a2⟩ := h3
        have b1 : (65 : Int) ≤ (c : Int) := by omega
        have b2 : (c : Int) ≤ 70 := by omega
        clear h1 h2
        go_enter Tryd.func66, Tryd.ntmps66
        go_wp2_with (go_at_call 40; refine (cd _).mono ?_; rintro e w' ⟨rfl, hw'⟩; obtain rfl := hw'.symm)
        go_ret
        exact ⟨ret_int (by omega), rfl⟩
      · rw [if_neg h3] at hV
        subst hV
        by_cases k1 : (97 : Int) ≤ (c : Int)
        · have k2 : (102 : Int) < (c : Int) := by omega
          clear h1 h2 h3
          go_enter Tryd.func66, Tryd.ntmps66
          go_wp2_with (go_at_call 40; refine (cd _).mono ?_; rintro e w' ⟨rfl, hw'⟩; obtain rfl := hw'.symm)
          go_ret
          exact ⟨rfl, rfl⟩
        · have k1' : (c : Int) < 97 := by omega
          by_cases k3 : (65 : Int) ≤ (c : Int)
          · have k4 : (70 : Int) < (c : Int) := by omega
            clear h1 h2 h3 k1
            go_enter Tryd.func66, Tryd.ntmps66
            go_wp2_with (go_at_call 40; refine (cd _).mono ?_; rintro e w' ⟨rfl, hw'⟩; obtain rfl := hw'.symm)
            go_ret
            exact ⟨rfl, rfl⟩
          · have k3' : (c : Int) < 65 := by omega
            clear h1 h2 h3 k1 k3
            go_enter Tryd.func66, Tryd.ntmps66
            go_wp2_with (go_at_call 40; refine (cd _).mono ?_; rintro e w' ⟨rfl, hw'⟩; obtain rfl := hw'.symm)
            go_ret
            exact ⟨rfl, rfl⟩

def nFrom (base : Int) : List UInt8 → Int → Int
  | [], n => n
  | c :: r, n => if hexV c.toNat < 0 ∨ base ≤ hexV c.toNat then -1 else nFrom base r (n * base + hexV c.toNat)
/-- What the document's number says. -/
def numL (l : List UInt8) (many : Nat) (base : Int) : Int := if l.length < many then -1 else nFrom base (l.take many) 0
end Go.Proofs.YtkcjembmdiaclaaDoor
