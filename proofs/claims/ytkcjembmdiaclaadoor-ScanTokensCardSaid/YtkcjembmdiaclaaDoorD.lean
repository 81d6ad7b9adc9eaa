/- The library's contracts in this claim's words; what the package variables hold. -/
import Derived.Test.YtkcjembmdiaclaaDoorA
import Derived.Test.YtkcjembmdiaclaaDoorShelf
namespace Go.Proofs.YtkcjembmdiaclaaDoor
open Go.RowKit Go.Lib
set_option linter.unusedVariables false
set_option linter.unusedSimpArgs false

theorem below_drewN (w : World) (n : Nat) : Below w.heap.size w (w.drewN n) := below_drewNg w n

theorem hexDigit_any (s : ByteArray) (c : Int) (w : World) :
    Calls Tryd.prog 57 #[.string s, .int .u8 c] w fun e w' => e = .returned (.int .i64 (Lib.indexByte s.data.toList c.toNat.toUInt8)) ∧ w' = w := Tryd.strings_IndexByte s c w

/-- Stretches of a string, as the walk takes them. -/
theorem sl_h (s : ByteArray) (n : Nat) (h : n ≤ s.size) (W : World) : (Instr.slice 9 (.string s) none (some (.int .i64 (n : Int))) none).run Tryd.prog W = .ok (.string (bs (s.data.toList.take n))) W := by
  rw [run_slice_string_h W 9 s Tryd.underlying9 .i64 n (by omega) (by omega), Int.toNat_natCast, bs_take]
theorem sl_l (s : ByteArray) (n : Nat) (h : n ≤ s.size) (W : World) : (Instr.slice 9 (.string s) (some (.int .i64 (n : Int))) none none).run Tryd.prog W = .ok (.string (bs (s.data.toList.drop n))) W := by
  rw [run_slice_string_l W 9 s Tryd.underlying9 .i64 n (by omega) (by omega), Int.toNat_natCast, bs_drop]
theorem sl_lh (s : ByteArray) (a b : Nat) (h : a ≤ b) (h2 : b ≤ s.size) (W : World) : (Instr.slice 9 (.string s) (some (.int .i64 (a : Int))) (some (.int .i64 (b : Int))) none).run Tryd.prog W = .ok (.string (bs ((s.data.toList.drop a).take (b - a)))) W := by
  rw [run_slice_string W 9 s .i64 .i64 a b Tryd.underlying9 (by omega) (by omega) (by omega), Int.toNat_natCast, Int.toNat_natCast, bs_extract]
end Go.Proofs.YtkcjembmdiaclaaDoor
