/-
  NARROWER THAN 'FOR EVERY INPUT', by the rows' own cells (each row's printed sentence says how): ScanTokens: laid · ScanLines: laid · ScanQuoted: laid · ScanRest: laid · ScanNames: laid · ScanRemarks: laid.
  DERIVED. THE GIVEN ROWS OF THIS SEAT. 6 by the template 'for every input the law returns true; each argument reads behind the call as it read before'; 0 by the template 'total and deterministic' (their statements: YtkcjembmdiaclaaDoorTotals.lean).
  GIVEN WITH THE SEED: the statements are not yours to turn. If you find one false, say at which input.
  Laid BY PROGRAM, IN A SANDBOX (cutbox-rows.mjs): the forced cells as the released guide's own fill.sh prints them over the translation f3269482942e284c… (all of the seat's roots in one cut). By AI agents, Wed Nov 11 2026. No macro, syntax, notation, axiom, sorry.
-/
import Derived.Test.YtkcjembmdiaclaaDoorChecked
import GoSem.PinnedTables
import GoSem.Claim
import GoSem.ClaimJoined
import GoSem.ClaimMapViews
import Derived.JoinedTies
import Derived.KernelRfl
namespace Go.Proofs.YtkcjembmdiaclaaDoor
/- THE CELL 'sum', in the pinned program and in every row, IS THE sha256 OF THE DUMP (.gsa) THAT YtkcjembmdiaclaaDoorProg.lean LOADS. Nothing in Lean hashes anything: it is a label: what it is worth is what the hold of that sum in a sandbox is worth. -/
noncomputable def Tryd.pinned : Pinned := { name := "ytkcjembmdiaclaadoor", sum := "f3269482942e284c8c2df84abe36c828933bef98d479acdba784c9116004987b", checked := Tryd.checked }
namespace Rows
def none {H : Type} : Left H := { results := [], args := [] }

/- WHAT THE LISTED PACKAGE-LEVEL VARIABLES READ AS WHEN THE CALL BEGINS. Each datum BY PROGRAM (the guide's laid-datum.mjs) off the statement by which the dump's own 'gosem.cut.vars' lays the variable. In a bare row this is a premise. The card (YtkcjembmdiaclaaDoorCards.lean) ties it to the program's text. -/
def laid_unicode_utf8_acceptRanges {H : Type} : DataW H := .agg [.agg [.lit (.int .u8 128), .lit (.int .u8 191)], .agg [.lit (.int .u8 160), .lit (.int .u8 191)], .agg [.lit (.int .u8 128), .lit (.int .u8 159)], .agg [.lit (.int .u8 144), .lit (.int .u8 191)], .agg [.lit (.int .u8 128), .lit (.int .u8 143)], .agg [.lit (.int .u8 0), .lit (.int .u8 0)], .agg [.lit (.int .u8 0), .lit (.int .u8 0)], .agg [.lit (.int .u8 0), .lit (.int .u8 0)], .agg [.lit (.int .u8 0), .lit (.int .u8 0)], .agg [.lit (.int .u8 0), .lit (.int .u8 0)], .agg [.lit (.int .u8 0), .lit (.int .u8 0)], .agg [.lit (.int .u8 0), .lit (.int .u8 0)], .agg [.lit (.int .u8 0), .lit (.int .u8 0)], .agg [.lit (.int .u8 0), .lit (.int .u8 0)], .agg [.lit (.int .u8 0), .lit (.int .u8 0)], .agg [.lit (.int .u8 0), .lit (.int .u8 0)]]
/-- One of Go's own tables, pinned by name: the form's constant. -/
def laid_unicode_utf8_first : DataW Unit := Go.Pinned.utf8First

/-- 'graftbedlaw10.ScanTokens': WHATEVER THE INPUT: true; the input reads as it did. -/
def scanTokensSpec : ChangeSpec := { name := "scanTokens", fn := fun _ => fun
  | [d] => { results := [.lit (.bool true)], args := [d] }
  | _ => none }
def scanTokensRow : OpenClaim := { program := "ytkcjembmdiaclaadoor", sum := "f3269482942e284c8c2df84abe36c828933bef98d479acdba784c9116004987b", func := "graftbed/graftbedlaw10.ScanTokens", spec := "scanTokens", inPlace := ["internal/bytealg.CountString", "internal/bytealg.IndexByteString", "internal/bytealg.IndexString", "internal/abi.NoEscape", "internal/bytealg.MakeNoZero"], unfollowed := true, recurses := true, named := ["unicode/utf8.first", "unicode/utf8.acceptRanges", "internal/bytealg.MaxLen"], apart := false, laid := [("unicode/utf8.acceptRanges", laid_unicode_utf8_acceptRanges), ("unicode/utf8.first", laid_unicode_utf8_first)] }
def ScanTokensSaid : Prop := scanTokensRow.holds Tryd.pinned (OpenSpec.ofChange scanTokensSpec)

/-- ITS FALSE NEIGHBOUR: 'it returns false'. Refute it at one input. -/
def scanTokensWrong : ChangeSpec := { name := "scanTokens", fn := fun _ => fun
  | [d] => { results := [.lit (.bool false)], args := [d] }
  | _ => none }
def ScanTokensWrongFalsely : Prop := scanTokensRow.holds Tryd.pinned (OpenSpec.ofChange scanTokensWrong)

/-- 'graftbedlaw10.ScanLines': WHATEVER THE INPUT: true; the input reads as it did. -/
def scanLinesSpec : ChangeSpec := { name := "scanLines", fn := fun _ => fun
  | [d] => { results := [.lit (.bool true)], args := [d] }
  | _ => none }
def scanLinesRow : OpenClaim := { program := "ytkcjembmdiaclaadoor", sum := "f3269482942e284c8c2df84abe36c828933bef98d479acdba784c9116004987b", func := "graftbed/graftbedlaw10.ScanLines", spec := "scanLines", inPlace := ["internal/bytealg.CountString", "internal/bytealg.IndexByteString", "internal/bytealg.IndexString", "internal/abi.NoEscape", "internal/bytealg.MakeNoZero"], unfollowed := true, recurses := true, named := ["unicode/utf8.first", "unicode/utf8.acceptRanges", "internal/bytealg.MaxLen"], apart := false, laid := [("unicode/utf8.acceptRanges", laid_unicode_utf8_acceptRanges), ("unicode/utf8.first", laid_unicode_utf8_first)] }
def ScanLinesSaid : Prop := scanLinesRow.holds Tryd.pinned (OpenSpec.ofChange scanLinesSpec)

/-- ITS FALSE NEIGHBOUR: 'it returns false'. Refute it at one input. -/
def scanLinesWrong : ChangeSpec := { name := "scanLines", fn := fun _ => fun
  | [d] => { results := [.lit (.bool false)], args := [d] }
  | _ => none }
def ScanLinesWrongFalsely : Prop := scanLinesRow.holds Tryd.pinned (OpenSpec.ofChange scanLinesWrong)

/-- 'graftbedlaw10.ScanQuoted': WHATEVER THE INPUT: true; the input reads as it did. -/
def scanQuotedSpec : ChangeSpec := { name := "scanQuoted", fn := fun _ => fun
  | [d] => { results := [.lit (.bool true)], args := [d] }
  | _ => none }
def scanQuotedRow : OpenClaim := { program := "ytkcjembmdiaclaadoor", sum := "f3269482942e284c8c2df84abe36c828933bef98d479acdba784c9116004987b", func := "graftbed/graftbedlaw10.ScanQuoted", spec := "scanQuoted", inPlace := ["internal/bytealg.CountString", "internal/bytealg.IndexByteString", "internal/bytealg.IndexString", "internal/abi.NoEscape", "internal/bytealg.MakeNoZero"], unfollowed := true, recurses := true, named := ["unicode/utf8.first", "unicode/utf8.acceptRanges", "internal/bytealg.MaxLen"], apart := false, laid := [("unicode/utf8.acceptRanges", laid_unicode_utf8_acceptRanges), ("unicode/utf8.first", laid_unicode_utf8_first)] }
def ScanQuotedSaid : Prop := scanQuotedRow.holds Tryd.pinned (OpenSpec.ofChange scanQuotedSpec)

/-- ITS FALSE NEIGHBOUR: 'it returns false'. Refute it at one input. -/
def scanQuotedWrong : ChangeSpec := { name := "scanQuoted", fn := fun _ => fun
  | [d] => { results := [.lit (.bool false)], args := [d] }
  | _ => none }
def ScanQuotedWrongFalsely : Prop := scanQuotedRow.holds Tryd.pinned (OpenSpec.ofChange scanQuotedWrong)

/-- 'graftbedlaw10.ScanRest': WHATEVER THE INPUT: true; the input reads as it did. -/
def scanRestSpec : ChangeSpec := { name := "scanRest", fn := fun _ => fun
  | [d1, d2] => { results := [.lit (.bool true)], args := [d1, d2] }
  | _ => none }
def scanRestRow : OpenClaim := { program := "ytkcjembmdiaclaadoor", sum := "f3269482942e284c8c2df84abe36c828933bef98d479acdba784c9116004987b", func := "graftbed/graftbedlaw10.ScanRest", spec := "scanRest", inPlace := ["internal/bytealg.CountString", "internal/bytealg.IndexByteString", "internal/bytealg.IndexString", "internal/abi.NoEscape", "internal/bytealg.MakeNoZero"], unfollowed := true, recurses := true, named := ["unicode/utf8.first", "unicode/utf8.acceptRanges", "internal/bytealg.MaxLen"], apart := false, laid := [("unicode/utf8.acceptRanges", laid_unicode_utf8_acceptRanges), ("unicode/utf8.first", laid_unicode_utf8_first)] }
def ScanRestSaid : Prop := scanRestRow.holds Tryd.pinned (OpenSpec.ofChange scanRestSpec)

/-- ITS FALSE NEIGHBOUR: 'it returns false'. Refute it at one input. -/
def scanRestWrong : ChangeSpec := { name := "scanRest", fn := fun _ => fun
  | [d1, d2] => { results := [.lit (.bool false)], args := [d1, d2] }
  | _ => none }
def ScanRestWrongFalsely : Prop := scanRestRow.holds Tryd.pinned (OpenSpec.ofChange scanRestWrong)

/-- 'graftbedlaw10.ScanNames': WHATEVER THE INPUT: true; the input reads as it did. -/
def scanNamesSpec : ChangeSpec := { name := "scanNames", fn := fun _ => fun
  | [d1, d2] => { results := [.lit (.bool true)], args := [d1, d2] }
  | _ => none }
def scanNamesRow : OpenClaim := { program := "ytkcjembmdiaclaadoor", sum := "f3269482942e284c8c2df84abe36c828933bef98d479acdba784c9116004987b", func := "graftbed/graftbedlaw10.ScanNames", spec := "scanNames", inPlace := ["internal/bytealg.CountString", "internal/bytealg.IndexByteString", "internal/bytealg.IndexString", "internal/abi.NoEscape", "internal/bytealg.MakeNoZero"], unfollowed := true, recurses := true, named := ["unicode/utf8.first", "unicode/utf8.acceptRanges", "internal/bytealg.MaxLen"], apart := false, laid := [("unicode/utf8.acceptRanges", laid_unicode_utf8_acceptRanges), ("unicode/utf8.first", laid_unicode_utf8_first)] }
def ScanNamesSaid : Prop := scanNamesRow.holds Tryd.pinned (OpenSpec.ofChange scanNamesSpec)

/-- ITS FALSE NEIGHBOUR: 'it returns false'. Refute it at one input. -/
def scanNamesWrong : ChangeSpec := { name := "scanNames", fn := fun _ => fun
  | [d1, d2] => { results := [.lit (.bool false)], args := [d1, d2] }
  | _ => none }
def ScanNamesWrongFalsely : Prop := scanNamesRow.holds Tryd.pinned (OpenSpec.ofChange scanNamesWrong)

/-- 'graftbedlaw10.ScanRemarks': WHATEVER THE INPUT: true; the input reads as it did. -/
def scanRemarksSpec : ChangeSpec := { name := "scanRemarks", fn := fun _ => fun
  | [d1, d2] => { results := [.lit (.bool true)], args := [d1, d2] }
  | _ => none }
def scanRemarksRow : OpenClaim := { program := "ytkcjembmdiaclaadoor", sum := "f3269482942e284c8c2df84abe36c828933bef98d479acdba784c9116004987b", func := "graftbed/graftbedlaw10.ScanRemarks", spec := "scanRemarks", inPlace := ["internal/bytealg.CountString", "internal/bytealg.IndexByteString", "internal/bytealg.IndexString", "internal/abi.NoEscape", "internal/bytealg.MakeNoZero"], unfollowed := true, recurses := true, named := ["unicode/utf8.first", "unicode/utf8.acceptRanges", "internal/bytealg.MaxLen"], apart := false, laid := [("unicode/utf8.acceptRanges", laid_unicode_utf8_acceptRanges), ("unicode/utf8.first", laid_unicode_utf8_first)] }
def ScanRemarksSaid : Prop := scanRemarksRow.holds Tryd.pinned (OpenSpec.ofChange scanRemarksSpec)

/-- ITS FALSE NEIGHBOUR: 'it returns false'. Refute it at one input. -/
def scanRemarksWrong : ChangeSpec := { name := "scanRemarks", fn := fun _ => fun
  | [d1, d2] => { results := [.lit (.bool false)], args := [d1, d2] }
  | _ => none }
def ScanRemarksWrongFalsely : Prop := scanRemarksRow.holds Tryd.pinned (OpenSpec.ofChange scanRemarksWrong)

/- THE SECOND FORM. 'bulk': how many values and letters a reading holds, each counted each time it is reached (what is shared counts as often as it is met; a slice's spare places count too). A statement '..UptoSaid' is the law's where the arguments, and the package variables that the reading takes, are together of bulk at most 1048576: NARROWER than '..Said'. Prove '..Said' where nothing that the law and all that it calls make is longer than what came in: it says more and counts as full. Else prove '..UptoSaid'. A law counts once. -/
mutual
def uptoBulk {H : Type} : DataW H → Nat
  | .lit (.string bytes) => bytes.length + 1
  | .lit _ => 1
  | .nil => 1
  | .ptr d => uptoBulk d + 1
  | .slice elems spare => uptoBulkAll elems + uptoBulkAll spare + 1
  | .agg parts => uptoBulkAll parts + 1
  | .iface _ d => uptoBulk d + 1
  | .map entries => uptoBulkEntries entries + 1
  | .held _ => 1
def uptoBulkAll {H : Type} : List (DataW H) → Nat
  | [] => 0
  | d :: r => uptoBulk d + uptoBulkAll r
def uptoBulkEntries {H : Type} : List (Lit × DataW H) → Nat
  | [] => 0
  | x :: r => uptoBulkEntry x + uptoBulkEntries r
def uptoBulkEntry {H : Type} : Lit × DataW H → Nat
  | (.string bytes, d) => bytes.length + uptoBulk d + 1
  | (_, d) => uptoBulk d + 1
 end
def uptoSmall : (H : Type) → List (DataW H) → Bool := fun _ ds => decide (uptoBulkAll ds ≤ 1048576)
def OpenSpec.upto (s : _root_.Go.ChangeSpec) : _root_.Go.OpenSpec := { _root_.Go.OpenSpec.ofChange s with cond := some uptoSmall }

/-- 'graftbedlaw10.ScanTokens', WHERE WHAT IT READS IS OF BULK AT MOST 1048576: true; the input reads as it did. -/
def scanTokensUptoRow : OpenClaim := { program := "ytkcjembmdiaclaadoor", sum := "f3269482942e284c8c2df84abe36c828933bef98d479acdba784c9116004987b", func := "graftbed/graftbedlaw10.ScanTokens", spec := "scanTokens", inPlace := ["internal/bytealg.CountString", "internal/bytealg.IndexByteString", "internal/bytealg.IndexString", "internal/abi.NoEscape", "internal/bytealg.MakeNoZero"], unfollowed := true, recurses := true, named := ["unicode/utf8.first", "unicode/utf8.acceptRanges", "internal/bytealg.MaxLen"], apart := false, laid := [("unicode/utf8.acceptRanges", laid_unicode_utf8_acceptRanges), ("unicode/utf8.first", laid_unicode_utf8_first)], narrowed := true }
def ScanTokensUptoSaid : Prop := scanTokensUptoRow.holds Tryd.pinned (OpenSpec.upto scanTokensSpec)

/-- 'graftbedlaw10.ScanLines', WHERE WHAT IT READS IS OF BULK AT MOST 1048576: true; the input reads as it did. -/
def scanLinesUptoRow : OpenClaim := { program := "ytkcjembmdiaclaadoor", sum := "f3269482942e284c8c2df84abe36c828933bef98d479acdba784c9116004987b", func := "graftbed/graftbedlaw10.ScanLines", spec := "scanLines", inPlace := ["internal/bytealg.CountString", "internal/bytealg.IndexByteString", "internal/bytealg.IndexString", "internal/abi.NoEscape", "internal/bytealg.MakeNoZero"], unfollowed := true, recurses := true, named := ["unicode/utf8.first", "unicode/utf8.acceptRanges", "internal/bytealg.MaxLen"], apart := false, laid := [("unicode/utf8.acceptRanges", laid_unicode_utf8_acceptRanges), ("unicode/utf8.first", laid_unicode_utf8_first)], narrowed := true }
def ScanLinesUptoSaid : Prop := scanLinesUptoRow.holds Tryd.pinned (OpenSpec.upto scanLinesSpec)

/-- 'graftbedlaw10.ScanQuoted', WHERE WHAT IT READS IS OF BULK AT MOST 1048576: true; the input reads as it did. -/
def scanQuotedUptoRow : OpenClaim := { program := "ytkcjembmdiaclaadoor", sum := "f3269482942e284c8c2df84abe36c828933bef98d479acdba784c9116004987b", func := "graftbed/graftbedlaw10.ScanQuoted", spec := "scanQuoted", inPlace := ["internal/bytealg.CountString", "internal/bytealg.IndexByteString", "internal/bytealg.IndexString", "internal/abi.NoEscape", "internal/bytealg.MakeNoZero"], unfollowed := true, recurses := true, named := ["unicode/utf8.first", "unicode/utf8.acceptRanges", "internal/bytealg.MaxLen"], apart := false, laid := [("unicode/utf8.acceptRanges", laid_unicode_utf8_acceptRanges), ("unicode/utf8.first", laid_unicode_utf8_first)], narrowed := true }
def ScanQuotedUptoSaid : Prop := scanQuotedUptoRow.holds Tryd.pinned (OpenSpec.upto scanQuotedSpec)

/-- 'graftbedlaw10.ScanRest', WHERE WHAT IT READS IS OF BULK AT MOST 1048576: true; the input reads as it did. -/
def scanRestUptoRow : OpenClaim := { program := "ytkcjembmdiaclaadoor", sum := "f3269482942e284c8c2df84abe36c828933bef98d479acdba784c9116004987b", func := "graftbed/graftbedlaw10.ScanRest", spec := "scanRest", inPlace := ["internal/bytealg.CountString", "internal/bytealg.IndexByteString", "internal/bytealg.IndexString", "internal/abi.NoEscape", "internal/bytealg.MakeNoZero"], unfollowed := true, recurses := true, named := ["unicode/utf8.first", "unicode/utf8.acceptRanges", "internal/bytealg.MaxLen"], apart := false, laid := [("unicode/utf8.acceptRanges", laid_unicode_utf8_acceptRanges), ("unicode/utf8.first", laid_unicode_utf8_first)], narrowed := true }
def ScanRestUptoSaid : Prop := scanRestUptoRow.holds Tryd.pinned (OpenSpec.upto scanRestSpec)

/-- 'graftbedlaw10.ScanNames', WHERE WHAT IT READS IS OF BULK AT MOST 1048576: true; the input reads as it did. -/
def scanNamesUptoRow : OpenClaim := { program := "ytkcjembmdiaclaadoor", sum := "f3269482942e284c8c2df84abe36c828933bef98d479acdba784c9116004987b", func := "graftbed/graftbedlaw10.ScanNames", spec := "scanNames", inPlace := ["internal/bytealg.CountString", "internal/bytealg.IndexByteString", "internal/bytealg.IndexString", "internal/abi.NoEscape", "internal/bytealg.MakeNoZero"], unfollowed := true, recurses := true, named := ["unicode/utf8.first", "unicode/utf8.acceptRanges", "internal/bytealg.MaxLen"], apart := false, laid := [("unicode/utf8.acceptRanges", laid_unicode_utf8_acceptRanges), ("unicode/utf8.first", laid_unicode_utf8_first)], narrowed := true }
def ScanNamesUptoSaid : Prop := scanNamesUptoRow.holds Tryd.pinned (OpenSpec.upto scanNamesSpec)

/-- 'graftbedlaw10.ScanRemarks', WHERE WHAT IT READS IS OF BULK AT MOST 1048576: true; the input reads as it did. -/
def scanRemarksUptoRow : OpenClaim := { program := "ytkcjembmdiaclaadoor", sum := "f3269482942e284c8c2df84abe36c828933bef98d479acdba784c9116004987b", func := "graftbed/graftbedlaw10.ScanRemarks", spec := "scanRemarks", inPlace := ["internal/bytealg.CountString", "internal/bytealg.IndexByteString", "internal/bytealg.IndexString", "internal/abi.NoEscape", "internal/bytealg.MakeNoZero"], unfollowed := true, recurses := true, named := ["unicode/utf8.first", "unicode/utf8.acceptRanges", "internal/bytealg.MaxLen"], apart := false, laid := [("unicode/utf8.acceptRanges", laid_unicode_utf8_acceptRanges), ("unicode/utf8.first", laid_unicode_utf8_first)], narrowed := true }
def ScanRemarksUptoSaid : Prop := scanRemarksUptoRow.holds Tryd.pinned (OpenSpec.upto scanRemarksSpec)

end Rows
end Go.Proofs.YtkcjembmdiaclaaDoor
