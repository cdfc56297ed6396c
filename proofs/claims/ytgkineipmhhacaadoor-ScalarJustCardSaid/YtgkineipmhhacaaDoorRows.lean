/-
  NARROWER THAN 'FOR EVERY INPUT', by the rows' own cells (each row's printed sentence says how): ScalarNumbers: loops, laid · ScalarBits: loops, laid · ScalarNames: loops, laid · ScalarBack: laid · ScalarTexts: loops, laid · ScalarJust: loops, laid.
  DERIVED. THE GIVEN ROWS OF THIS SEAT. 6 by the template 'for every input the law returns true; each argument reads behind the call as it read before'; 0 by the template 'total and deterministic' (their statements: YtgkineipmhhacaaDoorTotals.lean).
  GIVEN WITH THE SEED: the statements are not yours to turn. If you find one false, say at which input.
  Laid BY PROGRAM, IN A SANDBOX (cutbox-rows.mjs): the forced cells as the released guide's own fill.sh prints them over the translation 3b49ce18f9b37c5f… (all of the seat's roots in one cut). By AI agents, Wed Nov 11 2026. No macro, syntax, notation, axiom, sorry.
-/
import Derived.Test.YtgkineipmhhacaaDoorChecked
import GoSem.PinnedTables
import GoSem.Claim
import GoSem.ClaimJoined
import GoSem.ClaimMapViews
import Derived.JoinedTies
import Derived.KernelRfl
namespace Go.Proofs.YtgkineipmhhacaaDoor
/- THE CELL 'sum', in the pinned program and in every row, IS THE sha256 OF THE DUMP (.gsa) THAT YtgkineipmhhacaaDoorProg.lean LOADS. Nothing in Lean hashes anything: it is a label: what it is worth is what the hold of that sum in a sandbox is worth. -/
noncomputable def Tryd.pinned : Pinned := { name := "ytgkineipmhhacaadoor", sum := "3b49ce18f9b37c5f002ee98cc42ba0fc04796439843dba44b29625a28a58dc02", checked := Tryd.checked }
namespace Rows
def none {H : Type} : Left H := { results := [], args := [] }

/- WHAT THE LISTED PACKAGE-LEVEL VARIABLES READ AS WHEN THE CALL BEGINS. Each datum BY PROGRAM (the guide's laid-datum.mjs) off the statement by which the dump's own 'gosem.cut.vars' lays the variable. In a bare row this is a premise. The card (YtgkineipmhhacaaDoorCards.lean) ties it to the program's text. -/
def laid_unicode_utf8_acceptRanges {H : Type} : DataW H := .agg [.agg [.lit (.int .u8 128), .lit (.int .u8 191)], .agg [.lit (.int .u8 160), .lit (.int .u8 191)], .agg [.lit (.int .u8 128), .lit (.int .u8 159)], .agg [.lit (.int .u8 144), .lit (.int .u8 191)], .agg [.lit (.int .u8 128), .lit (.int .u8 143)], .agg [.lit (.int .u8 0), .lit (.int .u8 0)], .agg [.lit (.int .u8 0), .lit (.int .u8 0)], .agg [.lit (.int .u8 0), .lit (.int .u8 0)], .agg [.lit (.int .u8 0), .lit (.int .u8 0)], .agg [.lit (.int .u8 0), .lit (.int .u8 0)], .agg [.lit (.int .u8 0), .lit (.int .u8 0)], .agg [.lit (.int .u8 0), .lit (.int .u8 0)], .agg [.lit (.int .u8 0), .lit (.int .u8 0)], .agg [.lit (.int .u8 0), .lit (.int .u8 0)], .agg [.lit (.int .u8 0), .lit (.int .u8 0)], .agg [.lit (.int .u8 0), .lit (.int .u8 0)]]
/-- One of Go's own tables, pinned by name: the form's constant. -/
def laid_unicode_utf8_first : DataW Unit := Go.Pinned.utf8First

/-- 'lanyardlaw05.ScalarNumbers': WHATEVER THE INPUT: true; the input reads as it did. -/
def scalarNumbersSpec : ChangeSpec := { name := "scalarNumbers", fn := fun _ => fun
  | [d1, d2, d3] => { results := [.lit (.bool true)], args := [d1, d2, d3] }
  | _ => none }
def scalarNumbersRow : OpenClaim := { program := "ytgkineipmhhacaadoor", sum := "3b49ce18f9b37c5f002ee98cc42ba0fc04796439843dba44b29625a28a58dc02", func := "lanyard/lanyardlaw05.ScalarNumbers", spec := "scalarNumbers", unfollowed := true, recurses := true, named := ["unicode/utf8.first", "unicode/utf8.acceptRanges"], loops := true, apart := false, laid := [("unicode/utf8.acceptRanges", laid_unicode_utf8_acceptRanges), ("unicode/utf8.first", laid_unicode_utf8_first)] }
def ScalarNumbersSaid : Prop := scalarNumbersRow.holds Tryd.pinned (OpenSpec.ofChange scalarNumbersSpec)

/-- ITS FALSE NEIGHBOUR: 'it returns false'. Refute it at one input. -/
def scalarNumbersWrong : ChangeSpec := { name := "scalarNumbers", fn := fun _ => fun
  | [d1, d2, d3] => { results := [.lit (.bool false)], args := [d1, d2, d3] }
  | _ => none }
def ScalarNumbersWrongFalsely : Prop := scalarNumbersRow.holds Tryd.pinned (OpenSpec.ofChange scalarNumbersWrong)

/-- 'lanyardlaw05.ScalarBits': WHATEVER THE INPUT: true; the input reads as it did. -/
def scalarBitsSpec : ChangeSpec := { name := "scalarBits", fn := fun _ => fun
  | [d1, d2, d3] => { results := [.lit (.bool true)], args := [d1, d2, d3] }
  | _ => none }
def scalarBitsRow : OpenClaim := { program := "ytgkineipmhhacaadoor", sum := "3b49ce18f9b37c5f002ee98cc42ba0fc04796439843dba44b29625a28a58dc02", func := "lanyard/lanyardlaw05.ScalarBits", spec := "scalarBits", unfollowed := true, recurses := true, named := ["unicode/utf8.first", "unicode/utf8.acceptRanges"], loops := true, apart := false, laid := [("unicode/utf8.acceptRanges", laid_unicode_utf8_acceptRanges), ("unicode/utf8.first", laid_unicode_utf8_first)] }
def ScalarBitsSaid : Prop := scalarBitsRow.holds Tryd.pinned (OpenSpec.ofChange scalarBitsSpec)

/-- ITS FALSE NEIGHBOUR: 'it returns false'. Refute it at one input. -/
def scalarBitsWrong : ChangeSpec := { name := "scalarBits", fn := fun _ => fun
  | [d1, d2, d3] => { results := [.lit (.bool false)], args := [d1, d2, d3] }
  | _ => none }
def ScalarBitsWrongFalsely : Prop := scalarBitsRow.holds Tryd.pinned (OpenSpec.ofChange scalarBitsWrong)

/-- 'lanyardlaw05.ScalarNames': WHATEVER THE INPUT: true; the input reads as it did. -/
def scalarNamesSpec : ChangeSpec := { name := "scalarNames", fn := fun _ => fun
  | [d1, d2] => { results := [.lit (.bool true)], args := [d1, d2] }
  | _ => none }
def scalarNamesRow : OpenClaim := { program := "ytgkineipmhhacaadoor", sum := "3b49ce18f9b37c5f002ee98cc42ba0fc04796439843dba44b29625a28a58dc02", func := "lanyard/lanyardlaw05.ScalarNames", spec := "scalarNames", unfollowed := true, recurses := true, named := ["unicode/utf8.first", "unicode/utf8.acceptRanges"], loops := true, apart := false, laid := [("unicode/utf8.acceptRanges", laid_unicode_utf8_acceptRanges), ("unicode/utf8.first", laid_unicode_utf8_first)] }
def ScalarNamesSaid : Prop := scalarNamesRow.holds Tryd.pinned (OpenSpec.ofChange scalarNamesSpec)

/-- ITS FALSE NEIGHBOUR: 'it returns false'. Refute it at one input. -/
def scalarNamesWrong : ChangeSpec := { name := "scalarNames", fn := fun _ => fun
  | [d1, d2] => { results := [.lit (.bool false)], args := [d1, d2] }
  | _ => none }
def ScalarNamesWrongFalsely : Prop := scalarNamesRow.holds Tryd.pinned (OpenSpec.ofChange scalarNamesWrong)

/-- 'lanyardlaw05.ScalarBack': WHATEVER THE INPUT: true; the input reads as it did. -/
def scalarBackSpec : ChangeSpec := { name := "scalarBack", fn := fun _ => fun
  | [d1, d2, d3] => { results := [.lit (.bool true)], args := [d1, d2, d3] }
  | _ => none }
def scalarBackRow : OpenClaim := { program := "ytgkineipmhhacaadoor", sum := "3b49ce18f9b37c5f002ee98cc42ba0fc04796439843dba44b29625a28a58dc02", func := "lanyard/lanyardlaw05.ScalarBack", spec := "scalarBack", unfollowed := true, recurses := true, named := ["unicode/utf8.first", "unicode/utf8.acceptRanges"], apart := false, laid := [("unicode/utf8.acceptRanges", laid_unicode_utf8_acceptRanges), ("unicode/utf8.first", laid_unicode_utf8_first)] }
def ScalarBackSaid : Prop := scalarBackRow.holds Tryd.pinned (OpenSpec.ofChange scalarBackSpec)

/-- ITS FALSE NEIGHBOUR: 'it returns false'. Refute it at one input. -/
def scalarBackWrong : ChangeSpec := { name := "scalarBack", fn := fun _ => fun
  | [d1, d2, d3] => { results := [.lit (.bool false)], args := [d1, d2, d3] }
  | _ => none }
def ScalarBackWrongFalsely : Prop := scalarBackRow.holds Tryd.pinned (OpenSpec.ofChange scalarBackWrong)

/-- 'lanyardlaw05.ScalarTexts': WHATEVER THE INPUT: true; the input reads as it did. -/
def scalarTextsSpec : ChangeSpec := { name := "scalarTexts", fn := fun _ => fun
  | [d1, d2, d3] => { results := [.lit (.bool true)], args := [d1, d2, d3] }
  | _ => none }
def scalarTextsRow : OpenClaim := { program := "ytgkineipmhhacaadoor", sum := "3b49ce18f9b37c5f002ee98cc42ba0fc04796439843dba44b29625a28a58dc02", func := "lanyard/lanyardlaw05.ScalarTexts", spec := "scalarTexts", unfollowed := true, recurses := true, named := ["unicode/utf8.first", "unicode/utf8.acceptRanges"], loops := true, apart := false, laid := [("unicode/utf8.acceptRanges", laid_unicode_utf8_acceptRanges), ("unicode/utf8.first", laid_unicode_utf8_first)] }
def ScalarTextsSaid : Prop := scalarTextsRow.holds Tryd.pinned (OpenSpec.ofChange scalarTextsSpec)

/-- ITS FALSE NEIGHBOUR: 'it returns false'. Refute it at one input. -/
def scalarTextsWrong : ChangeSpec := { name := "scalarTexts", fn := fun _ => fun
  | [d1, d2, d3] => { results := [.lit (.bool false)], args := [d1, d2, d3] }
  | _ => none }
def ScalarTextsWrongFalsely : Prop := scalarTextsRow.holds Tryd.pinned (OpenSpec.ofChange scalarTextsWrong)

/-- 'lanyardlaw05.ScalarJust': WHATEVER THE INPUT: true; the input reads as it did. -/
def scalarJustSpec : ChangeSpec := { name := "scalarJust", fn := fun _ => fun
  | [d] => { results := [.lit (.bool true)], args := [d] }
  | _ => none }
def scalarJustRow : OpenClaim := { program := "ytgkineipmhhacaadoor", sum := "3b49ce18f9b37c5f002ee98cc42ba0fc04796439843dba44b29625a28a58dc02", func := "lanyard/lanyardlaw05.ScalarJust", spec := "scalarJust", unfollowed := true, recurses := true, named := ["unicode/utf8.first", "unicode/utf8.acceptRanges"], loops := true, apart := false, laid := [("unicode/utf8.acceptRanges", laid_unicode_utf8_acceptRanges), ("unicode/utf8.first", laid_unicode_utf8_first)] }
def ScalarJustSaid : Prop := scalarJustRow.holds Tryd.pinned (OpenSpec.ofChange scalarJustSpec)

/-- ITS FALSE NEIGHBOUR: 'it returns false'. Refute it at one input. -/
def scalarJustWrong : ChangeSpec := { name := "scalarJust", fn := fun _ => fun
  | [d] => { results := [.lit (.bool false)], args := [d] }
  | _ => none }
def ScalarJustWrongFalsely : Prop := scalarJustRow.holds Tryd.pinned (OpenSpec.ofChange scalarJustWrong)

/- THE SECOND FORM. 'bulk': how many values and letters a reading holds, each counted each time it is reached (what is shared counts as often as it is met; a slice's spare places count too). A statement '..UptoSaid' is the law's where the arguments, and the package variables that the reading takes, are together of bulk at most 1048576: NARROWER than '..Said'. Prove '..Said' where nothing that the law and all that it calls make is longer than what came in: it says more and counts as full. Else prove '..UptoSaid'. A law counts once. -/
mutual
def uptoBulk {H : Type} : DataW H → Nat
  | .lit (.string bytes) => bytes.length + 1
  | .lit _ => 1
  | .nil => 1
  | .ptr d => uptoBulk d + 1
  | .slice elems spare => uptoBulkAll elems + uptoBulkAll spare + 1
  | .agg parts => uptoBulkAll parts + 1
  | .iface _ d => uptoBulk d + 1
  | .map entries => uptoBulkEntries entries + 1
  | .held _ => 1
def uptoBulkAll {H : Type} : List (DataW H) → Nat
  | [] => 0
  | d :: r => uptoBulk d + uptoBulkAll r
def uptoBulkEntries {H : Type} : List (Lit × DataW H) → Nat
  | [] => 0
  | x :: r => uptoBulkEntry x + uptoBulkEntries r
def uptoBulkEntry {H : Type} : Lit × DataW H → Nat
  | (.string bytes, d) => bytes.length + uptoBulk d + 1
  | (_, d) => uptoBulk d + 1
 end
def uptoSmall : (H : Type) → List (DataW H) → Bool := fun _ ds => decide (uptoBulkAll ds ≤ 1048576)
def OpenSpec.upto (s : _root_.Go.ChangeSpec) : _root_.Go.OpenSpec := { _root_.Go.OpenSpec.ofChange s with cond := some uptoSmall }

/-- 'lanyardlaw05.ScalarNumbers', WHERE WHAT IT READS IS OF BULK AT MOST 1048576: true; the input reads as it did. -/
def scalarNumbersUptoRow : OpenClaim := { program := "ytgkineipmhhacaadoor", sum := "3b49ce18f9b37c5f002ee98cc42ba0fc04796439843dba44b29625a28a58dc02", func := "lanyard/lanyardlaw05.ScalarNumbers", spec := "scalarNumbers", unfollowed := true, recurses := true, named := ["unicode/utf8.first", "unicode/utf8.acceptRanges"], loops := true, apart := false, laid := [("unicode/utf8.acceptRanges", laid_unicode_utf8_acceptRanges), ("unicode/utf8.first", laid_unicode_utf8_first)], narrowed := true }
def ScalarNumbersUptoSaid : Prop := scalarNumbersUptoRow.holds Tryd.pinned (OpenSpec.upto scalarNumbersSpec)

/-- 'lanyardlaw05.ScalarBits', WHERE WHAT IT READS IS OF BULK AT MOST 1048576: true; the input reads as it did. -/
def scalarBitsUptoRow : OpenClaim := { program := "ytgkineipmhhacaadoor", sum := "3b49ce18f9b37c5f002ee98cc42ba0fc04796439843dba44b29625a28a58dc02", func := "lanyard/lanyardlaw05.ScalarBits", spec := "scalarBits", unfollowed := true, recurses := true, named := ["unicode/utf8.first", "unicode/utf8.acceptRanges"], loops := true, apart := false, laid := [("unicode/utf8.acceptRanges", laid_unicode_utf8_acceptRanges), ("unicode/utf8.first", laid_unicode_utf8_first)], narrowed := true }
def ScalarBitsUptoSaid : Prop := scalarBitsUptoRow.holds Tryd.pinned (OpenSpec.upto scalarBitsSpec)

/-- 'lanyardlaw05.ScalarNames', WHERE WHAT IT READS IS OF BULK AT MOST 1048576: true; the input reads as it did. -/
def scalarNamesUptoRow : OpenClaim := { program := "ytgkineipmhhacaadoor", sum := "3b49ce18f9b37c5f002ee98cc42ba0fc04796439843dba44b29625a28a58dc02", func := "lanyard/lanyardlaw05.ScalarNames", spec := "scalarNames", unfollowed := true, recurses := true, named := ["unicode/utf8.first", "unicode/utf8.acceptRanges"], loops := true, apart := false, laid := [("unicode/utf8.acceptRanges", laid_unicode_utf8_acceptRanges), ("unicode/utf8.first", laid_unicode_utf8_first)], narrowed := true }
def ScalarNamesUptoSaid : Prop := scalarNamesUptoRow.holds Tryd.pinned (OpenSpec.upto scalarNamesSpec)

/-- 'lanyardlaw05.ScalarBack', WHERE WHAT IT READS IS OF BULK AT MOST 1048576: true; the input reads as it did. -/
def scalarBackUptoRow : OpenClaim := { program := "ytgkineipmhhacaadoor", sum := "3b49ce18f9b37c5f002ee98cc42ba0fc04796439843dba44b29625a28a58dc02", func := "lanyard/lanyardlaw05.ScalarBack", spec := "scalarBack", unfollowed := true, recurses := true, named := ["unicode/utf8.first", "unicode/utf8.acceptRanges"], apart := false, laid := [("unicode/utf8.acceptRanges", laid_unicode_utf8_acceptRanges), ("unicode/utf8.first", laid_unicode_utf8_first)], narrowed := true }
def ScalarBackUptoSaid : Prop := scalarBackUptoRow.holds Tryd.pinned (OpenSpec.upto scalarBackSpec)

/-- 'lanyardlaw05.ScalarTexts', WHERE WHAT IT READS IS OF BULK AT MOST 1048576: true; the input reads as it did. -/
def scalarTextsUptoRow : OpenClaim := { program := "ytgkineipmhhacaadoor", sum := "3b49ce18f9b37c5f002ee98cc42ba0fc04796439843dba44b29625a28a58dc02", func := "lanyard/lanyardlaw05.ScalarTexts", spec := "scalarTexts", unfollowed := true, recurses := true, named := ["unicode/utf8.first", "unicode/utf8.acceptRanges"], loops := true, apart := false, laid := [("unicode/utf8.acceptRanges", laid_unicode_utf8_acceptRanges), ("unicode/utf8.first", laid_unicode_utf8_first)], narrowed := true }
def ScalarTextsUptoSaid : Prop := scalarTextsUptoRow.holds Tryd.pinned (OpenSpec.upto scalarTextsSpec)

/-- 'lanyardlaw05.ScalarJust', WHERE WHAT IT READS IS OF BULK AT MOST 1048576: true; the input reads as it did. -/
def scalarJustUptoRow : OpenClaim := { program := "ytgkineipmhhacaadoor", sum := "3b49ce18f9b37c5f002ee98cc42ba0fc04796439843dba44b29625a28a58dc02", func := "lanyard/lanyardlaw05.ScalarJust", spec := "scalarJust", unfollowed := true, recurses := true, named := ["unicode/utf8.first", "unicode/utf8.acceptRanges"], loops := true, apart := false, laid := [("unicode/utf8.acceptRanges", laid_unicode_utf8_acceptRanges), ("unicode/utf8.first", laid_unicode_utf8_first)], narrowed := true }
def ScalarJustUptoSaid : Prop := scalarJustUptoRow.holds Tryd.pinned (OpenSpec.upto scalarJustSpec)

end Rows
end Go.Proofs.YtgkineipmhhacaaDoor
