/-
  NARROWER THAN 'FOR EVERY INPUT', by the rows' own cells (each row's printed sentence says how): RoaReads: laid · RoaOrders: laid · RoaBack: laid · RoaRow: laid · RoaOne: laid.
  DERIVED. THE GIVEN ROWS OF THIS SEAT. 5 by the template 'for every input the law returns true; each argument reads behind the call as it read before'; 0 by the template 'total and deterministic' (their statements: YtjmihdhbbheflaaDoorTotals.lean).
  GIVEN WITH THE SEED: the statements are not yours to turn. If you find one false, say at which input.
  Laid BY PROGRAM, IN A SANDBOX (cutbox-rows.mjs): the forced cells as the released guide's own fill.sh prints them over the translation 51d4203538950e4d… (all of the seat's roots in one cut). By AI agents, Wed Nov 11 2026. No macro, syntax, notation, axiom, sorry.
-/
import Derived.Test.YtjmihdhbbheflaaDoorChecked
import GoSem.PinnedTables
import GoSem.Claim
import GoSem.ClaimJoined
import GoSem.ClaimMapViews
import Derived.JoinedTies
import Derived.KernelRfl
namespace Go.Proofs.YtjmihdhbbheflaaDoor
/- THE CELL 'sum', in the pinned program and in every row, IS THE sha256 OF THE DUMP (.gsa) THAT YtjmihdhbbheflaaDoorProg.lean LOADS. Nothing in Lean hashes anything: it is a label: what it is worth is what the hold of that sum in a sandbox is worth. -/
noncomputable def Tryd.pinned : Pinned := { name := "ytjmihdhbbheflaadoor", sum := "51d4203538950e4d1705c98c08c693fec27f7f52f5cc64a244ef4d6b50fe9364", checked := Tryd.checked }
namespace Rows
def none {H : Type} : Left H := { results := [], args := [] }

/- WHAT THE LISTED PACKAGE-LEVEL VARIABLES READ AS WHEN THE CALL BEGINS. Each datum BY PROGRAM (the guide's laid-datum.mjs) off the statement by which the dump's own 'gosem.cut.vars' lays the variable. In a bare row this is a premise. The card (YtjmihdhbbheflaaDoorCards.lean) ties it to the program's text. -/
def laid_unicode_utf8_acceptRanges {H : Type} : DataW H := .agg [.agg [.lit (.int .u8 128), .lit (.int .u8 191)], .agg [.lit (.int .u8 160), .lit (.int .u8 191)], .agg [.lit (.int .u8 128), .lit (.int .u8 159)], .agg [.lit (.int .u8 144), .lit (.int .u8 191)], .agg [.lit (.int .u8 128), .lit (.int .u8 143)], .agg [.lit (.int .u8 0), .lit (.int .u8 0)], .agg [.lit (.int .u8 0), .lit (.int .u8 0)], .agg [.lit (.int .u8 0), .lit (.int .u8 0)], .agg [.lit (.int .u8 0), .lit (.int .u8 0)], .agg [.lit (.int .u8 0), .lit (.int .u8 0)], .agg [.lit (.int .u8 0), .lit (.int .u8 0)], .agg [.lit (.int .u8 0), .lit (.int .u8 0)], .agg [.lit (.int .u8 0), .lit (.int .u8 0)], .agg [.lit (.int .u8 0), .lit (.int .u8 0)], .agg [.lit (.int .u8 0), .lit (.int .u8 0)], .agg [.lit (.int .u8 0), .lit (.int .u8 0)]]
/-- One of Go's own tables, pinned by name: the form's constant. -/
def laid_unicode_utf8_first : DataW Unit := Go.Pinned.utf8First

/-- 'lanyardlaw18.RoaReads': WHATEVER THE INPUT: true; the input reads as it did. -/
def roaReadsSpec : ChangeSpec := { name := "roaReads", fn := fun _ => fun
  | [d1, d2] => { results := [.lit (.bool true)], args := [d1, d2] }
  | _ => none }
def roaReadsRow : OpenClaim := { program := "ytjmihdhbbheflaadoor", sum := "51d4203538950e4d1705c98c08c693fec27f7f52f5cc64a244ef4d6b50fe9364", func := "lanyard/lanyardlaw18.RoaReads", spec := "roaReads", inPlace := ["internal/bytealg.Compare"], unfollowed := true, recurses := true, named := ["unicode/utf8.first", "unicode/utf8.acceptRanges"], plainKeys := false, apart := false, laid := [("unicode/utf8.acceptRanges", laid_unicode_utf8_acceptRanges), ("unicode/utf8.first", laid_unicode_utf8_first)] }
def RoaReadsSaid : Prop := roaReadsRow.holds Tryd.pinned (OpenSpec.ofChange roaReadsSpec)

/-- ITS FALSE NEIGHBOUR: 'it returns false'. Refute it at one input. -/
def roaReadsWrong : ChangeSpec := { name := "roaReads", fn := fun _ => fun
  | [d1, d2] => { results := [.lit (.bool false)], args := [d1, d2] }
  | _ => none }
def RoaReadsWrongFalsely : Prop := roaReadsRow.holds Tryd.pinned (OpenSpec.ofChange roaReadsWrong)

/-- 'lanyardlaw18.RoaOrders': WHATEVER THE INPUT: true; the input reads as it did. -/
def roaOrdersSpec : ChangeSpec := { name := "roaOrders", fn := fun _ => fun
  | [d1, d2] => { results := [.lit (.bool true)], args := [d1, d2] }
  | _ => none }
def roaOrdersRow : OpenClaim := { program := "ytjmihdhbbheflaadoor", sum := "51d4203538950e4d1705c98c08c693fec27f7f52f5cc64a244ef4d6b50fe9364", func := "lanyard/lanyardlaw18.RoaOrders", spec := "roaOrders", inPlace := ["internal/bytealg.Compare"], unfollowed := true, recurses := true, named := ["unicode/utf8.first", "unicode/utf8.acceptRanges"], plainKeys := false, apart := false, laid := [("unicode/utf8.acceptRanges", laid_unicode_utf8_acceptRanges), ("unicode/utf8.first", laid_unicode_utf8_first)] }
def RoaOrdersSaid : Prop := roaOrdersRow.holds Tryd.pinned (OpenSpec.ofChange roaOrdersSpec)

/-- ITS FALSE NEIGHBOUR: 'it returns false'. Refute it at one input. -/
def roaOrdersWrong : ChangeSpec := { name := "roaOrders", fn := fun _ => fun
  | [d1, d2] => { results := [.lit (.bool false)], args := [d1, d2] }
  | _ => none }
def RoaOrdersWrongFalsely : Prop := roaOrdersRow.holds Tryd.pinned (OpenSpec.ofChange roaOrdersWrong)

/-- 'lanyardlaw18.RoaBack': WHATEVER THE INPUT: true; the input reads as it did. -/
def roaBackSpec : ChangeSpec := { name := "roaBack", fn := fun _ => fun
  | [d1, d2] => { results := [.lit (.bool true)], args := [d1, d2] }
  | _ => none }
def roaBackRow : OpenClaim := { program := "ytjmihdhbbheflaadoor", sum := "51d4203538950e4d1705c98c08c693fec27f7f52f5cc64a244ef4d6b50fe9364", func := "lanyard/lanyardlaw18.RoaBack", spec := "roaBack", inPlace := ["internal/bytealg.Compare"], unfollowed := true, recurses := true, named := ["unicode/utf8.first", "unicode/utf8.acceptRanges"], plainKeys := false, apart := false, laid := [("unicode/utf8.acceptRanges", laid_unicode_utf8_acceptRanges), ("unicode/utf8.first", laid_unicode_utf8_first)] }
def RoaBackSaid : Prop := roaBackRow.holds Tryd.pinned (OpenSpec.ofChange roaBackSpec)

/-- ITS FALSE NEIGHBOUR: 'it returns false'. Refute it at one input. -/
def roaBackWrong : ChangeSpec := { name := "roaBack", fn := fun _ => fun
  | [d1, d2] => { results := [.lit (.bool false)], args := [d1, d2] }
  | _ => none }
def RoaBackWrongFalsely : Prop := roaBackRow.holds Tryd.pinned (OpenSpec.ofChange roaBackWrong)

/-- 'lanyardlaw18.RoaRow': WHATEVER THE INPUT: true; the input reads as it did. -/
def roaRowSpec : ChangeSpec := { name := "roaRow", fn := fun _ => fun
  | [d1, d2, d3] => { results := [.lit (.bool true)], args := [d1, d2, d3] }
  | _ => none }
def roaRowRow : OpenClaim := { program := "ytjmihdhbbheflaadoor", sum := "51d4203538950e4d1705c98c08c693fec27f7f52f5cc64a244ef4d6b50fe9364", func := "lanyard/lanyardlaw18.RoaRow", spec := "roaRow", inPlace := ["internal/bytealg.Compare"], unfollowed := true, recurses := true, named := ["unicode/utf8.first", "unicode/utf8.acceptRanges"], plainKeys := false, apart := false, laid := [("unicode/utf8.acceptRanges", laid_unicode_utf8_acceptRanges), ("unicode/utf8.first", laid_unicode_utf8_first)] }
def RoaRowSaid : Prop := roaRowRow.holds Tryd.pinned (OpenSpec.ofChange roaRowSpec)

/-- ITS FALSE NEIGHBOUR: 'it returns false'. Refute it at one input. -/
def roaRowWrong : ChangeSpec := { name := "roaRow", fn := fun _ => fun
  | [d1, d2, d3] => { results := [.lit (.bool false)], args := [d1, d2, d3] }
  | _ => none }
def RoaRowWrongFalsely : Prop := roaRowRow.holds Tryd.pinned (OpenSpec.ofChange roaRowWrong)

/-- 'lanyardlaw18.RoaOne': WHATEVER THE INPUT: true; the input reads as it did. -/
def roaOneSpec : ChangeSpec := { name := "roaOne", fn := fun _ => fun
  | [d] => { results := [.lit (.bool true)], args := [d] }
  | _ => none }
def roaOneRow : OpenClaim := { program := "ytjmihdhbbheflaadoor", sum := "51d4203538950e4d1705c98c08c693fec27f7f52f5cc64a244ef4d6b50fe9364", func := "lanyard/lanyardlaw18.RoaOne", spec := "roaOne", inPlace := ["internal/bytealg.Compare"], unfollowed := true, recurses := true, named := ["unicode/utf8.first", "unicode/utf8.acceptRanges"], plainKeys := false, apart := false, laid := [("unicode/utf8.acceptRanges", laid_unicode_utf8_acceptRanges), ("unicode/utf8.first", laid_unicode_utf8_first)] }
def RoaOneSaid : Prop := roaOneRow.holds Tryd.pinned (OpenSpec.ofChange roaOneSpec)

/-- ITS FALSE NEIGHBOUR: 'it returns false'. Refute it at one input. -/
def roaOneWrong : ChangeSpec := { name := "roaOne", fn := fun _ => fun
  | [d] => { results := [.lit (.bool false)], args := [d] }
  | _ => none }
def RoaOneWrongFalsely : Prop := roaOneRow.holds Tryd.pinned (OpenSpec.ofChange roaOneWrong)

/- THE SECOND FORM. 'bulk': how many values and letters a reading holds, each counted each time it is reached (what is shared counts as often as it is met; a slice's spare places count too). A statement '..UptoSaid' is the law's where the arguments, and the package variables that the reading takes, are together of bulk at most 1048576: NARROWER than '..Said'. Prove '..Said' where nothing that the law and all that it calls make is longer than what came in: it says more and counts as full. Else prove '..UptoSaid'. A law counts once. -/
mutual
def uptoBulk {H : Type} : DataW H → Nat
  | .lit (.string bytes) => bytes.length + 1
  | .lit _ => 1
  | .nil => 1
  | .ptr d => uptoBulk d + 1
  | .slice elems spare => uptoBulkAll elems + uptoBulkAll spare + 1
  | .agg parts => uptoBulkAll parts + 1
  | .iface _ d => uptoBulk d + 1
  | .map entries => uptoBulkEntries entries + 1
  | .held _ => 1
def uptoBulkAll {H : Type} : List (DataW H) → Nat
  | [] => 0
  | d :: r => uptoBulk d + uptoBulkAll r
def uptoBulkEntries {H : Type} : List (Lit × DataW H) → Nat
  | [] => 0
  | x :: r => uptoBulkEntry x + uptoBulkEntries r
def uptoBulkEntry {H : Type} : Lit × DataW H → Nat
  | (.string bytes, d) => bytes.length + uptoBulk d + 1
  | (_, d) => uptoBulk d + 1
 end
def uptoSmall : (H : Type) → List (DataW H) → Bool := fun _ ds => decide (uptoBulkAll ds ≤ 1048576)
def OpenSpec.upto (s : _root_.Go.ChangeSpec) : _root_.Go.OpenSpec := { _root_.Go.OpenSpec.ofChange s with cond := some uptoSmall }

/-- 'lanyardlaw18.RoaReads', WHERE WHAT IT READS IS OF BULK AT MOST 1048576: true; the input reads as it did. -/
def roaReadsUptoRow : OpenClaim := { program := "ytjmihdhbbheflaadoor", sum := "51d4203538950e4d1705c98c08c693fec27f7f52f5cc64a244ef4d6b50fe9364", func := "lanyard/lanyardlaw18.RoaReads", spec := "roaReads", inPlace := ["internal/bytealg.Compare"], unfollowed := true, recurses := true, named := ["unicode/utf8.first", "unicode/utf8.acceptRanges"], plainKeys := false, apart := false, laid := [("unicode/utf8.acceptRanges", laid_unicode_utf8_acceptRanges), ("unicode/utf8.first", laid_unicode_utf8_first)], narrowed := true }
def RoaReadsUptoSaid : Prop := roaReadsUptoRow.holds Tryd.pinned (OpenSpec.upto roaReadsSpec)

/-- 'lanyardlaw18.RoaOrders', WHERE WHAT IT READS IS OF BULK AT MOST 1048576: true; the input reads as it did. -/
def roaOrdersUptoRow : OpenClaim := { program := "ytjmihdhbbheflaadoor", sum := "51d4203538950e4d1705c98c08c693fec27f7f52f5cc64a244ef4d6b50fe9364", func := "lanyard/lanyardlaw18.RoaOrders", spec := "roaOrders", inPlace := ["internal/bytealg.Compare"], unfollowed := true, recurses := true, named := ["unicode/utf8.first", "unicode/utf8.acceptRanges"], plainKeys := false, apart := false, laid := [("unicode/utf8.acceptRanges", laid_unicode_utf8_acceptRanges), ("unicode/utf8.first", laid_unicode_utf8_first)], narrowed := true }
def RoaOrdersUptoSaid : Prop := roaOrdersUptoRow.holds Tryd.pinned (OpenSpec.upto roaOrdersSpec)

/-- 'lanyardlaw18.RoaBack', WHERE WHAT IT READS IS OF BULK AT MOST 1048576: true; the input reads as it did. -/
def roaBackUptoRow : OpenClaim := { program := "ytjmihdhbbheflaadoor", sum := "51d4203538950e4d1705c98c08c693fec27f7f52f5cc64a244ef4d6b50fe9364", func := "lanyard/lanyardlaw18.RoaBack", spec := "roaBack", inPlace := ["internal/bytealg.Compare"], unfollowed := true, recurses := true, named := ["unicode/utf8.first", "unicode/utf8.acceptRanges"], plainKeys := false, apart := false, laid := [("unicode/utf8.acceptRanges", laid_unicode_utf8_acceptRanges), ("unicode/utf8.first", laid_unicode_utf8_first)], narrowed := true }
def RoaBackUptoSaid : Prop := roaBackUptoRow.holds Tryd.pinned (OpenSpec.upto roaBackSpec)

/-- 'lanyardlaw18.RoaRow', WHERE WHAT IT READS IS OF BULK AT MOST 1048576: true; the input reads as it did. -/
def roaRowUptoRow : OpenClaim := { program := "ytjmihdhbbheflaadoor", sum := "51d4203538950e4d1705c98c08c693fec27f7f52f5cc64a244ef4d6b50fe9364", func := "lanyard/lanyardlaw18.RoaRow", spec := "roaRow", inPlace := ["internal/bytealg.Compare"], unfollowed := true, recurses := true, named := ["unicode/utf8.first", "unicode/utf8.acceptRanges"], plainKeys := false, apart := false, laid := [("unicode/utf8.acceptRanges", laid_unicode_utf8_acceptRanges), ("unicode/utf8.first", laid_unicode_utf8_first)], narrowed := true }
def RoaRowUptoSaid : Prop := roaRowUptoRow.holds Tryd.pinned (OpenSpec.upto roaRowSpec)

/-- 'lanyardlaw18.RoaOne', WHERE WHAT IT READS IS OF BULK AT MOST 1048576: true; the input reads as it did. -/
def roaOneUptoRow : OpenClaim := { program := "ytjmihdhbbheflaadoor", sum := "51d4203538950e4d1705c98c08c693fec27f7f52f5cc64a244ef4d6b50fe9364", func := "lanyard/lanyardlaw18.RoaOne", spec := "roaOne", inPlace := ["internal/bytealg.Compare"], unfollowed := true, recurses := true, named := ["unicode/utf8.first", "unicode/utf8.acceptRanges"], plainKeys := false, apart := false, laid := [("unicode/utf8.acceptRanges", laid_unicode_utf8_acceptRanges), ("unicode/utf8.first", laid_unicode_utf8_first)], narrowed := true }
def RoaOneUptoSaid : Prop := roaOneUptoRow.holds Tryd.pinned (OpenSpec.upto roaOneSpec)

end Rows
end Go.Proofs.YtjmihdhbbheflaaDoor
