/-
  NARROWER THAN 'FOR EVERY INPUT', by the rows' own cells (each row's printed sentence says how): TlvWrites: loops · TlvBack: loops · TlvCut: loops · TlvJoined: loops.
  DERIVED. THE GIVEN ROWS OF THIS SEAT. 6 by the template 'for every input the law returns true; each argument reads behind the call as it read before'; 0 by the template 'total and deterministic' (their statements: YtgkineipmhhacaaTotals.lean).
  GIVEN WITH THE SEED: the statements are not yours to turn. If you find one false, say at which input.
  Laid BY PROGRAM, IN A SANDBOX (cutbox-rows.mjs): the forced cells as the released guide's own fill.sh prints them over the translation 803167e0bf751dcb… (all of the seat's roots in one cut). By AI agents, Wed Nov 11 2026. No macro, syntax, notation, axiom, sorry.
-/
import Derived.Test.YtgkineipmhhacaaChecked
import GoSem.Claim
import GoSem.ClaimJoined
import GoSem.ClaimMapViews
import Derived.JoinedTies
import Derived.KernelRfl
namespace Go.Proofs.Ytgkineipmhhacaa
/- THE CELL 'sum', in the pinned program and in every row, IS THE sha256 OF THE DUMP (.gsa) THAT YtgkineipmhhacaaProg.lean LOADS. Nothing in Lean hashes anything: it is a label: what it is worth is what the hold of that sum in a sandbox is worth. -/
noncomputable def Try.pinned : Pinned := { name := "ytgkineipmhhacaa", sum := "803167e0bf751dcb21b2a693446c86dba84e6cb614561631a81cfff8bc51eac8", checked := Try.checked }
namespace Rows
def none {H : Type} : Left H := { results := [], args := [] }

/-- 'lanyardlaw04.TlvReads': WHATEVER THE INPUT: true; the input reads as it did. -/
def tlvReadsSpec : ChangeSpec := { name := "tlvReads", fn := fun _ => fun
  | [d] => { results := [.lit (.bool true)], args := [d] }
  | _ => none }
def tlvReadsRow : OpenClaim := { program := "ytgkineipmhhacaa", sum := "803167e0bf751dcb21b2a693446c86dba84e6cb614561631a81cfff8bc51eac8", func := "lanyard/lanyardlaw04.TlvReads", spec := "tlvReads", unfollowed := true, recurses := true, apart := false }
def TlvReadsSaid : Prop := tlvReadsRow.holds Try.pinned (OpenSpec.ofChange tlvReadsSpec)

/-- ITS FALSE NEIGHBOUR: 'it returns false'. Refute it at one input. -/
def tlvReadsWrong : ChangeSpec := { name := "tlvReads", fn := fun _ => fun
  | [d] => { results := [.lit (.bool false)], args := [d] }
  | _ => none }
def TlvReadsWrongFalsely : Prop := tlvReadsRow.holds Try.pinned (OpenSpec.ofChange tlvReadsWrong)

/-- 'lanyardlaw04.TlvWrites': WHATEVER THE INPUT: true; the input reads as it did. -/
def tlvWritesSpec : ChangeSpec := { name := "tlvWrites", fn := fun _ => fun
  | [d] => { results := [.lit (.bool true)], args := [d] }
  | _ => none }
def tlvWritesRow : OpenClaim := { program := "ytgkineipmhhacaa", sum := "803167e0bf751dcb21b2a693446c86dba84e6cb614561631a81cfff8bc51eac8", func := "lanyard/lanyardlaw04.TlvWrites", spec := "tlvWrites", unfollowed := true, recurses := true, loops := true, apart := false }
def TlvWritesSaid : Prop := tlvWritesRow.holds Try.pinned (OpenSpec.ofChange tlvWritesSpec)

/-- ITS FALSE NEIGHBOUR: 'it returns false'. Refute it at one input. -/
def tlvWritesWrong : ChangeSpec := { name := "tlvWrites", fn := fun _ => fun
  | [d] => { results := [.lit (.bool false)], args := [d] }
  | _ => none }
def TlvWritesWrongFalsely : Prop := tlvWritesRow.holds Try.pinned (OpenSpec.ofChange tlvWritesWrong)

/-- 'lanyardlaw04.TlvBack': WHATEVER THE INPUT: true; the input reads as it did. -/
def tlvBackSpec : ChangeSpec := { name := "tlvBack", fn := fun _ => fun
  | [d1, d2] => { results := [.lit (.bool true)], args := [d1, d2] }
  | _ => none }
def tlvBackRow : OpenClaim := { program := "ytgkineipmhhacaa", sum := "803167e0bf751dcb21b2a693446c86dba84e6cb614561631a81cfff8bc51eac8", func := "lanyard/lanyardlaw04.TlvBack", spec := "tlvBack", unfollowed := true, recurses := true, loops := true, apart := false }
def TlvBackSaid : Prop := tlvBackRow.holds Try.pinned (OpenSpec.ofChange tlvBackSpec)

/-- ITS FALSE NEIGHBOUR: 'it returns false'. Refute it at one input. -/
def tlvBackWrong : ChangeSpec := { name := "tlvBack", fn := fun _ => fun
  | [d1, d2] => { results := [.lit (.bool false)], args := [d1, d2] }
  | _ => none }
def TlvBackWrongFalsely : Prop := tlvBackRow.holds Try.pinned (OpenSpec.ofChange tlvBackWrong)

/-- 'lanyardlaw04.TlvCut': WHATEVER THE INPUT: true; the input reads as it did. -/
def tlvCutSpec : ChangeSpec := { name := "tlvCut", fn := fun _ => fun
  | [d1, d2] => { results := [.lit (.bool true)], args := [d1, d2] }
  | _ => none }
def tlvCutRow : OpenClaim := { program := "ytgkineipmhhacaa", sum := "803167e0bf751dcb21b2a693446c86dba84e6cb614561631a81cfff8bc51eac8", func := "lanyard/lanyardlaw04.TlvCut", spec := "tlvCut", unfollowed := true, recurses := true, loops := true, apart := false }
def TlvCutSaid : Prop := tlvCutRow.holds Try.pinned (OpenSpec.ofChange tlvCutSpec)

/-- ITS FALSE NEIGHBOUR: 'it returns false'. Refute it at one input. -/
def tlvCutWrong : ChangeSpec := { name := "tlvCut", fn := fun _ => fun
  | [d1, d2] => { results := [.lit (.bool false)], args := [d1, d2] }
  | _ => none }
def TlvCutWrongFalsely : Prop := tlvCutRow.holds Try.pinned (OpenSpec.ofChange tlvCutWrong)

/-- 'lanyardlaw04.TlvDeep': WHATEVER THE INPUT: true; the input reads as it did. -/
def tlvDeepSpec : ChangeSpec := { name := "tlvDeep", fn := fun _ => fun
  | [d] => { results := [.lit (.bool true)], args := [d] }
  | _ => none }
def tlvDeepRow : OpenClaim := { program := "ytgkineipmhhacaa", sum := "803167e0bf751dcb21b2a693446c86dba84e6cb614561631a81cfff8bc51eac8", func := "lanyard/lanyardlaw04.TlvDeep", spec := "tlvDeep", unfollowed := true, recurses := true, apart := false }
def TlvDeepSaid : Prop := tlvDeepRow.holds Try.pinned (OpenSpec.ofChange tlvDeepSpec)

/-- ITS FALSE NEIGHBOUR: 'it returns false'. Refute it at one input. -/
def tlvDeepWrong : ChangeSpec := { name := "tlvDeep", fn := fun _ => fun
  | [d] => { results := [.lit (.bool false)], args := [d] }
  | _ => none }
def TlvDeepWrongFalsely : Prop := tlvDeepRow.holds Try.pinned (OpenSpec.ofChange tlvDeepWrong)

/-- 'lanyardlaw04.TlvJoined': WHATEVER THE INPUT: true; the input reads as it did. -/
def tlvJoinedSpec : ChangeSpec := { name := "tlvJoined", fn := fun _ => fun
  | [d] => { results := [.lit (.bool true)], args := [d] }
  | _ => none }
def tlvJoinedRow : OpenClaim := { program := "ytgkineipmhhacaa", sum := "803167e0bf751dcb21b2a693446c86dba84e6cb614561631a81cfff8bc51eac8", func := "lanyard/lanyardlaw04.TlvJoined", spec := "tlvJoined", unfollowed := true, recurses := true, loops := true, apart := false }
def TlvJoinedSaid : Prop := tlvJoinedRow.holds Try.pinned (OpenSpec.ofChange tlvJoinedSpec)

/-- ITS FALSE NEIGHBOUR: 'it returns false'. Refute it at one input. -/
def tlvJoinedWrong : ChangeSpec := { name := "tlvJoined", fn := fun _ => fun
  | [d] => { results := [.lit (.bool false)], args := [d] }
  | _ => none }
def TlvJoinedWrongFalsely : Prop := tlvJoinedRow.holds Try.pinned (OpenSpec.ofChange tlvJoinedWrong)

/- THE SECOND FORM. 'bulk': how many values and letters a reading holds, each counted each time it is reached (what is shared counts as often as it is met; a slice's spare places count too). A statement '..UptoSaid' is the law's where the arguments, and the package variables that the reading takes, are together of bulk at most 1048576: NARROWER than '..Said'. Prove '..Said' where nothing that the law and all that it calls make is longer than what came in: it says more and counts as full. Else prove '..UptoSaid'. A law counts once. -/
mutual
def uptoBulk {H : Type} : DataW H → Nat
  | .lit (.string bytes) => bytes.length + 1
  | .lit _ => 1
  | .nil => 1
  | .ptr d => uptoBulk d + 1
  | .slice elems spare => uptoBulkAll elems + uptoBulkAll spare + 1
  | .agg parts => uptoBulkAll parts + 1
  | .iface _ d => uptoBulk d + 1
  | .map entries => uptoBulkEntries entries + 1
  | .held _ => 1
def uptoBulkAll {H : Type} : List (DataW H) → Nat
  | [] => 0
  | d :: r => uptoBulk d + uptoBulkAll r
def uptoBulkEntries {H : Type} : List (Lit × DataW H) → Nat
  | [] => 0
  | x :: r => uptoBulkEntry x + uptoBulkEntries r
def uptoBulkEntry {H : Type} : Lit × DataW H → Nat
  | (.string bytes, d) => bytes.length + uptoBulk d + 1
  | (_, d) => uptoBulk d + 1
 end
def uptoSmall : (H : Type) → List (DataW H) → Bool := fun _ ds => decide (uptoBulkAll ds ≤ 1048576)
def OpenSpec.upto (s : _root_.Go.ChangeSpec) : _root_.Go.OpenSpec := { _root_.Go.OpenSpec.ofChange s with cond := some uptoSmall }

/-- 'lanyardlaw04.TlvReads', WHERE WHAT IT READS IS OF BULK AT MOST 1048576: true; the input reads as it did. -/
def tlvReadsUptoRow : OpenClaim := { program := "ytgkineipmhhacaa", sum := "803167e0bf751dcb21b2a693446c86dba84e6cb614561631a81cfff8bc51eac8", func := "lanyard/lanyardlaw04.TlvReads", spec := "tlvReads", unfollowed := true, recurses := true, apart := false, narrowed := true }
def TlvReadsUptoSaid : Prop := tlvReadsUptoRow.holds Try.pinned (OpenSpec.upto tlvReadsSpec)

/-- 'lanyardlaw04.TlvWrites', WHERE WHAT IT READS IS OF BULK AT MOST 1048576: true; the input reads as it did. -/
def tlvWritesUptoRow : OpenClaim := { program := "ytgkineipmhhacaa", sum := "803167e0bf751dcb21b2a693446c86dba84e6cb614561631a81cfff8bc51eac8", func := "lanyard/lanyardlaw04.TlvWrites", spec := "tlvWrites", unfollowed := true, recurses := true, loops := true, apart := false, narrowed := true }
def TlvWritesUptoSaid : Prop := tlvWritesUptoRow.holds Try.pinned (OpenSpec.upto tlvWritesSpec)

/-- 'lanyardlaw04.TlvBack', WHERE WHAT IT READS IS OF BULK AT MOST 1048576: true; the input reads as it did. -/
def tlvBackUptoRow : OpenClaim := { program := "ytgkineipmhhacaa", sum := "803167e0bf751dcb21b2a693446c86dba84e6cb614561631a81cfff8bc51eac8", func := "lanyard/lanyardlaw04.TlvBack", spec := "tlvBack", unfollowed := true, recurses := true, loops := true, apart := false, narrowed := true }
def TlvBackUptoSaid : Prop := tlvBackUptoRow.holds Try.pinned (OpenSpec.upto tlvBackSpec)

/-- 'lanyardlaw04.TlvCut', WHERE WHAT IT READS IS OF BULK AT MOST 1048576: true; the input reads as it did. -/
def tlvCutUptoRow : OpenClaim := { program := "ytgkineipmhhacaa", sum := "803167e0bf751dcb21b2a693446c86dba84e6cb614561631a81cfff8bc51eac8", func := "lanyard/lanyardlaw04.TlvCut", spec := "tlvCut", unfollowed := true, recurses := true, loops := true, apart := false, narrowed := true }
def TlvCutUptoSaid : Prop := tlvCutUptoRow.holds Try.pinned (OpenSpec.upto tlvCutSpec)

/-- 'lanyardlaw04.TlvDeep', WHERE WHAT IT READS IS OF BULK AT MOST 1048576: true; the input reads as it did. -/
def tlvDeepUptoRow : OpenClaim := { program := "ytgkineipmhhacaa", sum := "803167e0bf751dcb21b2a693446c86dba84e6cb614561631a81cfff8bc51eac8", func := "lanyard/lanyardlaw04.TlvDeep", spec := "tlvDeep", unfollowed := true, recurses := true, apart := false, narrowed := true }
def TlvDeepUptoSaid : Prop := tlvDeepUptoRow.holds Try.pinned (OpenSpec.upto tlvDeepSpec)

/-- 'lanyardlaw04.TlvJoined', WHERE WHAT IT READS IS OF BULK AT MOST 1048576: true; the input reads as it did. -/
def tlvJoinedUptoRow : OpenClaim := { program := "ytgkineipmhhacaa", sum := "803167e0bf751dcb21b2a693446c86dba84e6cb614561631a81cfff8bc51eac8", func := "lanyard/lanyardlaw04.TlvJoined", spec := "tlvJoined", unfollowed := true, recurses := true, loops := true, apart := false, narrowed := true }
def TlvJoinedUptoSaid : Prop := tlvJoinedUptoRow.holds Try.pinned (OpenSpec.upto tlvJoinedSpec)

end Rows
end Go.Proofs.Ytgkineipmhhacaa
