/-
  No cell of these rows narrows 'for every input' (looked for: loops, veiled, ifaces, maps, wideKeys, modest, calm, conditions, laid).
  DERIVED. THE GIVEN ROWS OF THIS SEAT. 9 by the template 'for every input the law returns true; each argument reads behind the call as it read before'; 0 by the template 'total and deterministic' (their statements: YtdoceobedbmkiaaTotals.lean).
  GIVEN WITH THE SEED: the statements are not yours to turn. If you find one false, say at which input.
  Laid BY PROGRAM, IN A SANDBOX (cutbox-rows.mjs): the forced cells as the released guide's own fill.sh prints them over the translation 15b96088a7c145a0… (all of the seat's roots in one cut). By AI agents, Wed Nov 11 2026. No macro, syntax, notation, axiom, sorry.
-/
import Derived.Test.YtdoceobedbmkiaaChecked
import GoSem.Claim
import GoSem.ClaimJoined
import GoSem.ClaimMapViews
import Derived.JoinedTies
import Derived.KernelRfl
namespace Go.Proofs.Ytdoceobedbmkiaa
/- THE CELL 'sum', in the pinned program and in every row, IS THE sha256 OF THE DUMP (.gsa) THAT YtdoceobedbmkiaaProg.lean LOADS. Nothing in Lean hashes anything: it is a label: what it is worth is what the hold of that sum in a sandbox is worth. -/
noncomputable def Try.pinned : Pinned := { name := "ytdoceobedbmkiaa", sum := "15b96088a7c145a031718f349aad9c8fe91781f279e8b18ffa4a95d0e6aac01b", checked := Try.checked }
namespace Rows
def none {H : Type} : Left H := { results := [], args := [] }

/-- 'lanyardlaw06.ShaParts': WHATEVER THE INPUT: true; the input reads as it did. -/
def shaPartsSpec : ChangeSpec := { name := "shaParts", fn := fun _ => fun
  | [d] => { results := [.lit (.bool true)], args := [d] }
  | _ => none }
def shaPartsRow : OpenClaim := { program := "ytdoceobedbmkiaa", sum := "15b96088a7c145a031718f349aad9c8fe91781f279e8b18ffa4a95d0e6aac01b", func := "lanyard/lanyardlaw06.ShaParts", spec := "shaParts", apart := false }
def ShaPartsSaid : Prop := shaPartsRow.holds Try.pinned (OpenSpec.ofChange shaPartsSpec)

/-- ITS FALSE NEIGHBOUR: 'it returns false'. Refute it at one input. -/
def shaPartsWrong : ChangeSpec := { name := "shaParts", fn := fun _ => fun
  | [d] => { results := [.lit (.bool false)], args := [d] }
  | _ => none }
def ShaPartsWrongFalsely : Prop := shaPartsRow.holds Try.pinned (OpenSpec.ofChange shaPartsWrong)

/-- 'lanyardlaw06.ShaOwn': WHATEVER THE INPUT: true; the input reads as it did. -/
def shaOwnSpec : ChangeSpec := { name := "shaOwn", fn := fun _ => fun
  | [d1, d2] => { results := [.lit (.bool true)], args := [d1, d2] }
  | _ => none }
def shaOwnRow : OpenClaim := { program := "ytdoceobedbmkiaa", sum := "15b96088a7c145a031718f349aad9c8fe91781f279e8b18ffa4a95d0e6aac01b", func := "lanyard/lanyardlaw06.ShaOwn", spec := "shaOwn", apart := false }
def ShaOwnSaid : Prop := shaOwnRow.holds Try.pinned (OpenSpec.ofChange shaOwnSpec)

/-- ITS FALSE NEIGHBOUR: 'it returns false'. Refute it at one input. -/
def shaOwnWrong : ChangeSpec := { name := "shaOwn", fn := fun _ => fun
  | [d1, d2] => { results := [.lit (.bool false)], args := [d1, d2] }
  | _ => none }
def ShaOwnWrongFalsely : Prop := shaOwnRow.holds Try.pinned (OpenSpec.ofChange shaOwnWrong)

/-- 'lanyardlaw06.ShaSums': WHATEVER THE INPUT: true; the input reads as it did. -/
def shaSumsSpec : ChangeSpec := { name := "shaSums", fn := fun _ => fun
  | [d] => { results := [.lit (.bool true)], args := [d] }
  | _ => none }
def shaSumsRow : OpenClaim := { program := "ytdoceobedbmkiaa", sum := "15b96088a7c145a031718f349aad9c8fe91781f279e8b18ffa4a95d0e6aac01b", func := "lanyard/lanyardlaw06.ShaSums", spec := "shaSums", unfollowed := true, recurses := true, apart := false }
def ShaSumsSaid : Prop := shaSumsRow.holds Try.pinned (OpenSpec.ofChange shaSumsSpec)

/-- ITS FALSE NEIGHBOUR: 'it returns false'. Refute it at one input. -/
def shaSumsWrong : ChangeSpec := { name := "shaSums", fn := fun _ => fun
  | [d] => { results := [.lit (.bool false)], args := [d] }
  | _ => none }
def ShaSumsWrongFalsely : Prop := shaSumsRow.holds Try.pinned (OpenSpec.ofChange shaSumsWrong)

/-- 'lanyardlaw09.RsaFrames': WHATEVER THE INPUT: true; the input reads as it did. -/
def rsaFramesSpec : ChangeSpec := { name := "rsaFrames", fn := fun _ => fun
  | [d1, d2, d3] => { results := [.lit (.bool true)], args := [d1, d2, d3] }
  | _ => none }
def rsaFramesRow : OpenClaim := { program := "ytdoceobedbmkiaa", sum := "15b96088a7c145a031718f349aad9c8fe91781f279e8b18ffa4a95d0e6aac01b", func := "lanyard/lanyardlaw09.RsaFrames", spec := "rsaFrames", inPlace := ["internal/bytealg.MakeNoZero"], unfollowed := true, recurses := true, apart := false }
def RsaFramesSaid : Prop := rsaFramesRow.holds Try.pinned (OpenSpec.ofChange rsaFramesSpec)

/-- ITS FALSE NEIGHBOUR: 'it returns false'. Refute it at one input. -/
def rsaFramesWrong : ChangeSpec := { name := "rsaFrames", fn := fun _ => fun
  | [d1, d2, d3] => { results := [.lit (.bool false)], args := [d1, d2, d3] }
  | _ => none }
def RsaFramesWrongFalsely : Prop := rsaFramesRow.holds Try.pinned (OpenSpec.ofChange rsaFramesWrong)

/-- 'lanyardlaw06.ShaNames': WHATEVER THE INPUT: true; the input reads as it did. -/
def shaNamesSpec : ChangeSpec := { name := "shaNames", fn := fun _ => fun
  | [d] => { results := [.lit (.bool true)], args := [d] }
  | _ => none }
def shaNamesRow : OpenClaim := { program := "ytdoceobedbmkiaa", sum := "15b96088a7c145a031718f349aad9c8fe91781f279e8b18ffa4a95d0e6aac01b", func := "lanyard/lanyardlaw06.ShaNames", spec := "shaNames", unfollowed := true, recurses := true, apart := false }
def ShaNamesSaid : Prop := shaNamesRow.holds Try.pinned (OpenSpec.ofChange shaNamesSpec)

/-- ITS FALSE NEIGHBOUR: 'it returns false'. Refute it at one input. -/
def shaNamesWrong : ChangeSpec := { name := "shaNames", fn := fun _ => fun
  | [d] => { results := [.lit (.bool false)], args := [d] }
  | _ => none }
def ShaNamesWrongFalsely : Prop := shaNamesRow.holds Try.pinned (OpenSpec.ofChange shaNamesWrong)

/-- 'lanyardlaw09.RsaVerifies': WHATEVER THE INPUT: true; the input reads as it did. -/
def rsaVerifiesSpec : ChangeSpec := { name := "rsaVerifies", fn := fun _ => fun
  | [d1, d2, d3] => { results := [.lit (.bool true)], args := [d1, d2, d3] }
  | _ => none }
def rsaVerifiesRow : OpenClaim := { program := "ytdoceobedbmkiaa", sum := "15b96088a7c145a031718f349aad9c8fe91781f279e8b18ffa4a95d0e6aac01b", func := "lanyard/lanyardlaw09.RsaVerifies", spec := "rsaVerifies", inPlace := ["internal/bytealg.MakeNoZero"], unfollowed := true, recurses := true, named := ["math/bits.overflowError"], apart := false }
def RsaVerifiesSaid : Prop := rsaVerifiesRow.holds Try.pinned (OpenSpec.ofChange rsaVerifiesSpec)

/-- ITS FALSE NEIGHBOUR: 'it returns false'. Refute it at one input. -/
def rsaVerifiesWrong : ChangeSpec := { name := "rsaVerifies", fn := fun _ => fun
  | [d1, d2, d3] => { results := [.lit (.bool false)], args := [d1, d2, d3] }
  | _ => none }
def RsaVerifiesWrongFalsely : Prop := rsaVerifiesRow.holds Try.pinned (OpenSpec.ofChange rsaVerifiesWrong)

/-- 'lanyardlaw09.RsaSigns': WHATEVER THE INPUT: true; the input reads as it did. -/
def rsaSignsSpec : ChangeSpec := { name := "rsaSigns", fn := fun _ => fun
  | [d1, d2, d3] => { results := [.lit (.bool true)], args := [d1, d2, d3] }
  | _ => none }
def rsaSignsRow : OpenClaim := { program := "ytdoceobedbmkiaa", sum := "15b96088a7c145a031718f349aad9c8fe91781f279e8b18ffa4a95d0e6aac01b", func := "lanyard/lanyardlaw09.RsaSigns", spec := "rsaSigns", inPlace := ["internal/bytealg.MakeNoZero"], unfollowed := true, recurses := true, named := ["math/bits.overflowError"], apart := false }
def RsaSignsSaid : Prop := rsaSignsRow.holds Try.pinned (OpenSpec.ofChange rsaSignsSpec)

/-- ITS FALSE NEIGHBOUR: 'it returns false'. Refute it at one input. -/
def rsaSignsWrong : ChangeSpec := { name := "rsaSigns", fn := fun _ => fun
  | [d1, d2, d3] => { results := [.lit (.bool false)], args := [d1, d2, d3] }
  | _ => none }
def RsaSignsWrongFalsely : Prop := rsaSignsRow.holds Try.pinned (OpenSpec.ofChange rsaSignsWrong)

/-- 'lanyardlaw09.RsaSizes': WHATEVER THE INPUT: true; the input reads as it did. -/
def rsaSizesSpec : ChangeSpec := { name := "rsaSizes", fn := fun _ => fun
  | [d1, d2, d3] => { results := [.lit (.bool true)], args := [d1, d2, d3] }
  | _ => none }
def rsaSizesRow : OpenClaim := { program := "ytdoceobedbmkiaa", sum := "15b96088a7c145a031718f349aad9c8fe91781f279e8b18ffa4a95d0e6aac01b", func := "lanyard/lanyardlaw09.RsaSizes", spec := "rsaSizes", inPlace := ["internal/bytealg.MakeNoZero"], unfollowed := true, recurses := true, named := ["math/bits.overflowError"], apart := false }
def RsaSizesSaid : Prop := rsaSizesRow.holds Try.pinned (OpenSpec.ofChange rsaSizesSpec)

/-- ITS FALSE NEIGHBOUR: 'it returns false'. Refute it at one input. -/
def rsaSizesWrong : ChangeSpec := { name := "rsaSizes", fn := fun _ => fun
  | [d1, d2, d3] => { results := [.lit (.bool false)], args := [d1, d2, d3] }
  | _ => none }
def RsaSizesWrongFalsely : Prop := rsaSizesRow.holds Try.pinned (OpenSpec.ofChange rsaSizesWrong)

/-- 'lanyardlaw09.RsaOnce': WHATEVER THE INPUT: true; the input reads as it did. -/
def rsaOnceSpec : ChangeSpec := { name := "rsaOnce", fn := fun _ => fun
  | [d1, d2, d3] => { results := [.lit (.bool true)], args := [d1, d2, d3] }
  | _ => none }
def rsaOnceRow : OpenClaim := { program := "ytdoceobedbmkiaa", sum := "15b96088a7c145a031718f349aad9c8fe91781f279e8b18ffa4a95d0e6aac01b", func := "lanyard/lanyardlaw09.RsaOnce", spec := "rsaOnce", inPlace := ["internal/bytealg.MakeNoZero"], unfollowed := true, recurses := true, named := ["math/bits.overflowError"], apart := false }
def RsaOnceSaid : Prop := rsaOnceRow.holds Try.pinned (OpenSpec.ofChange rsaOnceSpec)

/-- ITS FALSE NEIGHBOUR: 'it returns false'. Refute it at one input. -/
def rsaOnceWrong : ChangeSpec := { name := "rsaOnce", fn := fun _ => fun
  | [d1, d2, d3] => { results := [.lit (.bool false)], args := [d1, d2, d3] }
  | _ => none }
def RsaOnceWrongFalsely : Prop := rsaOnceRow.holds Try.pinned (OpenSpec.ofChange rsaOnceWrong)

/- THE SECOND FORM. 'bulk': how many values and letters a reading holds, each counted each time it is reached (what is shared counts as often as it is met; a slice's spare places count too). A statement '..UptoSaid' is the law's where the arguments, and the package variables that the reading takes, are together of bulk at most 1048576: NARROWER than '..Said'. Prove '..Said' where nothing that the law and all that it calls make is longer than what came in: it says more and counts as full. Else prove '..UptoSaid'. A law counts once. -/
mutual
def uptoBulk {H : Type} : DataW H → Nat
  | .lit (.string bytes) => bytes.length + 1
  | .lit _ => 1
  | .nil => 1
  | .ptr d => uptoBulk d + 1
  | .slice elems spare => uptoBulkAll elems + uptoBulkAll spare + 1
  | .agg parts => uptoBulkAll parts + 1
  | .iface _ d => uptoBulk d + 1
  | .map entries => uptoBulkEntries entries + 1
  | .held _ => 1
def uptoBulkAll {H : Type} : List (DataW H) → Nat
  | [] => 0
  | d :: r => uptoBulk d + uptoBulkAll r
def uptoBulkEntries {H : Type} : List (Lit × DataW H) → Nat
  | [] => 0
  | x :: r => uptoBulkEntry x + uptoBulkEntries r
def uptoBulkEntry {H : Type} : Lit × DataW H → Nat
  | (.string bytes, d) => bytes.length + uptoBulk d + 1
  | (_, d) => uptoBulk d + 1
 end
def uptoSmall : (H : Type) → List (DataW H) → Bool := fun _ ds => decide (uptoBulkAll ds ≤ 1048576)
def OpenSpec.upto (s : _root_.Go.ChangeSpec) : _root_.Go.OpenSpec := { _root_.Go.OpenSpec.ofChange s with cond := some uptoSmall }

/-- 'lanyardlaw06.ShaParts', WHERE WHAT IT READS IS OF BULK AT MOST 1048576: true; the input reads as it did. -/
def shaPartsUptoRow : OpenClaim := { program := "ytdoceobedbmkiaa", sum := "15b96088a7c145a031718f349aad9c8fe91781f279e8b18ffa4a95d0e6aac01b", func := "lanyard/lanyardlaw06.ShaParts", spec := "shaParts", apart := false, narrowed := true }
def ShaPartsUptoSaid : Prop := shaPartsUptoRow.holds Try.pinned (OpenSpec.upto shaPartsSpec)

/-- 'lanyardlaw06.ShaOwn', WHERE WHAT IT READS IS OF BULK AT MOST 1048576: true; the input reads as it did. -/
def shaOwnUptoRow : OpenClaim := { program := "ytdoceobedbmkiaa", sum := "15b96088a7c145a031718f349aad9c8fe91781f279e8b18ffa4a95d0e6aac01b", func := "lanyard/lanyardlaw06.ShaOwn", spec := "shaOwn", apart := false, narrowed := true }
def ShaOwnUptoSaid : Prop := shaOwnUptoRow.holds Try.pinned (OpenSpec.upto shaOwnSpec)

/-- 'lanyardlaw06.ShaSums', WHERE WHAT IT READS IS OF BULK AT MOST 1048576: true; the input reads as it did. -/
def shaSumsUptoRow : OpenClaim := { program := "ytdoceobedbmkiaa", sum := "15b96088a7c145a031718f349aad9c8fe91781f279e8b18ffa4a95d0e6aac01b", func := "lanyard/lanyardlaw06.ShaSums", spec := "shaSums", unfollowed := true, recurses := true, apart := false, narrowed := true }
def ShaSumsUptoSaid : Prop := shaSumsUptoRow.holds Try.pinned (OpenSpec.upto shaSumsSpec)

/-- 'lanyardlaw09.RsaFrames', WHERE WHAT IT READS IS OF BULK AT MOST 1048576: true; the input reads as it did. -/
def rsaFramesUptoRow : OpenClaim := { program := "ytdoceobedbmkiaa", sum := "15b96088a7c145a031718f349aad9c8fe91781f279e8b18ffa4a95d0e6aac01b", func := "lanyard/lanyardlaw09.RsaFrames", spec := "rsaFrames", inPlace := ["internal/bytealg.MakeNoZero"], unfollowed := true, recurses := true, apart := false, narrowed := true }
def RsaFramesUptoSaid : Prop := rsaFramesUptoRow.holds Try.pinned (OpenSpec.upto rsaFramesSpec)

/-- 'lanyardlaw06.ShaNames', WHERE WHAT IT READS IS OF BULK AT MOST 1048576: true; the input reads as it did. -/
def shaNamesUptoRow : OpenClaim := { program := "ytdoceobedbmkiaa", sum := "15b96088a7c145a031718f349aad9c8fe91781f279e8b18ffa4a95d0e6aac01b", func := "lanyard/lanyardlaw06.ShaNames", spec := "shaNames", unfollowed := true, recurses := true, apart := false, narrowed := true }
def ShaNamesUptoSaid : Prop := shaNamesUptoRow.holds Try.pinned (OpenSpec.upto shaNamesSpec)

/-- 'lanyardlaw09.RsaVerifies', WHERE WHAT IT READS IS OF BULK AT MOST 1048576: true; the input reads as it did. -/
def rsaVerifiesUptoRow : OpenClaim := { program := "ytdoceobedbmkiaa", sum := "15b96088a7c145a031718f349aad9c8fe91781f279e8b18ffa4a95d0e6aac01b", func := "lanyard/lanyardlaw09.RsaVerifies", spec := "rsaVerifies", inPlace := ["internal/bytealg.MakeNoZero"], unfollowed := true, recurses := true, named := ["math/bits.overflowError"], apart := false, narrowed := true }
def RsaVerifiesUptoSaid : Prop := rsaVerifiesUptoRow.holds Try.pinned (OpenSpec.upto rsaVerifiesSpec)

/-- 'lanyardlaw09.RsaSigns', WHERE WHAT IT READS IS OF BULK AT MOST 1048576: true; the input reads as it did. -/
def rsaSignsUptoRow : OpenClaim := { program := "ytdoceobedbmkiaa", sum := "15b96088a7c145a031718f349aad9c8fe91781f279e8b18ffa4a95d0e6aac01b", func := "lanyard/lanyardlaw09.RsaSigns", spec := "rsaSigns", inPlace := ["internal/bytealg.MakeNoZero"], unfollowed := true, recurses := true, named := ["math/bits.overflowError"], apart := false, narrowed := true }
def RsaSignsUptoSaid : Prop := rsaSignsUptoRow.holds Try.pinned (OpenSpec.upto rsaSignsSpec)

/-- 'lanyardlaw09.RsaSizes', WHERE WHAT IT READS IS OF BULK AT MOST 1048576: true; the input reads as it did. -/
def rsaSizesUptoRow : OpenClaim := { program := "ytdoceobedbmkiaa", sum := "15b96088a7c145a031718f349aad9c8fe91781f279e8b18ffa4a95d0e6aac01b", func := "lanyard/lanyardlaw09.RsaSizes", spec := "rsaSizes", inPlace := ["internal/bytealg.MakeNoZero"], unfollowed := true, recurses := true, named := ["math/bits.overflowError"], apart := false, narrowed := true }
def RsaSizesUptoSaid : Prop := rsaSizesUptoRow.holds Try.pinned (OpenSpec.upto rsaSizesSpec)

/-- 'lanyardlaw09.RsaOnce', WHERE WHAT IT READS IS OF BULK AT MOST 1048576: true; the input reads as it did. -/
def rsaOnceUptoRow : OpenClaim := { program := "ytdoceobedbmkiaa", sum := "15b96088a7c145a031718f349aad9c8fe91781f279e8b18ffa4a95d0e6aac01b", func := "lanyard/lanyardlaw09.RsaOnce", spec := "rsaOnce", inPlace := ["internal/bytealg.MakeNoZero"], unfollowed := true, recurses := true, named := ["math/bits.overflowError"], apart := false, narrowed := true }
def RsaOnceUptoSaid : Prop := rsaOnceUptoRow.holds Try.pinned (OpenSpec.upto rsaOnceSpec)

end Rows
end Go.Proofs.Ytdoceobedbmkiaa
