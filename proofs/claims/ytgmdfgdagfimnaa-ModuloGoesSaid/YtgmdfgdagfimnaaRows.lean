/-
  No cell of these rows narrows 'for every input' (looked for: loops, veiled, ifaces, maps, wideKeys, modest, calm, conditions, laid).
  DERIVED. THE GIVEN ROWS OF THIS SEAT. 10 by the template 'for every input the law returns true; each argument reads behind the call as it read before'; 0 by the template 'total and deterministic' (their statements: YtgmdfgdagfimnaaTotals.lean).
  GIVEN WITH THE SEED: the statements are not yours to turn. If you find one false, say at which input.
  Laid BY PROGRAM, IN A SANDBOX (cutbox-rows.mjs): the forced cells as the released guide's own fill.sh prints them over the translation d8308574617cce09… (all of the seat's roots in one cut). By AI agents, Wed Nov 11 2026. No macro, syntax, notation, axiom, sorry.
-/
import Derived.Test.YtgmdfgdagfimnaaChecked
import GoSem.Claim
import GoSem.ClaimJoined
import GoSem.ClaimMapViews
import Derived.JoinedTies
import Derived.KernelRfl
namespace Go.Proofs.Ytgmdfgdagfimnaa
/- THE CELL 'sum', in the pinned program and in every row, IS THE sha256 OF THE DUMP (.gsa) THAT YtgmdfgdagfimnaaProg.lean LOADS. Nothing in Lean hashes anything: it is a label: what it is worth is what the hold of that sum in a sandbox is worth. -/
noncomputable def Try.pinned : Pinned := { name := "ytgmdfgdagfimnaa", sum := "d8308574617cce092fbb915a93c323264ff1eb250c24ef6d568e3c1f871ddbde", checked := Try.checked }
namespace Rows
def none {H : Type} : Left H := { results := [], args := [] }

/-- 'lanyardlaw07.LimbTurns': WHATEVER THE INPUT: true; the input reads as it did. -/
def limbTurnsSpec : ChangeSpec := { name := "limbTurns", fn := fun _ => fun
  | [d1, d2, d3] => { results := [.lit (.bool true)], args := [d1, d2, d3] }
  | _ => none }
def limbTurnsRow : OpenClaim := { program := "ytgmdfgdagfimnaa", sum := "d8308574617cce092fbb915a93c323264ff1eb250c24ef6d568e3c1f871ddbde", func := "lanyard/lanyardlaw07.LimbTurns", spec := "limbTurns", apart := false }
def LimbTurnsSaid : Prop := limbTurnsRow.holds Try.pinned (OpenSpec.ofChange limbTurnsSpec)

/-- ITS FALSE NEIGHBOUR: 'it returns false'. Refute it at one input. -/
def limbTurnsWrong : ChangeSpec := { name := "limbTurns", fn := fun _ => fun
  | [d1, d2, d3] => { results := [.lit (.bool false)], args := [d1, d2, d3] }
  | _ => none }
def LimbTurnsWrongFalsely : Prop := limbTurnsRow.holds Try.pinned (OpenSpec.ofChange limbTurnsWrong)

/-- 'lanyardlaw07.LimbTells': WHATEVER THE INPUT: true; the input reads as it did. -/
def limbTellsSpec : ChangeSpec := { name := "limbTells", fn := fun _ => fun
  | [d1, d2, d3] => { results := [.lit (.bool true)], args := [d1, d2, d3] }
  | _ => none }
def limbTellsRow : OpenClaim := { program := "ytgmdfgdagfimnaa", sum := "d8308574617cce092fbb915a93c323264ff1eb250c24ef6d568e3c1f871ddbde", func := "lanyard/lanyardlaw07.LimbTells", spec := "limbTells", apart := false }
def LimbTellsSaid : Prop := limbTellsRow.holds Try.pinned (OpenSpec.ofChange limbTellsSpec)

/-- ITS FALSE NEIGHBOUR: 'it returns false'. Refute it at one input. -/
def limbTellsWrong : ChangeSpec := { name := "limbTells", fn := fun _ => fun
  | [d1, d2, d3] => { results := [.lit (.bool false)], args := [d1, d2, d3] }
  | _ => none }
def LimbTellsWrongFalsely : Prop := limbTellsRow.holds Try.pinned (OpenSpec.ofChange limbTellsWrong)

/-- 'lanyardlaw07.LimbReckons': WHATEVER THE INPUT: true; the input reads as it did. -/
def limbReckonsSpec : ChangeSpec := { name := "limbReckons", fn := fun _ => fun
  | [d1, d2] => { results := [.lit (.bool true)], args := [d1, d2] }
  | _ => none }
def limbReckonsRow : OpenClaim := { program := "ytgmdfgdagfimnaa", sum := "d8308574617cce092fbb915a93c323264ff1eb250c24ef6d568e3c1f871ddbde", func := "lanyard/lanyardlaw07.LimbReckons", spec := "limbReckons", apart := false }
def LimbReckonsSaid : Prop := limbReckonsRow.holds Try.pinned (OpenSpec.ofChange limbReckonsSpec)

/-- ITS FALSE NEIGHBOUR: 'it returns false'. Refute it at one input. -/
def limbReckonsWrong : ChangeSpec := { name := "limbReckons", fn := fun _ => fun
  | [d1, d2] => { results := [.lit (.bool false)], args := [d1, d2] }
  | _ => none }
def LimbReckonsWrongFalsely : Prop := limbReckonsRow.holds Try.pinned (OpenSpec.ofChange limbReckonsWrong)

/-- 'lanyardlaw07.LimbSizes': WHATEVER THE INPUT: true; the input reads as it did. -/
def limbSizesSpec : ChangeSpec := { name := "limbSizes", fn := fun _ => fun
  | [d1, d2] => { results := [.lit (.bool true)], args := [d1, d2] }
  | _ => none }
def limbSizesRow : OpenClaim := { program := "ytgmdfgdagfimnaa", sum := "d8308574617cce092fbb915a93c323264ff1eb250c24ef6d568e3c1f871ddbde", func := "lanyard/lanyardlaw07.LimbSizes", spec := "limbSizes", apart := false }
def LimbSizesSaid : Prop := limbSizesRow.holds Try.pinned (OpenSpec.ofChange limbSizesSpec)

/-- ITS FALSE NEIGHBOUR: 'it returns false'. Refute it at one input. -/
def limbSizesWrong : ChangeSpec := { name := "limbSizes", fn := fun _ => fun
  | [d1, d2] => { results := [.lit (.bool false)], args := [d1, d2] }
  | _ => none }
def LimbSizesWrongFalsely : Prop := limbSizesRow.holds Try.pinned (OpenSpec.ofChange limbSizesWrong)

/-- 'lanyardlaw07.LimbBack': WHATEVER THE INPUT: true; the input reads as it did. -/
def limbBackSpec : ChangeSpec := { name := "limbBack", fn := fun _ => fun
  | [d1, d2, d3] => { results := [.lit (.bool true)], args := [d1, d2, d3] }
  | _ => none }
def limbBackRow : OpenClaim := { program := "ytgmdfgdagfimnaa", sum := "d8308574617cce092fbb915a93c323264ff1eb250c24ef6d568e3c1f871ddbde", func := "lanyard/lanyardlaw07.LimbBack", spec := "limbBack", apart := false }
def LimbBackSaid : Prop := limbBackRow.holds Try.pinned (OpenSpec.ofChange limbBackSpec)

/-- ITS FALSE NEIGHBOUR: 'it returns false'. Refute it at one input. -/
def limbBackWrong : ChangeSpec := { name := "limbBack", fn := fun _ => fun
  | [d1, d2, d3] => { results := [.lit (.bool false)], args := [d1, d2, d3] }
  | _ => none }
def LimbBackWrongFalsely : Prop := limbBackRow.holds Try.pinned (OpenSpec.ofChange limbBackWrong)

/-- 'lanyardlaw08.ModuloParts': WHATEVER THE INPUT: true; the input reads as it did. -/
def moduloPartsSpec : ChangeSpec := { name := "moduloParts", fn := fun _ => fun
  | [d1, d2] => { results := [.lit (.bool true)], args := [d1, d2] }
  | _ => none }
def moduloPartsRow : OpenClaim := { program := "ytgmdfgdagfimnaa", sum := "d8308574617cce092fbb915a93c323264ff1eb250c24ef6d568e3c1f871ddbde", func := "lanyard/lanyardlaw08.ModuloParts", spec := "moduloParts", named := ["math/bits.overflowError"], apart := false }
def ModuloPartsSaid : Prop := moduloPartsRow.holds Try.pinned (OpenSpec.ofChange moduloPartsSpec)

/-- ITS FALSE NEIGHBOUR: 'it returns false'. Refute it at one input. -/
def moduloPartsWrong : ChangeSpec := { name := "moduloParts", fn := fun _ => fun
  | [d1, d2] => { results := [.lit (.bool false)], args := [d1, d2] }
  | _ => none }
def ModuloPartsWrongFalsely : Prop := moduloPartsRow.holds Try.pinned (OpenSpec.ofChange moduloPartsWrong)

/-- 'lanyardlaw08.ModuloPowers': WHATEVER THE INPUT: true; the input reads as it did. -/
def moduloPowersSpec : ChangeSpec := { name := "moduloPowers", fn := fun _ => fun
  | [d1, d2, d3] => { results := [.lit (.bool true)], args := [d1, d2, d3] }
  | _ => none }
def moduloPowersRow : OpenClaim := { program := "ytgmdfgdagfimnaa", sum := "d8308574617cce092fbb915a93c323264ff1eb250c24ef6d568e3c1f871ddbde", func := "lanyard/lanyardlaw08.ModuloPowers", spec := "moduloPowers", named := ["math/bits.overflowError"], apart := false }
def ModuloPowersSaid : Prop := moduloPowersRow.holds Try.pinned (OpenSpec.ofChange moduloPowersSpec)

/-- ITS FALSE NEIGHBOUR: 'it returns false'. Refute it at one input. -/
def moduloPowersWrong : ChangeSpec := { name := "moduloPowers", fn := fun _ => fun
  | [d1, d2, d3] => { results := [.lit (.bool false)], args := [d1, d2, d3] }
  | _ => none }
def ModuloPowersWrongFalsely : Prop := moduloPowersRow.holds Try.pinned (OpenSpec.ofChange moduloPowersWrong)

/-- 'lanyardlaw08.ModuloBack': WHATEVER THE INPUT: true; the input reads as it did. -/
def moduloBackSpec : ChangeSpec := { name := "moduloBack", fn := fun _ => fun
  | [d1, d2] => { results := [.lit (.bool true)], args := [d1, d2] }
  | _ => none }
def moduloBackRow : OpenClaim := { program := "ytgmdfgdagfimnaa", sum := "d8308574617cce092fbb915a93c323264ff1eb250c24ef6d568e3c1f871ddbde", func := "lanyard/lanyardlaw08.ModuloBack", spec := "moduloBack", named := ["math/bits.overflowError"], apart := false }
def ModuloBackSaid : Prop := moduloBackRow.holds Try.pinned (OpenSpec.ofChange moduloBackSpec)

/-- ITS FALSE NEIGHBOUR: 'it returns false'. Refute it at one input. -/
def moduloBackWrong : ChangeSpec := { name := "moduloBack", fn := fun _ => fun
  | [d1, d2] => { results := [.lit (.bool false)], args := [d1, d2] }
  | _ => none }
def ModuloBackWrongFalsely : Prop := moduloBackRow.holds Try.pinned (OpenSpec.ofChange moduloBackWrong)

/-- 'lanyardlaw08.ModuloMade': WHATEVER THE INPUT: true; the input reads as it did. -/
def moduloMadeSpec : ChangeSpec := { name := "moduloMade", fn := fun _ => fun
  | [d1, d2, d3] => { results := [.lit (.bool true)], args := [d1, d2, d3] }
  | _ => none }
def moduloMadeRow : OpenClaim := { program := "ytgmdfgdagfimnaa", sum := "d8308574617cce092fbb915a93c323264ff1eb250c24ef6d568e3c1f871ddbde", func := "lanyard/lanyardlaw08.ModuloMade", spec := "moduloMade", named := ["math/bits.overflowError"], apart := false }
def ModuloMadeSaid : Prop := moduloMadeRow.holds Try.pinned (OpenSpec.ofChange moduloMadeSpec)

/-- ITS FALSE NEIGHBOUR: 'it returns false'. Refute it at one input. -/
def moduloMadeWrong : ChangeSpec := { name := "moduloMade", fn := fun _ => fun
  | [d1, d2, d3] => { results := [.lit (.bool false)], args := [d1, d2, d3] }
  | _ => none }
def ModuloMadeWrongFalsely : Prop := moduloMadeRow.holds Try.pinned (OpenSpec.ofChange moduloMadeWrong)

/-- 'lanyardlaw08.ModuloGoes': WHATEVER THE INPUT: true; the input reads as it did. -/
def moduloGoesSpec : ChangeSpec := { name := "moduloGoes", fn := fun _ => fun
  | [d1, d2, d3] => { results := [.lit (.bool true)], args := [d1, d2, d3] }
  | _ => none }
def moduloGoesRow : OpenClaim := { program := "ytgmdfgdagfimnaa", sum := "d8308574617cce092fbb915a93c323264ff1eb250c24ef6d568e3c1f871ddbde", func := "lanyard/lanyardlaw08.ModuloGoes", spec := "moduloGoes", named := ["math/bits.overflowError"], apart := false }
def ModuloGoesSaid : Prop := moduloGoesRow.holds Try.pinned (OpenSpec.ofChange moduloGoesSpec)

/-- ITS FALSE NEIGHBOUR: 'it returns false'. Refute it at one input. -/
def moduloGoesWrong : ChangeSpec := { name := "moduloGoes", fn := fun _ => fun
  | [d1, d2, d3] => { results := [.lit (.bool false)], args := [d1, d2, d3] }
  | _ => none }
def ModuloGoesWrongFalsely : Prop := moduloGoesRow.holds Try.pinned (OpenSpec.ofChange moduloGoesWrong)

/- THE SECOND FORM. 'bulk': how many values and letters a reading holds, each counted each time it is reached (what is shared counts as often as it is met; a slice's spare places count too). A statement '..UptoSaid' is the law's where the arguments, and the package variables that the reading takes, are together of bulk at most 1048576: NARROWER than '..Said'. Prove '..Said' where nothing that the law and all that it calls make is longer than what came in: it says more and counts as full. Else prove '..UptoSaid'. A law counts once. -/
mutual
def uptoBulk {H : Type} : DataW H → Nat
  | .lit (.string bytes) => bytes.length + 1
  | .lit _ => 1
  | .nil => 1
  | .ptr d => uptoBulk d + 1
  | .slice elems spare => uptoBulkAll elems + uptoBulkAll spare + 1
  | .agg parts => uptoBulkAll parts + 1
  | .iface _ d => uptoBulk d + 1
  | .map entries => uptoBulkEntries entries + 1
  | .held _ => 1
def uptoBulkAll {H : Type} : List (DataW H) → Nat
  | [] => 0
  | d :: r => uptoBulk d + uptoBulkAll r
def uptoBulkEntries {H : Type} : List (Lit × DataW H) → Nat
  | [] => 0
  | x :: r => uptoBulkEntry x + uptoBulkEntries r
def uptoBulkEntry {H : Type} : Lit × DataW H → Nat
  | (.string bytes, d) => bytes.length + uptoBulk d + 1
  | (_, d) => uptoBulk d + 1
 end
def uptoSmall : (H : Type) → List (DataW H) → Bool := fun _ ds => decide (uptoBulkAll ds ≤ 1048576)
def OpenSpec.upto (s : _root_.Go.ChangeSpec) : _root_.Go.OpenSpec := { _root_.Go.OpenSpec.ofChange s with cond := some uptoSmall }

/-- 'lanyardlaw07.LimbTurns', WHERE WHAT IT READS IS OF BULK AT MOST 1048576: true; the input reads as it did. -/
def limbTurnsUptoRow : OpenClaim := { program := "ytgmdfgdagfimnaa", sum := "d8308574617cce092fbb915a93c323264ff1eb250c24ef6d568e3c1f871ddbde", func := "lanyard/lanyardlaw07.LimbTurns", spec := "limbTurns", apart := false, narrowed := true }
def LimbTurnsUptoSaid : Prop := limbTurnsUptoRow.holds Try.pinned (OpenSpec.upto limbTurnsSpec)

/-- 'lanyardlaw07.LimbTells', WHERE WHAT IT READS IS OF BULK AT MOST 1048576: true; the input reads as it did. -/
def limbTellsUptoRow : OpenClaim := { program := "ytgmdfgdagfimnaa", sum := "d8308574617cce092fbb915a93c323264ff1eb250c24ef6d568e3c1f871ddbde", func := "lanyard/lanyardlaw07.LimbTells", spec := "limbTells", apart := false, narrowed := true }
def LimbTellsUptoSaid : Prop := limbTellsUptoRow.holds Try.pinned (OpenSpec.upto limbTellsSpec)

/-- 'lanyardlaw07.LimbReckons', WHERE WHAT IT READS IS OF BULK AT MOST 1048576: true; the input reads as it did. -/
def limbReckonsUptoRow : OpenClaim := { program := "ytgmdfgdagfimnaa", sum := "d8308574617cce092fbb915a93c323264ff1eb250c24ef6d568e3c1f871ddbde", func := "lanyard/lanyardlaw07.LimbReckons", spec := "limbReckons", apart := false, narrowed := true }
def LimbReckonsUptoSaid : Prop := limbReckonsUptoRow.holds Try.pinned (OpenSpec.upto limbReckonsSpec)

/-- 'lanyardlaw07.LimbSizes', WHERE WHAT IT READS IS OF BULK AT MOST 1048576: true; the input reads as it did. -/
def limbSizesUptoRow : OpenClaim := { program := "ytgmdfgdagfimnaa", sum := "d8308574617cce092fbb915a93c323264ff1eb250c24ef6d568e3c1f871ddbde", func := "lanyard/lanyardlaw07.LimbSizes", spec := "limbSizes", apart := false, narrowed := true }
def LimbSizesUptoSaid : Prop := limbSizesUptoRow.holds Try.pinned (OpenSpec.upto limbSizesSpec)

/-- 'lanyardlaw07.LimbBack', WHERE WHAT IT READS IS OF BULK AT MOST 1048576: true; the input reads as it did. -/
def limbBackUptoRow : OpenClaim := { program := "ytgmdfgdagfimnaa", sum := "d8308574617cce092fbb915a93c323264ff1eb250c24ef6d568e3c1f871ddbde", func := "lanyard/lanyardlaw07.LimbBack", spec := "limbBack", apart := false, narrowed := true }
def LimbBackUptoSaid : Prop := limbBackUptoRow.holds Try.pinned (OpenSpec.upto limbBackSpec)

/-- 'lanyardlaw08.ModuloParts', WHERE WHAT IT READS IS OF BULK AT MOST 1048576: true; the input reads as it did. -/
def moduloPartsUptoRow : OpenClaim := { program := "ytgmdfgdagfimnaa", sum := "d8308574617cce092fbb915a93c323264ff1eb250c24ef6d568e3c1f871ddbde", func := "lanyard/lanyardlaw08.ModuloParts", spec := "moduloParts", named := ["math/bits.overflowError"], apart := false, narrowed := true }
def ModuloPartsUptoSaid : Prop := moduloPartsUptoRow.holds Try.pinned (OpenSpec.upto moduloPartsSpec)

/-- 'lanyardlaw08.ModuloPowers', WHERE WHAT IT READS IS OF BULK AT MOST 1048576: true; the input reads as it did. -/
def moduloPowersUptoRow : OpenClaim := { program := "ytgmdfgdagfimnaa", sum := "d8308574617cce092fbb915a93c323264ff1eb250c24ef6d568e3c1f871ddbde", func := "lanyard/lanyardlaw08.ModuloPowers", spec := "moduloPowers", named := ["math/bits.overflowError"], apart := false, narrowed := true }
def ModuloPowersUptoSaid : Prop := moduloPowersUptoRow.holds Try.pinned (OpenSpec.upto moduloPowersSpec)

/-- 'lanyardlaw08.ModuloBack', WHERE WHAT IT READS IS OF BULK AT MOST 1048576: true; the input reads as it did. -/
def moduloBackUptoRow : OpenClaim := { program := "ytgmdfgdagfimnaa", sum := "d8308574617cce092fbb915a93c323264ff1eb250c24ef6d568e3c1f871ddbde", func := "lanyard/lanyardlaw08.ModuloBack", spec := "moduloBack", named := ["math/bits.overflowError"], apart := false, narrowed := true }
def ModuloBackUptoSaid : Prop := moduloBackUptoRow.holds Try.pinned (OpenSpec.upto moduloBackSpec)

/-- 'lanyardlaw08.ModuloMade', WHERE WHAT IT READS IS OF BULK AT MOST 1048576: true; the input reads as it did. -/
def moduloMadeUptoRow : OpenClaim := { program := "ytgmdfgdagfimnaa", sum := "d8308574617cce092fbb915a93c323264ff1eb250c24ef6d568e3c1f871ddbde", func := "lanyard/lanyardlaw08.ModuloMade", spec := "moduloMade", named := ["math/bits.overflowError"], apart := false, narrowed := true }
def ModuloMadeUptoSaid : Prop := moduloMadeUptoRow.holds Try.pinned (OpenSpec.upto moduloMadeSpec)

/-- 'lanyardlaw08.ModuloGoes', WHERE WHAT IT READS IS OF BULK AT MOST 1048576: true; the input reads as it did. -/
def moduloGoesUptoRow : OpenClaim := { program := "ytgmdfgdagfimnaa", sum := "d8308574617cce092fbb915a93c323264ff1eb250c24ef6d568e3c1f871ddbde", func := "lanyard/lanyardlaw08.ModuloGoes", spec := "moduloGoes", named := ["math/bits.overflowError"], apart := false, narrowed := true }
def ModuloGoesUptoSaid : Prop := moduloGoesUptoRow.holds Try.pinned (OpenSpec.upto moduloGoesSpec)

end Rows
end Go.Proofs.Ytgmdfgdagfimnaa
