/-
  No cell of these rows narrows 'for every input' (looked for: loops, veiled, ifaces, maps, wideKeys, modest, calm, conditions, laid).
  DERIVED. THE GIVEN ROWS OF THIS SEAT. 10 by the template 'for every input the law returns true; each argument reads behind the call as it read before'; 0 by the template 'total and deterministic' (their statements: YtndikkpmlofebaaTotals.lean).
  GIVEN WITH THE SEED: the statements are not yours to turn. If you find one false, say at which input.
  Laid BY PROGRAM, IN A SANDBOX (cutbox-rows.mjs): the forced cells as the released guide's own fill.sh prints them over the translation 497fe20237b6b48d… (all of the seat's roots in one cut). By AI agents, Wed Nov 11 2026. No macro, syntax, notation, axiom, sorry.
-/
import Derived.Test.YtndikkpmlofebaaChecked
import GoSem.Claim
import GoSem.ClaimJoined
import GoSem.ClaimMapViews
import Derived.JoinedTies
import Derived.KernelRfl
namespace Go.Proofs.Ytndikkpmlofebaa
/- THE CELL 'sum', in the pinned program and in every row, IS THE sha256 OF THE DUMP (.gsa) THAT YtndikkpmlofebaaProg.lean LOADS. Nothing in Lean hashes anything: it is a label: what it is worth is what the hold of that sum in a sandbox is worth. -/
noncomputable def Try.pinned : Pinned := { name := "ytndikkpmlofebaa", sum := "497fe20237b6b48d3e11c92edbb944c6bb557803eae49e889fd3c809561471a7", checked := Try.checked }
namespace Rows
def none {H : Type} : Left H := { results := [], args := [] }

/-- 'lanyardlaw01.OctetNumbers': WHATEVER THE INPUT: true; the input reads as it did. -/
def octetNumbersSpec : ChangeSpec := { name := "octetNumbers", fn := fun _ => fun
  | [d1, d2, d3] => { results := [.lit (.bool true)], args := [d1, d2, d3] }
  | _ => none }
def octetNumbersRow : OpenClaim := { program := "ytndikkpmlofebaa", sum := "497fe20237b6b48d3e11c92edbb944c6bb557803eae49e889fd3c809561471a7", func := "lanyard/lanyardlaw01.OctetNumbers", spec := "octetNumbers", unfollowed := true, recurses := true, apart := false }
def OctetNumbersSaid : Prop := octetNumbersRow.holds Try.pinned (OpenSpec.ofChange octetNumbersSpec)

/-- ITS FALSE NEIGHBOUR: 'it returns false'. Refute it at one input. -/
def octetNumbersWrong : ChangeSpec := { name := "octetNumbers", fn := fun _ => fun
  | [d1, d2, d3] => { results := [.lit (.bool false)], args := [d1, d2, d3] }
  | _ => none }
def OctetNumbersWrongFalsely : Prop := octetNumbersRow.holds Try.pinned (OpenSpec.ofChange octetNumbersWrong)

/-- 'lanyardlaw01.OctetDigits': WHATEVER THE INPUT: true; the input reads as it did. -/
def octetDigitsSpec : ChangeSpec := { name := "octetDigits", fn := fun _ => fun
  | [d1, d2] => { results := [.lit (.bool true)], args := [d1, d2] }
  | _ => none }
def octetDigitsRow : OpenClaim := { program := "ytndikkpmlofebaa", sum := "497fe20237b6b48d3e11c92edbb944c6bb557803eae49e889fd3c809561471a7", func := "lanyard/lanyardlaw01.OctetDigits", spec := "octetDigits", unfollowed := true, recurses := true, apart := false }
def OctetDigitsSaid : Prop := octetDigitsRow.holds Try.pinned (OpenSpec.ofChange octetDigitsSpec)

/-- ITS FALSE NEIGHBOUR: 'it returns false'. Refute it at one input. -/
def octetDigitsWrong : ChangeSpec := { name := "octetDigits", fn := fun _ => fun
  | [d1, d2] => { results := [.lit (.bool false)], args := [d1, d2] }
  | _ => none }
def OctetDigitsWrongFalsely : Prop := octetDigitsRow.holds Try.pinned (OpenSpec.ofChange octetDigitsWrong)

/-- 'lanyardlaw01.OctetBack': WHATEVER THE INPUT: true; the input reads as it did. -/
def octetBackSpec : ChangeSpec := { name := "octetBack", fn := fun _ => fun
  | [d1, d2, d3] => { results := [.lit (.bool true)], args := [d1, d2, d3] }
  | _ => none }
def octetBackRow : OpenClaim := { program := "ytndikkpmlofebaa", sum := "497fe20237b6b48d3e11c92edbb944c6bb557803eae49e889fd3c809561471a7", func := "lanyard/lanyardlaw01.OctetBack", spec := "octetBack", unfollowed := true, recurses := true, apart := false }
def OctetBackSaid : Prop := octetBackRow.holds Try.pinned (OpenSpec.ofChange octetBackSpec)

/-- ITS FALSE NEIGHBOUR: 'it returns false'. Refute it at one input. -/
def octetBackWrong : ChangeSpec := { name := "octetBack", fn := fun _ => fun
  | [d1, d2, d3] => { results := [.lit (.bool false)], args := [d1, d2, d3] }
  | _ => none }
def OctetBackWrongFalsely : Prop := octetBackRow.holds Try.pinned (OpenSpec.ofChange octetBackWrong)

/-- 'lanyardlaw01.OctetOrders': WHATEVER THE INPUT: true; the input reads as it did. -/
def octetOrdersSpec : ChangeSpec := { name := "octetOrders", fn := fun _ => fun
  | [d1, d2] => { results := [.lit (.bool true)], args := [d1, d2] }
  | _ => none }
def octetOrdersRow : OpenClaim := { program := "ytndikkpmlofebaa", sum := "497fe20237b6b48d3e11c92edbb944c6bb557803eae49e889fd3c809561471a7", func := "lanyard/lanyardlaw01.OctetOrders", spec := "octetOrders", unfollowed := true, recurses := true, apart := false }
def OctetOrdersSaid : Prop := octetOrdersRow.holds Try.pinned (OpenSpec.ofChange octetOrdersSpec)

/-- ITS FALSE NEIGHBOUR: 'it returns false'. Refute it at one input. -/
def octetOrdersWrong : ChangeSpec := { name := "octetOrders", fn := fun _ => fun
  | [d1, d2] => { results := [.lit (.bool false)], args := [d1, d2] }
  | _ => none }
def OctetOrdersWrongFalsely : Prop := octetOrdersRow.holds Try.pinned (OpenSpec.ofChange octetOrdersWrong)

/-- 'lanyardlaw01.OctetSame': WHATEVER THE INPUT: true; the input reads as it did. -/
def octetSameSpec : ChangeSpec := { name := "octetSame", fn := fun _ => fun
  | [d1, d2, d3] => { results := [.lit (.bool true)], args := [d1, d2, d3] }
  | _ => none }
def octetSameRow : OpenClaim := { program := "ytndikkpmlofebaa", sum := "497fe20237b6b48d3e11c92edbb944c6bb557803eae49e889fd3c809561471a7", func := "lanyard/lanyardlaw01.OctetSame", spec := "octetSame", unfollowed := true, recurses := true, apart := false }
def OctetSameSaid : Prop := octetSameRow.holds Try.pinned (OpenSpec.ofChange octetSameSpec)

/-- ITS FALSE NEIGHBOUR: 'it returns false'. Refute it at one input. -/
def octetSameWrong : ChangeSpec := { name := "octetSame", fn := fun _ => fun
  | [d1, d2, d3] => { results := [.lit (.bool false)], args := [d1, d2, d3] }
  | _ => none }
def OctetSameWrongFalsely : Prop := octetSameRow.holds Try.pinned (OpenSpec.ofChange octetSameWrong)

/-- 'lanyardlaw03.ClockMoments': WHATEVER THE INPUT: true; the input reads as it did. -/
def clockMomentsSpec : ChangeSpec := { name := "clockMoments", fn := fun _ => fun
  | [d1, d2] => { results := [.lit (.bool true)], args := [d1, d2] }
  | _ => none }
def clockMomentsRow : OpenClaim := { program := "ytndikkpmlofebaa", sum := "497fe20237b6b48d3e11c92edbb944c6bb557803eae49e889fd3c809561471a7", func := "lanyard/lanyardlaw03.ClockMoments", spec := "clockMoments", apart := false }
def ClockMomentsSaid : Prop := clockMomentsRow.holds Try.pinned (OpenSpec.ofChange clockMomentsSpec)

/-- ITS FALSE NEIGHBOUR: 'it returns false'. Refute it at one input. -/
def clockMomentsWrong : ChangeSpec := { name := "clockMoments", fn := fun _ => fun
  | [d1, d2] => { results := [.lit (.bool false)], args := [d1, d2] }
  | _ => none }
def ClockMomentsWrongFalsely : Prop := clockMomentsRow.holds Try.pinned (OpenSpec.ofChange clockMomentsWrong)

/-- 'lanyardlaw03.ClockOrder': WHATEVER THE INPUT: true; the input reads as it did. -/
def clockOrderSpec : ChangeSpec := { name := "clockOrder", fn := fun _ => fun
  | [d1, d2] => { results := [.lit (.bool true)], args := [d1, d2] }
  | _ => none }
def clockOrderRow : OpenClaim := { program := "ytndikkpmlofebaa", sum := "497fe20237b6b48d3e11c92edbb944c6bb557803eae49e889fd3c809561471a7", func := "lanyard/lanyardlaw03.ClockOrder", spec := "clockOrder", apart := false }
def ClockOrderSaid : Prop := clockOrderRow.holds Try.pinned (OpenSpec.ofChange clockOrderSpec)

/-- ITS FALSE NEIGHBOUR: 'it returns false'. Refute it at one input. -/
def clockOrderWrong : ChangeSpec := { name := "clockOrder", fn := fun _ => fun
  | [d1, d2] => { results := [.lit (.bool false)], args := [d1, d2] }
  | _ => none }
def ClockOrderWrongFalsely : Prop := clockOrderRow.holds Try.pinned (OpenSpec.ofChange clockOrderWrong)

/-- 'lanyardlaw03.ClockNext': WHATEVER THE INPUT: true; the input reads as it did. -/
def clockNextSpec : ChangeSpec := { name := "clockNext", fn := fun _ => fun
  | [d] => { results := [.lit (.bool true)], args := [d] }
  | _ => none }
def clockNextRow : OpenClaim := { program := "ytndikkpmlofebaa", sum := "497fe20237b6b48d3e11c92edbb944c6bb557803eae49e889fd3c809561471a7", func := "lanyard/lanyardlaw03.ClockNext", spec := "clockNext", apart := false }
def ClockNextSaid : Prop := clockNextRow.holds Try.pinned (OpenSpec.ofChange clockNextSpec)

/-- ITS FALSE NEIGHBOUR: 'it returns false'. Refute it at one input. -/
def clockNextWrong : ChangeSpec := { name := "clockNext", fn := fun _ => fun
  | [d] => { results := [.lit (.bool false)], args := [d] }
  | _ => none }
def ClockNextWrongFalsely : Prop := clockNextRow.holds Try.pinned (OpenSpec.ofChange clockNextWrong)

/-- 'lanyardlaw03.ClockTexts': WHATEVER THE INPUT: true; the input reads as it did. -/
def clockTextsSpec : ChangeSpec := { name := "clockTexts", fn := fun _ => fun
  | [d1, d2, d3] => { results := [.lit (.bool true)], args := [d1, d2, d3] }
  | _ => none }
def clockTextsRow : OpenClaim := { program := "ytndikkpmlofebaa", sum := "497fe20237b6b48d3e11c92edbb944c6bb557803eae49e889fd3c809561471a7", func := "lanyard/lanyardlaw03.ClockTexts", spec := "clockTexts", apart := false }
def ClockTextsSaid : Prop := clockTextsRow.holds Try.pinned (OpenSpec.ofChange clockTextsSpec)

/-- ITS FALSE NEIGHBOUR: 'it returns false'. Refute it at one input. -/
def clockTextsWrong : ChangeSpec := { name := "clockTexts", fn := fun _ => fun
  | [d1, d2, d3] => { results := [.lit (.bool false)], args := [d1, d2, d3] }
  | _ => none }
def ClockTextsWrongFalsely : Prop := clockTextsRow.holds Try.pinned (OpenSpec.ofChange clockTextsWrong)

/-- 'lanyardlaw03.ClockBack': WHATEVER THE INPUT: true; the input reads as it did. -/
def clockBackSpec : ChangeSpec := { name := "clockBack", fn := fun _ => fun
  | [d1, d2, d3] => { results := [.lit (.bool true)], args := [d1, d2, d3] }
  | _ => none }
def clockBackRow : OpenClaim := { program := "ytndikkpmlofebaa", sum := "497fe20237b6b48d3e11c92edbb944c6bb557803eae49e889fd3c809561471a7", func := "lanyard/lanyardlaw03.ClockBack", spec := "clockBack", apart := false }
def ClockBackSaid : Prop := clockBackRow.holds Try.pinned (OpenSpec.ofChange clockBackSpec)

/-- ITS FALSE NEIGHBOUR: 'it returns false'. Refute it at one input. -/
def clockBackWrong : ChangeSpec := { name := "clockBack", fn := fun _ => fun
  | [d1, d2, d3] => { results := [.lit (.bool false)], args := [d1, d2, d3] }
  | _ => none }
def ClockBackWrongFalsely : Prop := clockBackRow.holds Try.pinned (OpenSpec.ofChange clockBackWrong)

/- THE SECOND FORM. 'bulk': how many values and letters a reading holds, each counted each time it is reached (what is shared counts as often as it is met; a slice's spare places count too). A statement '..UptoSaid' is the law's where the arguments, and the package variables that the reading takes, are together of bulk at most 1048576: NARROWER than '..Said'. Prove '..Said' where nothing that the law and all that it calls make is longer than what came in: it says more and counts as full. Else prove '..UptoSaid'. A law counts once. -/
mutual
def uptoBulk {H : Type} : DataW H → Nat
  | .lit (.string bytes) => bytes.length + 1
  | .lit _ => 1
  | .nil => 1
  | .ptr d => uptoBulk d + 1
  | .slice elems spare => uptoBulkAll elems + uptoBulkAll spare + 1
  | .agg parts => uptoBulkAll parts + 1
  | .iface _ d => uptoBulk d + 1
  | .map entries => uptoBulkEntries entries + 1
  | .held _ => 1
def uptoBulkAll {H : Type} : List (DataW H) → Nat
  | [] => 0
  | d :: r => uptoBulk d + uptoBulkAll r
def uptoBulkEntries {H : Type} : List (Lit × DataW H) → Nat
  | [] => 0
  | x :: r => uptoBulkEntry x + uptoBulkEntries r
def uptoBulkEntry {H : Type} : Lit × DataW H → Nat
  | (.string bytes, d) => bytes.length + uptoBulk d + 1
  | (_, d) => uptoBulk d + 1
 end
def uptoSmall : (H : Type) → List (DataW H) → Bool := fun _ ds => decide (uptoBulkAll ds ≤ 1048576)
def OpenSpec.upto (s : _root_.Go.ChangeSpec) : _root_.Go.OpenSpec := { _root_.Go.OpenSpec.ofChange s with cond := some uptoSmall }

/-- 'lanyardlaw01.OctetNumbers', WHERE WHAT IT READS IS OF BULK AT MOST 1048576: true; the input reads as it did. -/
def octetNumbersUptoRow : OpenClaim := { program := "ytndikkpmlofebaa", sum := "497fe20237b6b48d3e11c92edbb944c6bb557803eae49e889fd3c809561471a7", func := "lanyard/lanyardlaw01.OctetNumbers", spec := "octetNumbers", unfollowed := true, recurses := true, apart := false, narrowed := true }
def OctetNumbersUptoSaid : Prop := octetNumbersUptoRow.holds Try.pinned (OpenSpec.upto octetNumbersSpec)

/-- 'lanyardlaw01.OctetDigits', WHERE WHAT IT READS IS OF BULK AT MOST 1048576: true; the input reads as it did. -/
def octetDigitsUptoRow : OpenClaim := { program := "ytndikkpmlofebaa", sum := "497fe20237b6b48d3e11c92edbb944c6bb557803eae49e889fd3c809561471a7", func := "lanyard/lanyardlaw01.OctetDigits", spec := "octetDigits", unfollowed := true, recurses := true, apart := false, narrowed := true }
def OctetDigitsUptoSaid : Prop := octetDigitsUptoRow.holds Try.pinned (OpenSpec.upto octetDigitsSpec)

/-- 'lanyardlaw01.OctetBack', WHERE WHAT IT READS IS OF BULK AT MOST 1048576: true; the input reads as it did. -/
def octetBackUptoRow : OpenClaim := { program := "ytndikkpmlofebaa", sum := "497fe20237b6b48d3e11c92edbb944c6bb557803eae49e889fd3c809561471a7", func := "lanyard/lanyardlaw01.OctetBack", spec := "octetBack", unfollowed := true, recurses := true, apart := false, narrowed := true }
def OctetBackUptoSaid : Prop := octetBackUptoRow.holds Try.pinned (OpenSpec.upto octetBackSpec)

/-- 'lanyardlaw01.OctetOrders', WHERE WHAT IT READS IS OF BULK AT MOST 1048576: true; the input reads as it did. -/
def octetOrdersUptoRow : OpenClaim := { program := "ytndikkpmlofebaa", sum := "497fe20237b6b48d3e11c92edbb944c6bb557803eae49e889fd3c809561471a7", func := "lanyard/lanyardlaw01.OctetOrders", spec := "octetOrders", unfollowed := true, recurses := true, apart := false, narrowed := true }
def OctetOrdersUptoSaid : Prop := octetOrdersUptoRow.holds Try.pinned (OpenSpec.upto octetOrdersSpec)

/-- 'lanyardlaw01.OctetSame', WHERE WHAT IT READS IS OF BULK AT MOST 1048576: true; the input reads as it did. -/
def octetSameUptoRow : OpenClaim := { program := "ytndikkpmlofebaa", sum := "497fe20237b6b48d3e11c92edbb944c6bb557803eae49e889fd3c809561471a7", func := "lanyard/lanyardlaw01.OctetSame", spec := "octetSame", unfollowed := true, recurses := true, apart := false, narrowed := true }
def OctetSameUptoSaid : Prop := octetSameUptoRow.holds Try.pinned (OpenSpec.upto octetSameSpec)

/-- 'lanyardlaw03.ClockMoments', WHERE WHAT IT READS IS OF BULK AT MOST 1048576: true; the input reads as it did. -/
def clockMomentsUptoRow : OpenClaim := { program := "ytndikkpmlofebaa", sum := "497fe20237b6b48d3e11c92edbb944c6bb557803eae49e889fd3c809561471a7", func := "lanyard/lanyardlaw03.ClockMoments", spec := "clockMoments", apart := false, narrowed := true }
def ClockMomentsUptoSaid : Prop := clockMomentsUptoRow.holds Try.pinned (OpenSpec.upto clockMomentsSpec)

/-- 'lanyardlaw03.ClockOrder', WHERE WHAT IT READS IS OF BULK AT MOST 1048576: true; the input reads as it did. -/
def clockOrderUptoRow : OpenClaim := { program := "ytndikkpmlofebaa", sum := "497fe20237b6b48d3e11c92edbb944c6bb557803eae49e889fd3c809561471a7", func := "lanyard/lanyardlaw03.ClockOrder", spec := "clockOrder", apart := false, narrowed := true }
def ClockOrderUptoSaid : Prop := clockOrderUptoRow.holds Try.pinned (OpenSpec.upto clockOrderSpec)

/-- 'lanyardlaw03.ClockNext', WHERE WHAT IT READS IS OF BULK AT MOST 1048576: true; the input reads as it did. -/
def clockNextUptoRow : OpenClaim := { program := "ytndikkpmlofebaa", sum := "497fe20237b6b48d3e11c92edbb944c6bb557803eae49e889fd3c809561471a7", func := "lanyard/lanyardlaw03.ClockNext", spec := "clockNext", apart := false, narrowed := true }
def ClockNextUptoSaid : Prop := clockNextUptoRow.holds Try.pinned (OpenSpec.upto clockNextSpec)

/-- 'lanyardlaw03.ClockTexts', WHERE WHAT IT READS IS OF BULK AT MOST 1048576: true; the input reads as it did. -/
def clockTextsUptoRow : OpenClaim := { program := "ytndikkpmlofebaa", sum := "497fe20237b6b48d3e11c92edbb944c6bb557803eae49e889fd3c809561471a7", func := "lanyard/lanyardlaw03.ClockTexts", spec := "clockTexts", apart := false, narrowed := true }
def ClockTextsUptoSaid : Prop := clockTextsUptoRow.holds Try.pinned (OpenSpec.upto clockTextsSpec)

/-- 'lanyardlaw03.ClockBack', WHERE WHAT IT READS IS OF BULK AT MOST 1048576: true; the input reads as it did. -/
def clockBackUptoRow : OpenClaim := { program := "ytndikkpmlofebaa", sum := "497fe20237b6b48d3e11c92edbb944c6bb557803eae49e889fd3c809561471a7", func := "lanyard/lanyardlaw03.ClockBack", spec := "clockBack", apart := false, narrowed := true }
def ClockBackUptoSaid : Prop := clockBackUptoRow.holds Try.pinned (OpenSpec.upto clockBackSpec)

end Rows
end Go.Proofs.Ytndikkpmlofebaa
