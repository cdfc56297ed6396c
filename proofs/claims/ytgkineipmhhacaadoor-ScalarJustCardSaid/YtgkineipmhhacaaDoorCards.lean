/-
  DERIVED. GIVEN WITH THE SEED: THE CARDS: each row of YtgkineipmhhacaaDoorRows.lean that lists a variable, with what it lists TIED to the program's text (the seventh form; the later family's looks); each row that meets fmt, with fmt's text TOLD by the authors' own Lean function (tested against real Go, not proved from fmt's source: count such statements apart). THE CARD IS WHAT COUNTS. Prove the row's statement (the work); the ties are given (YtgkineipmhhacaaDoorTie.lean); close each card by the builder's one call (the guide's Derived/Test/ToyasCard.lean, 'card_holds'). Laid BY PROGRAM, IN A SANDBOX (cutbox-door.mjs). By AI agents, Wed Nov 11 2026. No macro, syntax, notation, axiom, sorry.
-/
import Derived.Test.YtgkineipmhhacaaDoorRows
import GoSem.ClaimSeven
namespace Go.Proofs.YtgkineipmhhacaaDoor
namespace Rows

/-- THE TIED CARD OF 'lanyardlaw05.ScalarNumbers'. -/
def scalarNumbersCard : Claim7 := { stood := { row := scalarNumbersRow, standIns := [], harness := (true, "3c8ba2dc8d65628c04b281e036aa8dfc6be4c232603d36a145307655ac133d6d"), looks := false }, kinds := [], alts := [], laidByText := true, laidKinds := [.data, .pinned], laidTests := true, laidLooks := .later }
def ScalarNumbersCardSaid : Prop := Claim7.holds Tryd.pinned (.plain (OpenSpec.ofChange scalarNumbersSpec)) scalarNumbersCard

/-- THE TIED CARD OF 'lanyardlaw05.ScalarBits'. -/
def scalarBitsCard : Claim7 := { stood := { row := scalarBitsRow, standIns := [], harness := (true, "3c8ba2dc8d65628c04b281e036aa8dfc6be4c232603d36a145307655ac133d6d"), looks := false }, kinds := [], alts := [], laidByText := true, laidKinds := [.data, .pinned], laidTests := true, laidLooks := .later }
def ScalarBitsCardSaid : Prop := Claim7.holds Tryd.pinned (.plain (OpenSpec.ofChange scalarBitsSpec)) scalarBitsCard

/-- THE TIED CARD OF 'lanyardlaw05.ScalarNames'. -/
def scalarNamesCard : Claim7 := { stood := { row := scalarNamesRow, standIns := [], harness := (true, "3c8ba2dc8d65628c04b281e036aa8dfc6be4c232603d36a145307655ac133d6d"), looks := false }, kinds := [], alts := [], laidByText := true, laidKinds := [.data, .pinned], laidTests := true, laidLooks := .later }
def ScalarNamesCardSaid : Prop := Claim7.holds Tryd.pinned (.plain (OpenSpec.ofChange scalarNamesSpec)) scalarNamesCard

/-- THE TIED CARD OF 'lanyardlaw05.ScalarBack'. -/
def scalarBackCard : Claim7 := { stood := { row := scalarBackRow, standIns := [], harness := (true, "3c8ba2dc8d65628c04b281e036aa8dfc6be4c232603d36a145307655ac133d6d"), looks := false }, kinds := [], alts := [], laidByText := true, laidKinds := [.data, .pinned], laidTests := true, laidLooks := .later }
def ScalarBackCardSaid : Prop := Claim7.holds Tryd.pinned (.plain (OpenSpec.ofChange scalarBackSpec)) scalarBackCard

/-- THE TIED CARD OF 'lanyardlaw05.ScalarTexts'. -/
def scalarTextsCard : Claim7 := { stood := { row := scalarTextsRow, standIns := [], harness := (true, "3c8ba2dc8d65628c04b281e036aa8dfc6be4c232603d36a145307655ac133d6d"), looks := false }, kinds := [], alts := [], laidByText := true, laidKinds := [.data, .pinned], laidTests := true, laidLooks := .later }
def ScalarTextsCardSaid : Prop := Claim7.holds Tryd.pinned (.plain (OpenSpec.ofChange scalarTextsSpec)) scalarTextsCard

/-- THE TIED CARD OF 'lanyardlaw05.ScalarJust'. -/
def scalarJustCard : Claim7 := { stood := { row := scalarJustRow, standIns := [], harness := (true, "3c8ba2dc8d65628c04b281e036aa8dfc6be4c232603d36a145307655ac133d6d"), looks := false }, kinds := [], alts := [], laidByText := true, laidKinds := [.data, .pinned], laidTests := true, laidLooks := .later }
def ScalarJustCardSaid : Prop := Claim7.holds Tryd.pinned (.plain (OpenSpec.ofChange scalarJustSpec)) scalarJustCard

/-- THE SECOND FORM's CARD OF 'lanyardlaw05.ScalarNumbers'. -/
def scalarNumbersUptoCard : Claim7 := { stood := { row := scalarNumbersUptoRow, standIns := [], harness := (true, "3c8ba2dc8d65628c04b281e036aa8dfc6be4c232603d36a145307655ac133d6d"), looks := false }, kinds := [], alts := [], laidByText := true, laidKinds := [.data, .pinned], laidTests := true, laidLooks := .later }
def ScalarNumbersUptoCardSaid : Prop := Claim7.holds Tryd.pinned (.plain (OpenSpec.upto scalarNumbersSpec)) scalarNumbersUptoCard

/-- THE SECOND FORM's CARD OF 'lanyardlaw05.ScalarBits'. -/
def scalarBitsUptoCard : Claim7 := { stood := { row := scalarBitsUptoRow, standIns := [], harness := (true, "3c8ba2dc8d65628c04b281e036aa8dfc6be4c232603d36a145307655ac133d6d"), looks := false }, kinds := [], alts := [], laidByText := true, laidKinds := [.data, .pinned], laidTests := true, laidLooks := .later }
def ScalarBitsUptoCardSaid : Prop := Claim7.holds Tryd.pinned (.plain (OpenSpec.upto scalarBitsSpec)) scalarBitsUptoCard

/-- THE SECOND FORM's CARD OF 'lanyardlaw05.ScalarNames'. -/
def scalarNamesUptoCard : Claim7 := { stood := { row := scalarNamesUptoRow, standIns := [], harness := (true, "3c8ba2dc8d65628c04b281e036aa8dfc6be4c232603d36a145307655ac133d6d"), looks := false }, kinds := [], alts := [], laidByText := true, laidKinds := [.data, .pinned], laidTests := true, laidLooks := .later }
def ScalarNamesUptoCardSaid : Prop := Claim7.holds Tryd.pinned (.plain (OpenSpec.upto scalarNamesSpec)) scalarNamesUptoCard

/-- THE SECOND FORM's CARD OF 'lanyardlaw05.ScalarBack'. -/
def scalarBackUptoCard : Claim7 := { stood := { row := scalarBackUptoRow, standIns := [], harness := (true, "3c8ba2dc8d65628c04b281e036aa8dfc6be4c232603d36a145307655ac133d6d"), looks := false }, kinds := [], alts := [], laidByText := true, laidKinds := [.data, .pinned], laidTests := true, laidLooks := .later }
def ScalarBackUptoCardSaid : Prop := Claim7.holds Tryd.pinned (.plain (OpenSpec.upto scalarBackSpec)) scalarBackUptoCard

/-- THE SECOND FORM's CARD OF 'lanyardlaw05.ScalarTexts'. -/
def scalarTextsUptoCard : Claim7 := { stood := { row := scalarTextsUptoRow, standIns := [], harness := (true, "3c8ba2dc8d65628c04b281e036aa8dfc6be4c232603d36a145307655ac133d6d"), looks := false }, kinds := [], alts := [], laidByText := true, laidKinds := [.data, .pinned], laidTests := true, laidLooks := .later }
def ScalarTextsUptoCardSaid : Prop := Claim7.holds Tryd.pinned (.plain (OpenSpec.upto scalarTextsSpec)) scalarTextsUptoCard

/-- THE SECOND FORM's CARD OF 'lanyardlaw05.ScalarJust'. -/
def scalarJustUptoCard : Claim7 := { stood := { row := scalarJustUptoRow, standIns := [], harness := (true, "3c8ba2dc8d65628c04b281e036aa8dfc6be4c232603d36a145307655ac133d6d"), looks := false }, kinds := [], alts := [], laidByText := true, laidKinds := [.data, .pinned], laidTests := true, laidLooks := .later }
def ScalarJustUptoCardSaid : Prop := Claim7.holds Tryd.pinned (.plain (OpenSpec.upto scalarJustSpec)) scalarJustUptoCard
end Rows
end Go.Proofs.YtgkineipmhhacaaDoor
