/-
  DERIVED. GIVEN WITH THE SEED: THE CARDS: each row of YtjmihdhbbheflaaDoorRows.lean that lists a variable, with what it lists TIED to the program's text (the seventh form; the later family's looks); each row that meets fmt, with fmt's text TOLD by the authors' own Lean function (tested against real Go, not proved from fmt's source: count such statements apart). THE CARD IS WHAT COUNTS. Prove the row's statement (the work); the ties are given (YtjmihdhbbheflaaDoorTie.lean); close each card by the builder's one call (the guide's Derived/Test/ToyasCard.lean, 'card_holds'). Laid BY PROGRAM, IN A SANDBOX (cutbox-door.mjs). By AI agents, Wed Nov 11 2026. No macro, syntax, notation, axiom, sorry.
-/
import Derived.Test.YtjmihdhbbheflaaDoorRows
import GoSem.ClaimSeven
namespace Go.Proofs.YtjmihdhbbheflaaDoor
namespace Rows

/-- THE TIED CARD OF 'lanyardlaw18.RoaReads'. -/
def roaReadsCard : Claim7 := { stood := { row := roaReadsRow, standIns := [], harness := (true, "c0efee69e2870f72e51052558e2e13227c358685fc0e8d7d63c2bbb94b4c89d1"), looks := true }, kinds := [], alts := [], laidByText := true, laidKinds := [.data, .pinned], laidTests := true, laidLooks := .later }
def RoaReadsCardSaid : Prop := Claim7.holds Tryd.pinned (.plain (OpenSpec.ofChange roaReadsSpec)) roaReadsCard

/-- THE TIED CARD OF 'lanyardlaw18.RoaOrders'. -/
def roaOrdersCard : Claim7 := { stood := { row := roaOrdersRow, standIns := [], harness := (true, "c0efee69e2870f72e51052558e2e13227c358685fc0e8d7d63c2bbb94b4c89d1"), looks := true }, kinds := [], alts := [], laidByText := true, laidKinds := [.data, .pinned], laidTests := true, laidLooks := .later }
def RoaOrdersCardSaid : Prop := Claim7.holds Tryd.pinned (.plain (OpenSpec.ofChange roaOrdersSpec)) roaOrdersCard

/-- THE TIED CARD OF 'lanyardlaw18.RoaBack'. -/
def roaBackCard : Claim7 := { stood := { row := roaBackRow, standIns := [], harness := (true, "c0efee69e2870f72e51052558e2e13227c358685fc0e8d7d63c2bbb94b4c89d1"), looks := true }, kinds := [], alts := [], laidByText := true, laidKinds := [.data, .pinned], laidTests := true, laidLooks := .later }
def RoaBackCardSaid : Prop := Claim7.holds Tryd.pinned (.plain (OpenSpec.ofChange roaBackSpec)) roaBackCard

/-- THE TIED CARD OF 'lanyardlaw18.RoaRow'. -/
def roaRowCard : Claim7 := { stood := { row := roaRowRow, standIns := [], harness := (true, "c0efee69e2870f72e51052558e2e13227c358685fc0e8d7d63c2bbb94b4c89d1"), looks := true }, kinds := [], alts := [], laidByText := true, laidKinds := [.data, .pinned], laidTests := true, laidLooks := .later }
def RoaRowCardSaid : Prop := Claim7.holds Tryd.pinned (.plain (OpenSpec.ofChange roaRowSpec)) roaRowCard

/-- THE TIED CARD OF 'lanyardlaw18.RoaOne'. -/
def roaOneCard : Claim7 := { stood := { row := roaOneRow, standIns := [], harness := (true, "c0efee69e2870f72e51052558e2e13227c358685fc0e8d7d63c2bbb94b4c89d1"), looks := true }, kinds := [], alts := [], laidByText := true, laidKinds := [.data, .pinned], laidTests := true, laidLooks := .later }
def RoaOneCardSaid : Prop := Claim7.holds Tryd.pinned (.plain (OpenSpec.ofChange roaOneSpec)) roaOneCard

/-- THE SECOND FORM's CARD OF 'lanyardlaw18.RoaReads'. -/
def roaReadsUptoCard : Claim7 := { stood := { row := roaReadsUptoRow, standIns := [], harness := (true, "c0efee69e2870f72e51052558e2e13227c358685fc0e8d7d63c2bbb94b4c89d1"), looks := true }, kinds := [], alts := [], laidByText := true, laidKinds := [.data, .pinned], laidTests := true, laidLooks := .later }
def RoaReadsUptoCardSaid : Prop := Claim7.holds Tryd.pinned (.plain (OpenSpec.upto roaReadsSpec)) roaReadsUptoCard

/-- THE SECOND FORM's CARD OF 'lanyardlaw18.RoaOrders'. -/
def roaOrdersUptoCard : Claim7 := { stood := { row := roaOrdersUptoRow, standIns := [], harness := (true, "c0efee69e2870f72e51052558e2e13227c358685fc0e8d7d63c2bbb94b4c89d1"), looks := true }, kinds := [], alts := [], laidByText := true, laidKinds := [.data, .pinned], laidTests := true, laidLooks := .later }
def RoaOrdersUptoCardSaid : Prop := Claim7.holds Tryd.pinned (.plain (OpenSpec.upto roaOrdersSpec)) roaOrdersUptoCard

/-- THE SECOND FORM's CARD OF 'lanyardlaw18.RoaBack'. -/
def roaBackUptoCard : Claim7 := { stood := { row := roaBackUptoRow, standIns := [], harness := (true, "c0efee69e2870f72e51052558e2e13227c358685fc0e8d7d63c2bbb94b4c89d1"), looks := true }, kinds := [], alts := [], laidByText := true, laidKinds := [.data, .pinned], laidTests := true, laidLooks := .later }
def RoaBackUptoCardSaid : Prop := Claim7.holds Tryd.pinned (.plain (OpenSpec.upto roaBackSpec)) roaBackUptoCard

/-- THE SECOND FORM's CARD OF 'lanyardlaw18.RoaRow'. -/
def roaRowUptoCard : Claim7 := { stood := { row := roaRowUptoRow, standIns := [], harness := (true, "c0efee69e2870f72e51052558e2e13227c358685fc0e8d7d63c2bbb94b4c89d1"), looks := true }, kinds := [], alts := [], laidByText := true, laidKinds := [.data, .pinned], laidTests := true, laidLooks := .later }
def RoaRowUptoCardSaid : Prop := Claim7.holds Tryd.pinned (.plain (OpenSpec.upto roaRowSpec)) roaRowUptoCard

/-- THE SECOND FORM's CARD OF 'lanyardlaw18.RoaOne'. -/
def roaOneUptoCard : Claim7 := { stood := { row := roaOneUptoRow, standIns := [], harness := (true, "c0efee69e2870f72e51052558e2e13227c358685fc0e8d7d63c2bbb94b4c89d1"), looks := true }, kinds := [], alts := [], laidByText := true, laidKinds := [.data, .pinned], laidTests := true, laidLooks := .later }
def RoaOneUptoCardSaid : Prop := Claim7.holds Tryd.pinned (.plain (OpenSpec.upto roaOneSpec)) roaOneUptoCard
end Rows
end Go.Proofs.YtjmihdhbbheflaaDoor
