/-
  DERIVED. GIVEN WITH THE SEED: THE CARDS: each row of YtkdjkngfnapjcaaGreatDoorRows.lean that lists a variable, with what it lists TIED to the program's text (the seventh form; the later family's looks); each row that meets fmt, with fmt's text TOLD by the authors' own Lean function (tested against real Go, not proved from fmt's source: count such statements apart). THE CARD IS WHAT COUNTS. Prove the row's statement (the work); the ties are given (YtkdjkngfnapjcaaGreatDoorTie.lean); close each card by the builder's one call (the guide's Derived/Test/ToyasCard.lean, 'card_holds'). Laid BY PROGRAM, IN A SANDBOX (cutbox-door.mjs). By AI agents, Wed Nov 11 2026. No macro, syntax, notation, axiom, sorry.
-/
import Derived.Test.YtkdjkngfnapjcaaGreatDoorRows
import GoSem.ClaimSeven
namespace Go.Proofs.YtkdjkngfnapjcaaGreatDoor
namespace Rows

/-- THE TIED CARD OF 'moothilllaw12.IndexPlays'. -/
def indexPlaysCard : Claim7 := { stood := { row := indexPlaysRow, standIns := [], harness := (true, "1fabc5f21f2225cb5d10e1e89a18a24e79f8b60f6553ab30e98517019986340e"), looks := false }, kinds := [], alts := [], laidByText := true, laidKinds := [.data, .pinned], laidTests := true, laidLooks := .later }
def IndexPlaysCardSaid : Prop := Claim7.holds Tryz.pinned (.plain (OpenSpec.ofChange indexPlaysSpec)) indexPlaysCard

/-- THE TIED CARD OF 'moothilllaw12.IndexSame'. -/
def indexSameCard : Claim7 := { stood := { row := indexSameRow, standIns := [], harness := (true, "1fabc5f21f2225cb5d10e1e89a18a24e79f8b60f6553ab30e98517019986340e"), looks := false }, kinds := [], alts := [], laidByText := true, laidKinds := [.data, .pinned], laidTests := true, laidLooks := .later }
def IndexSameCardSaid : Prop := Claim7.holds Tryz.pinned (.plain (OpenSpec.ofChange indexSameSpec)) indexSameCard

/-- THE TIED CARD OF 'moothilllaw18.TableHolders'. -/
def tableHoldersCard : Claim7 := { stood := { row := tableHoldersRow, standIns := [], harness := (true, "1fabc5f21f2225cb5d10e1e89a18a24e79f8b60f6553ab30e98517019986340e"), looks := false }, kinds := [], alts := [], laidByText := true, laidKinds := [.data, .pinned], laidTests := true, laidLooks := .later }
def TableHoldersCardSaid : Prop := Claim7.holds Tryz.pinned (.plain (OpenSpec.ofChange tableHoldersSpec)) tableHoldersCard

/-- THE TIED CARD OF 'moothilllaw18.TableApplies'. -/
def tableAppliesCard : Claim7 := { stood := { row := tableAppliesRow, standIns := [], harness := (true, "1fabc5f21f2225cb5d10e1e89a18a24e79f8b60f6553ab30e98517019986340e"), looks := false }, kinds := [], alts := [], laidByText := true, laidKinds := [.data, .pinned], laidTests := true, laidLooks := .later }
def TableAppliesCardSaid : Prop := Claim7.holds Tryz.pinned (.plain (OpenSpec.ofChange tableAppliesSpec)) tableAppliesCard

/-- THE TIED CARD OF 'moothilllaw18.TableChanges'. -/
def tableChangesCard : Claim7 := { stood := { row := tableChangesRow, standIns := [], harness := (true, "1fabc5f21f2225cb5d10e1e89a18a24e79f8b60f6553ab30e98517019986340e"), looks := false }, kinds := [], alts := [], laidByText := true, laidKinds := [.data, .pinned], laidTests := true, laidLooks := .later }
def TableChangesCardSaid : Prop := Claim7.holds Tryz.pinned (.plain (OpenSpec.ofChange tableChangesSpec)) tableChangesCard

/-- THE TIED CARD OF 'moothilllaw18.TableParses'. -/
def tableParsesCard : Claim7 := { stood := { row := tableParsesRow, standIns := [], harness := (true, "1fabc5f21f2225cb5d10e1e89a18a24e79f8b60f6553ab30e98517019986340e"), looks := false }, kinds := [], alts := [], laidByText := true, laidKinds := [.data, .pinned], laidTests := true, laidLooks := .later }
def TableParsesCardSaid : Prop := Claim7.holds Tryz.pinned (.plain (OpenSpec.ofChange tableParsesSpec)) tableParsesCard

/-- THE TIED CARD OF 'moothilllaw18.TableLoads'. -/
def tableLoadsCard : Claim7 := { stood := { row := tableLoadsRow, standIns := [], harness := (true, "1fabc5f21f2225cb5d10e1e89a18a24e79f8b60f6553ab30e98517019986340e"), looks := false }, kinds := [], alts := [], laidByText := true, laidKinds := [.data, .pinned], laidTests := true, laidLooks := .later }
def TableLoadsCardSaid : Prop := Claim7.holds Tryz.pinned (.plain (OpenSpec.ofChange tableLoadsSpec)) tableLoadsCard

/-- THE SECOND FORM's CARD OF 'moothilllaw12.IndexPlays'. -/
def indexPlaysUptoCard : Claim7 := { stood := { row := indexPlaysUptoRow, standIns := [], harness := (true, "1fabc5f21f2225cb5d10e1e89a18a24e79f8b60f6553ab30e98517019986340e"), looks := false }, kinds := [], alts := [], laidByText := true, laidKinds := [.data, .pinned], laidTests := true, laidLooks := .later }
def IndexPlaysUptoCardSaid : Prop := Claim7.holds Tryz.pinned (.plain (OpenSpec.upto indexPlaysSpec)) indexPlaysUptoCard

/-- THE SECOND FORM's CARD OF 'moothilllaw12.IndexSame'. -/
def indexSameUptoCard : Claim7 := { stood := { row := indexSameUptoRow, standIns := [], harness := (true, "1fabc5f21f2225cb5d10e1e89a18a24e79f8b60f6553ab30e98517019986340e"), looks := false }, kinds := [], alts := [], laidByText := true, laidKinds := [.data, .pinned], laidTests := true, laidLooks := .later }
def IndexSameUptoCardSaid : Prop := Claim7.holds Tryz.pinned (.plain (OpenSpec.upto indexSameSpec)) indexSameUptoCard

/-- THE SECOND FORM's CARD OF 'moothilllaw18.TableHolders'. -/
def tableHoldersUptoCard : Claim7 := { stood := { row := tableHoldersUptoRow, standIns := [], harness := (true, "1fabc5f21f2225cb5d10e1e89a18a24e79f8b60f6553ab30e98517019986340e"), looks := false }, kinds := [], alts := [], laidByText := true, laidKinds := [.data, .pinned], laidTests := true, laidLooks := .later }
def TableHoldersUptoCardSaid : Prop := Claim7.holds Tryz.pinned (.plain (OpenSpec.upto tableHoldersSpec)) tableHoldersUptoCard

/-- THE SECOND FORM's CARD OF 'moothilllaw18.TableApplies'. -/
def tableAppliesUptoCard : Claim7 := { stood := { row := tableAppliesUptoRow, standIns := [], harness := (true, "1fabc5f21f2225cb5d10e1e89a18a24e79f8b60f6553ab30e98517019986340e"), looks := false }, kinds := [], alts := [], laidByText := true, laidKinds := [.data, .pinned], laidTests := true, laidLooks := .later }
def TableAppliesUptoCardSaid : Prop := Claim7.holds Tryz.pinned (.plain (OpenSpec.upto tableAppliesSpec)) tableAppliesUptoCard

/-- THE SECOND FORM's CARD OF 'moothilllaw18.TableChanges'. -/
def tableChangesUptoCard : Claim7 := { stood := { row := tableChangesUptoRow, standIns := [], harness := (true, "1fabc5f21f2225cb5d10e1e89a18a24e79f8b60f6553ab30e98517019986340e"), looks := false }, kinds := [], alts := [], laidByText := true, laidKinds := [.data, .pinned], laidTests := true, laidLooks := .later }
def TableChangesUptoCardSaid : Prop := Claim7.holds Tryz.pinned (.plain (OpenSpec.upto tableChangesSpec)) tableChangesUptoCard

/-- THE SECOND FORM's CARD OF 'moothilllaw18.TableParses'. -/
def tableParsesUptoCard : Claim7 := { stood := { row := tableParsesUptoRow, standIns := [], harness := (true, "1fabc5f21f2225cb5d10e1e89a18a24e79f8b60f6553ab30e98517019986340e"), looks := false }, kinds := [], alts := [], laidByText := true, laidKinds := [.data, .pinned], laidTests := true, laidLooks := .later }
def TableParsesUptoCardSaid : Prop := Claim7.holds Tryz.pinned (.plain (OpenSpec.upto tableParsesSpec)) tableParsesUptoCard

/-- THE SECOND FORM's CARD OF 'moothilllaw18.TableLoads'. -/
def tableLoadsUptoCard : Claim7 := { stood := { row := tableLoadsUptoRow, standIns := [], harness := (true, "1fabc5f21f2225cb5d10e1e89a18a24e79f8b60f6553ab30e98517019986340e"), looks := false }, kinds := [], alts := [], laidByText := true, laidKinds := [.data, .pinned], laidTests := true, laidLooks := .later }
def TableLoadsUptoCardSaid : Prop := Claim7.holds Tryz.pinned (.plain (OpenSpec.upto tableLoadsSpec)) tableLoadsUptoCard
end Rows
end Go.Proofs.YtkdjkngfnapjcaaGreatDoor
