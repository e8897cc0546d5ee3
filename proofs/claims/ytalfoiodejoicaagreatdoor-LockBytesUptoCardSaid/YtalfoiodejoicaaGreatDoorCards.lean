/-
  DERIVED. GIVEN WITH THE SEED: THE CARDS: each row of YtalfoiodejoicaaGreatDoorRows.lean that lists a variable, with what it lists TIED to the program's text (the seventh form; the later family's looks); each row that meets fmt, with fmt's text TOLD by the authors' own Lean function (tested against real Go, not proved from fmt's source: count such statements apart). THE CARD IS WHAT COUNTS. Prove the row's statement (the work); the ties are given (YtalfoiodejoicaaGreatDoorTie.lean); close each card by the builder's one call (the guide's Derived/Test/ToyasCard.lean, 'card_holds'). Laid BY PROGRAM, IN A SANDBOX (cutbox-door.mjs). By AI agents, Wed Nov 11 2026. No macro, syntax, notation, axiom, sorry.
-/
import Derived.Test.YtalfoiodejoicaaGreatDoorRows
import GoSem.ClaimSeven
namespace Go.Proofs.YtalfoiodejoicaaGreatDoor
namespace Rows

/-- THE TIED CARD OF 'moothilllaw12.IndexPlays'. -/
def indexPlaysCard : Claim7 := { stood := { row := indexPlaysRow, standIns := [], harness := (true, "c699abc90eb291eda575c0453e751d1bb3a0b1f45d498cfe811cbefe754e05f3"), looks := false }, kinds := [], alts := [], laidByText := true, laidKinds := [.data, .pinned], laidTests := true, laidLooks := .later }
def IndexPlaysCardSaid : Prop := Claim7.holds Tryz.pinned (.plain (OpenSpec.ofChange indexPlaysSpec)) indexPlaysCard

/-- THE TIED CARD OF 'moothilllaw17.LockBytes'. -/
def lockBytesCard : Claim7 := { stood := { row := lockBytesRow, standIns := [], harness := (true, "c699abc90eb291eda575c0453e751d1bb3a0b1f45d498cfe811cbefe754e05f3"), looks := false }, kinds := [], alts := [], laidByText := true, laidKinds := [.data, .pinned], laidTests := true, laidLooks := .later }
def LockBytesCardSaid : Prop := Claim7.holds Tryz.pinned (.plain (OpenSpec.ofChange lockBytesSpec)) lockBytesCard

/-- THE TIED CARD OF 'moothilllaw12.IndexSame'. -/
def indexSameCard : Claim7 := { stood := { row := indexSameRow, standIns := [], harness := (true, "c699abc90eb291eda575c0453e751d1bb3a0b1f45d498cfe811cbefe754e05f3"), looks := false }, kinds := [], alts := [], laidByText := true, laidKinds := [.data, .pinned], laidTests := true, laidLooks := .later }
def IndexSameCardSaid : Prop := Claim7.holds Tryz.pinned (.plain (OpenSpec.ofChange indexSameSpec)) indexSameCard

/-- THE SECOND FORM's CARD OF 'moothilllaw12.IndexPlays'. -/
def indexPlaysUptoCard : Claim7 := { stood := { row := indexPlaysUptoRow, standIns := [], harness := (true, "c699abc90eb291eda575c0453e751d1bb3a0b1f45d498cfe811cbefe754e05f3"), looks := false }, kinds := [], alts := [], laidByText := true, laidKinds := [.data, .pinned], laidTests := true, laidLooks := .later }
def IndexPlaysUptoCardSaid : Prop := Claim7.holds Tryz.pinned (.plain (OpenSpec.upto indexPlaysSpec)) indexPlaysUptoCard

/-- THE SECOND FORM's CARD OF 'moothilllaw17.LockBytes'. -/
def lockBytesUptoCard : Claim7 := { stood := { row := lockBytesUptoRow, standIns := [], harness := (true, "c699abc90eb291eda575c0453e751d1bb3a0b1f45d498cfe811cbefe754e05f3"), looks := false }, kinds := [], alts := [], laidByText := true, laidKinds := [.data, .pinned], laidTests := true, laidLooks := .later }
def LockBytesUptoCardSaid : Prop := Claim7.holds Tryz.pinned (.plain (OpenSpec.upto lockBytesSpec)) lockBytesUptoCard

/-- THE SECOND FORM's CARD OF 'moothilllaw12.IndexSame'. -/
def indexSameUptoCard : Claim7 := { stood := { row := indexSameUptoRow, standIns := [], harness := (true, "c699abc90eb291eda575c0453e751d1bb3a0b1f45d498cfe811cbefe754e05f3"), looks := false }, kinds := [], alts := [], laidByText := true, laidKinds := [.data, .pinned], laidTests := true, laidLooks := .later }
def IndexSameUptoCardSaid : Prop := Claim7.holds Tryz.pinned (.plain (OpenSpec.upto indexSameSpec)) indexSameUptoCard
end Rows
end Go.Proofs.YtalfoiodejoicaaGreatDoor
