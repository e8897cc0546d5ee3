/-
  DERIVED. GIVEN WITH THE SEED: THE CARDS: each row of YtgbpfgdjnhbcgaaGreatDoorRows.lean that lists a variable, with what it lists TIED to the program's text (the seventh form; the later family's looks); each row that meets fmt, with fmt's text TOLD by the authors' own Lean function (tested against real Go, not proved from fmt's source: count such statements apart). THE CARD IS WHAT COUNTS. Prove the row's statement (the work); the ties are given (YtgbpfgdjnhbcgaaGreatDoorTie.lean); close each card by the builder's one call (the guide's Derived/Test/ToyasCard.lean, 'card_holds'). Laid BY PROGRAM, IN A SANDBOX (cutbox-door.mjs). By AI agents, Wed Nov 11 2026. No macro, syntax, notation, axiom, sorry.
-/
import Derived.Test.YtgbpfgdjnhbcgaaGreatDoorRows
import GoSem.ClaimSeven
namespace Go.Proofs.YtgbpfgdjnhbcgaaGreatDoor
namespace Rows

/-- THE TIED CARD OF 'moothilllaw12.IndexPlays'. -/
def indexPlaysCard : Claim7 := { stood := { row := indexPlaysRow, standIns := [], harness := (true, "a9dc5b86b308c02e715ac52bf0827a29728413d0cd98ff41a41c4bc48591a62a"), looks := false }, kinds := [], alts := [], laidByText := true, laidKinds := [.data, .pinned], laidTests := true, laidLooks := .later }
def IndexPlaysCardSaid : Prop := Claim7.holds Tryz.pinned (.plain (OpenSpec.ofChange indexPlaysSpec)) indexPlaysCard

/-- THE TIED CARD OF 'moothilllaw12.IndexSame'. -/
def indexSameCard : Claim7 := { stood := { row := indexSameRow, standIns := [], harness := (true, "a9dc5b86b308c02e715ac52bf0827a29728413d0cd98ff41a41c4bc48591a62a"), looks := false }, kinds := [], alts := [], laidByText := true, laidKinds := [.data, .pinned], laidTests := true, laidLooks := .later }
def IndexSameCardSaid : Prop := Claim7.holds Tryz.pinned (.plain (OpenSpec.ofChange indexSameSpec)) indexSameCard

/-- THE SECOND FORM's CARD OF 'moothilllaw12.IndexPlays'. -/
def indexPlaysUptoCard : Claim7 := { stood := { row := indexPlaysUptoRow, standIns := [], harness := (true, "a9dc5b86b308c02e715ac52bf0827a29728413d0cd98ff41a41c4bc48591a62a"), looks := false }, kinds := [], alts := [], laidByText := true, laidKinds := [.data, .pinned], laidTests := true, laidLooks := .later }
def IndexPlaysUptoCardSaid : Prop := Claim7.holds Tryz.pinned (.plain (OpenSpec.upto indexPlaysSpec)) indexPlaysUptoCard

/-- THE SECOND FORM's CARD OF 'moothilllaw12.IndexSame'. -/
def indexSameUptoCard : Claim7 := { stood := { row := indexSameUptoRow, standIns := [], harness := (true, "a9dc5b86b308c02e715ac52bf0827a29728413d0cd98ff41a41c4bc48591a62a"), looks := false }, kinds := [], alts := [], laidByText := true, laidKinds := [.data, .pinned], laidTests := true, laidLooks := .later }
def IndexSameUptoCardSaid : Prop := Claim7.holds Tryz.pinned (.plain (OpenSpec.upto indexSameSpec)) indexSameUptoCard
end Rows
end Go.Proofs.YtgbpfgdjnhbcgaaGreatDoor
