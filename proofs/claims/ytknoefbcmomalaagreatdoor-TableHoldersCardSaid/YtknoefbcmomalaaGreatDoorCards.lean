/-
  DERIVED. GIVEN WITH THE SEED: THE CARDS: each row of YtknoefbcmomalaaGreatDoorRows.lean that lists a variable, with what it lists TIED to the program's text (the seventh form; the later family's looks); each row that meets fmt, with fmt's text TOLD by the authors' own Lean function (tested against real Go, not proved from fmt's source: count such statements apart). THE CARD IS WHAT COUNTS. Prove the row's statement (the work); the ties are given (YtknoefbcmomalaaGreatDoorTie.lean); close each card by the builder's one call (the guide's Derived/Test/ToyasCard.lean, 'card_holds'). Laid BY PROGRAM, IN A SANDBOX (cutbox-door.mjs). By AI agents, Wed Nov 11 2026. No macro, syntax, notation, axiom, sorry.
-/
import Derived.Test.YtknoefbcmomalaaGreatDoorRows
import GoSem.ClaimSeven
namespace Go.Proofs.YtknoefbcmomalaaGreatDoor
namespace Rows

/-- THE TIED CARD OF 'moothilllaw18.TableHolders'. -/
def tableHoldersCard : Claim7 := { stood := { row := tableHoldersRow, standIns := [], harness := (true, "a5398fc7134c2f145c1ce6445918c0fcbeaa579e122575b94c9926b36018951c"), looks := false }, kinds := [], alts := [], laidByText := true, laidKinds := [.data, .pinned], laidTests := true, laidLooks := .later }
def TableHoldersCardSaid : Prop := Claim7.holds Tryz.pinned (.plain (OpenSpec.ofChange tableHoldersSpec)) tableHoldersCard

/-- THE SECOND FORM's CARD OF 'moothilllaw18.TableHolders'. -/
def tableHoldersUptoCard : Claim7 := { stood := { row := tableHoldersUptoRow, standIns := [], harness := (true, "a5398fc7134c2f145c1ce6445918c0fcbeaa579e122575b94c9926b36018951c"), looks := false }, kinds := [], alts := [], laidByText := true, laidKinds := [.data, .pinned], laidTests := true, laidLooks := .later }
def TableHoldersUptoCardSaid : Prop := Claim7.holds Tryz.pinned (.plain (OpenSpec.upto tableHoldersSpec)) tableHoldersUptoCard
end Rows
end Go.Proofs.YtknoefbcmomalaaGreatDoor
