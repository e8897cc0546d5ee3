/-
  DERIVED. GIVEN WITH THE SEED: THE CARDS: each row of YtknoefbcmomalabGreatDoorRows.lean that lists a variable, with what it lists TIED to the program's text (the seventh form; the later family's looks); each row that meets fmt, with fmt's text TOLD by the authors' own Lean function (tested against real Go, not proved from fmt's source: count such statements apart). THE CARD IS WHAT COUNTS. Prove the row's statement (the work); the ties are given (YtknoefbcmomalabGreatDoorTie.lean); close each card by the builder's one call (the guide's Derived/Test/ToyasCard.lean, 'card_holds'). Laid BY PROGRAM, IN A SANDBOX (cutbox-door.mjs). By AI agents, Wed Nov 11 2026. No macro, syntax, notation, axiom, sorry.
-/
import Derived.Test.YtknoefbcmomalabGreatDoorRows
import GoSem.ClaimSeven
namespace Go.Proofs.YtknoefbcmomalabGreatDoor
namespace Rows

/-- THE TIED CARD OF 'moothilllaw18.TableChanges'. -/
def tableChangesCard : Claim7 := { stood := { row := tableChangesRow, standIns := [], harness := (true, "05f3f025503cbfbe7c9edd67e6cf803c0eb9b37ef65253cd24a8b5b49095689d"), looks := false }, kinds := [], alts := [], laidByText := true, laidKinds := [.data, .pinned], laidTests := true, laidLooks := .later }
def TableChangesCardSaid : Prop := Claim7.holds Tryz.pinned (.plain (OpenSpec.ofChange tableChangesSpec)) tableChangesCard

/-- THE SECOND FORM's CARD OF 'moothilllaw18.TableChanges'. -/
def tableChangesUptoCard : Claim7 := { stood := { row := tableChangesUptoRow, standIns := [], harness := (true, "05f3f025503cbfbe7c9edd67e6cf803c0eb9b37ef65253cd24a8b5b49095689d"), looks := false }, kinds := [], alts := [], laidByText := true, laidKinds := [.data, .pinned], laidTests := true, laidLooks := .later }
def TableChangesUptoCardSaid : Prop := Claim7.holds Tryz.pinned (.plain (OpenSpec.upto tableChangesSpec)) tableChangesUptoCard
end Rows
end Go.Proofs.YtknoefbcmomalabGreatDoor
