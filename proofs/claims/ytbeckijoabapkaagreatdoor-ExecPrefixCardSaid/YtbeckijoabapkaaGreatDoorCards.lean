/-
  DERIVED. GIVEN WITH THE SEED: THE CARDS: each row of YtbeckijoabapkaaGreatDoorRows.lean that lists a variable, with what it lists TIED to the program's text (the seventh form; the later family's looks); each row that meets fmt, with fmt's text TOLD by the authors' own Lean function (tested against real Go, not proved from fmt's source: count such statements apart). THE CARD IS WHAT COUNTS. Prove the row's statement (the work); the ties are given (YtbeckijoabapkaaGreatDoorTie.lean); close each card by the builder's one call (the guide's Derived/Test/ToyasCard.lean, 'card_holds'). Laid BY PROGRAM, IN A SANDBOX (cutbox-door.mjs). By AI agents, Wed Nov 11 2026. No macro, syntax, notation, axiom, sorry.
-/
import Derived.Test.YtbeckijoabapkaaGreatDoorRows
import GoSem.ClaimSeven
namespace Go.Proofs.YtbeckijoabapkaaGreatDoor
namespace Rows

/-- THE TIED CARD OF 'moothilllaw26.ExecPrefix'. -/
def execPrefixCard : Claim7 := { stood := { row := execPrefixRow, standIns := [], harness := (true, "3bb5ec8173cb9b3176f3aaa53674c9d2b80456a17f02a7b4bf9e3c52abdf9f07"), looks := false }, kinds := [], alts := [], laidByText := true, laidKinds := [.data, .pinned], laidTests := true, laidLooks := .later }
def ExecPrefixCardSaid : Prop := Claim7.holds Tryz.pinned (.plain (OpenSpec.ofChange execPrefixSpec)) execPrefixCard

/-- THE SECOND FORM's CARD OF 'moothilllaw26.ExecPrefix'. -/
def execPrefixUptoCard : Claim7 := { stood := { row := execPrefixUptoRow, standIns := [], harness := (true, "3bb5ec8173cb9b3176f3aaa53674c9d2b80456a17f02a7b4bf9e3c52abdf9f07"), looks := false }, kinds := [], alts := [], laidByText := true, laidKinds := [.data, .pinned], laidTests := true, laidLooks := .later }
def ExecPrefixUptoCardSaid : Prop := Claim7.holds Tryz.pinned (.plain (OpenSpec.upto execPrefixSpec)) execPrefixUptoCard
end Rows
end Go.Proofs.YtbeckijoabapkaaGreatDoor
