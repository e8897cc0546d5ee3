/-
  DERIVED. GIVEN WITH THE SEED: THE CARDS: each row of YtnkddjomanaadaaDoorRows.lean that lists a variable, with what it lists TIED to the program's text (the seventh form; the later family's looks); each row that meets fmt, with fmt's text TOLD by the authors' own Lean function (tested against real Go, not proved from fmt's source: count such statements apart). THE CARD IS WHAT COUNTS. Prove the row's statement (the work); the ties are given (YtnkddjomanaadaaDoorTie.lean); close each card by the builder's one call (the guide's Derived/Test/ToyasCard.lean, 'card_holds'). Laid BY PROGRAM, IN A SANDBOX (cutbox-door.mjs). By AI agents, Wed Nov 11 2026. No macro, syntax, notation, axiom, sorry.
-/
import Derived.Test.YtnkddjomanaadaaDoorRows
import GoSem.ClaimSeven
namespace Go.Proofs.YtnkddjomanaadaaDoor
namespace Rows

/-- THE TIED CARD OF 'moothilllaw17.LockEnds'. -/
def lockEndsCard : Claim7 := { stood := { row := lockEndsRow, standIns := [], harness := (true, "5eb4df45beba4c397fa8ca5ff26cbf8050b9c0ef8732f925c3e63d90143951c5"), looks := false }, kinds := [], alts := [], laidByText := true, laidKinds := [.data, .pinned], laidTests := true, laidLooks := .later }
def LockEndsCardSaid : Prop := Claim7.holds Tryd.pinned (.plain (OpenSpec.ofChange lockEndsSpec)) lockEndsCard

/-- THE SECOND FORM's CARD OF 'moothilllaw17.LockEnds'. -/
def lockEndsUptoCard : Claim7 := { stood := { row := lockEndsUptoRow, standIns := [], harness := (true, "5eb4df45beba4c397fa8ca5ff26cbf8050b9c0ef8732f925c3e63d90143951c5"), looks := false }, kinds := [], alts := [], laidByText := true, laidKinds := [.data, .pinned], laidTests := true, laidLooks := .later }
def LockEndsUptoCardSaid : Prop := Claim7.holds Tryd.pinned (.plain (OpenSpec.upto lockEndsSpec)) lockEndsUptoCard
end Rows
end Go.Proofs.YtnkddjomanaadaaDoor
