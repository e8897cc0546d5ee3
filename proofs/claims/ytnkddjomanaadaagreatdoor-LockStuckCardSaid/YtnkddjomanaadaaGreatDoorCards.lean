/-
  DERIVED. GIVEN WITH THE SEED: THE CARDS: each row of YtnkddjomanaadaaGreatDoorRows.lean that lists a variable, with what it lists TIED to the program's text (the seventh form; the later family's looks); each row that meets fmt, with fmt's text TOLD by the authors' own Lean function (tested against real Go, not proved from fmt's source: count such statements apart). THE CARD IS WHAT COUNTS. Prove the row's statement (the work); the ties are given (YtnkddjomanaadaaGreatDoorTie.lean); close each card by the builder's one call (the guide's Derived/Test/ToyasCard.lean, 'card_holds'). Laid BY PROGRAM, IN A SANDBOX (cutbox-door.mjs). By AI agents, Wed Nov 11 2026. No macro, syntax, notation, axiom, sorry.
-/
import Derived.Test.YtnkddjomanaadaaGreatDoorRows
import GoSem.ClaimSeven
namespace Go.Proofs.YtnkddjomanaadaaGreatDoor
namespace Rows

/-- THE TIED CARD OF 'moothilllaw17.LockAhead'. -/
def lockAheadCard : Claim7 := { stood := { row := lockAheadRow, standIns := [], harness := (true, "83b10fd0dbba5d7496cdf33a5d9577dd6b1ff6fe6dcdcb0cdaa6544967a661b3"), looks := false }, kinds := [], alts := [], laidByText := true, laidKinds := [.data, .pinned], laidTests := true, laidLooks := .later }
def LockAheadCardSaid : Prop := Claim7.holds Tryz.pinned (.plain (OpenSpec.ofChange lockAheadSpec)) lockAheadCard

/-- THE TIED CARD OF 'moothilllaw17.LockBytes'. -/
def lockBytesCard : Claim7 := { stood := { row := lockBytesRow, standIns := [], harness := (true, "83b10fd0dbba5d7496cdf33a5d9577dd6b1ff6fe6dcdcb0cdaa6544967a661b3"), looks := false }, kinds := [], alts := [], laidByText := true, laidKinds := [.data, .pinned], laidTests := true, laidLooks := .later }
def LockBytesCardSaid : Prop := Claim7.holds Tryz.pinned (.plain (OpenSpec.ofChange lockBytesSpec)) lockBytesCard

/-- THE TIED CARD OF 'moothilllaw17.LockStuck'. -/
def lockStuckCard : Claim7 := { stood := { row := lockStuckRow, standIns := [], harness := (true, "83b10fd0dbba5d7496cdf33a5d9577dd6b1ff6fe6dcdcb0cdaa6544967a661b3"), looks := false }, kinds := [], alts := [], laidByText := true, laidKinds := [.data, .pinned], laidTests := true, laidLooks := .later }
def LockStuckCardSaid : Prop := Claim7.holds Tryz.pinned (.plain (OpenSpec.ofChange lockStuckSpec)) lockStuckCard

/-- THE SECOND FORM's CARD OF 'moothilllaw17.LockAhead'. -/
def lockAheadUptoCard : Claim7 := { stood := { row := lockAheadUptoRow, standIns := [], harness := (true, "83b10fd0dbba5d7496cdf33a5d9577dd6b1ff6fe6dcdcb0cdaa6544967a661b3"), looks := false }, kinds := [], alts := [], laidByText := true, laidKinds := [.data, .pinned], laidTests := true, laidLooks := .later }
def LockAheadUptoCardSaid : Prop := Claim7.holds Tryz.pinned (.plain (OpenSpec.upto lockAheadSpec)) lockAheadUptoCard

/-- THE SECOND FORM's CARD OF 'moothilllaw17.LockBytes'. -/
def lockBytesUptoCard : Claim7 := { stood := { row := lockBytesUptoRow, standIns := [], harness := (true, "83b10fd0dbba5d7496cdf33a5d9577dd6b1ff6fe6dcdcb0cdaa6544967a661b3"), looks := false }, kinds := [], alts := [], laidByText := true, laidKinds := [.data, .pinned], laidTests := true, laidLooks := .later }
def LockBytesUptoCardSaid : Prop := Claim7.holds Tryz.pinned (.plain (OpenSpec.upto lockBytesSpec)) lockBytesUptoCard

/-- THE SECOND FORM's CARD OF 'moothilllaw17.LockStuck'. -/
def lockStuckUptoCard : Claim7 := { stood := { row := lockStuckUptoRow, standIns := [], harness := (true, "83b10fd0dbba5d7496cdf33a5d9577dd6b1ff6fe6dcdcb0cdaa6544967a661b3"), looks := false }, kinds := [], alts := [], laidByText := true, laidKinds := [.data, .pinned], laidTests := true, laidLooks := .later }
def LockStuckUptoCardSaid : Prop := Claim7.holds Tryz.pinned (.plain (OpenSpec.upto lockStuckSpec)) lockStuckUptoCard
end Rows
end Go.Proofs.YtnkddjomanaadaaGreatDoor
