/-
  DERIVED. GIVEN WITH THE SEED: THE CARDS: each row of YthihmiaagplclaaGreatDoorRows.lean that lists a variable, with what it lists TIED to the program's text (the seventh form; the later family's looks); each row that meets fmt, with fmt's text TOLD by the authors' own Lean function (tested against real Go, not proved from fmt's source: count such statements apart). THE CARD IS WHAT COUNTS. Prove the row's statement (the work); the ties are given (YthihmiaagplclaaGreatDoorTie.lean); close each card by the builder's one call (the guide's Derived/Test/ToyasCard.lean, 'card_holds'). Laid BY PROGRAM, IN A SANDBOX (cutbox-door.mjs). By AI agents, Wed Nov 11 2026. No macro, syntax, notation, axiom, sorry.
-/
import Derived.Test.YthihmiaagplclaaGreatDoorRows
import GoSem.ClaimSeven
namespace Go.Proofs.YthihmiaagplclaaGreatDoor
namespace Rows

/-- THE TIED CARD OF 'moothilllaw17.LockSafe'. -/
def lockSafeCard : Claim7 := { stood := { row := lockSafeRow, standIns := [], harness := (true, "f284962f51fab74cb2444f38b0f438e8925f21fafc172ea44fcce5a6e6ff7459"), looks := false }, kinds := [], alts := [], laidByText := true, laidKinds := [.data, .pinned], laidTests := true, laidLooks := .later }
def LockSafeCardSaid : Prop := Claim7.holds Tryz.pinned (.plain (OpenSpec.ofChange lockSafeSpec)) lockSafeCard

/-- THE TIED CARD OF 'moothilllaw17.LockPlays'. -/
def lockPlaysCard : Claim7 := { stood := { row := lockPlaysRow, standIns := [], harness := (true, "f284962f51fab74cb2444f38b0f438e8925f21fafc172ea44fcce5a6e6ff7459"), looks := false }, kinds := [], alts := [], laidByText := true, laidKinds := [.data, .pinned], laidTests := true, laidLooks := .later }
def LockPlaysCardSaid : Prop := Claim7.holds Tryz.pinned (.plain (OpenSpec.ofChange lockPlaysSpec)) lockPlaysCard

/-- THE TIED CARD OF 'moothilllaw17.LockAhead'. -/
def lockAheadCard : Claim7 := { stood := { row := lockAheadRow, standIns := [], harness := (true, "f284962f51fab74cb2444f38b0f438e8925f21fafc172ea44fcce5a6e6ff7459"), looks := false }, kinds := [], alts := [], laidByText := true, laidKinds := [.data, .pinned], laidTests := true, laidLooks := .later }
def LockAheadCardSaid : Prop := Claim7.holds Tryz.pinned (.plain (OpenSpec.ofChange lockAheadSpec)) lockAheadCard

/-- THE TIED CARD OF 'moothilllaw17.LockBytes'. -/
def lockBytesCard : Claim7 := { stood := { row := lockBytesRow, standIns := [], harness := (true, "f284962f51fab74cb2444f38b0f438e8925f21fafc172ea44fcce5a6e6ff7459"), looks := false }, kinds := [], alts := [], laidByText := true, laidKinds := [.data, .pinned], laidTests := true, laidLooks := .later }
def LockBytesCardSaid : Prop := Claim7.holds Tryz.pinned (.plain (OpenSpec.ofChange lockBytesSpec)) lockBytesCard

/-- THE TIED CARD OF 'moothilllaw17.LockStuck'. -/
def lockStuckCard : Claim7 := { stood := { row := lockStuckRow, standIns := [], harness := (true, "f284962f51fab74cb2444f38b0f438e8925f21fafc172ea44fcce5a6e6ff7459"), looks := false }, kinds := [], alts := [], laidByText := true, laidKinds := [.data, .pinned], laidTests := true, laidLooks := .later }
def LockStuckCardSaid : Prop := Claim7.holds Tryz.pinned (.plain (OpenSpec.ofChange lockStuckSpec)) lockStuckCard

/-- THE SECOND FORM's CARD OF 'moothilllaw17.LockSafe'. -/
def lockSafeUptoCard : Claim7 := { stood := { row := lockSafeUptoRow, standIns := [], harness := (true, "f284962f51fab74cb2444f38b0f438e8925f21fafc172ea44fcce5a6e6ff7459"), looks := false }, kinds := [], alts := [], laidByText := true, laidKinds := [.data, .pinned], laidTests := true, laidLooks := .later }
def LockSafeUptoCardSaid : Prop := Claim7.holds Tryz.pinned (.plain (OpenSpec.upto lockSafeSpec)) lockSafeUptoCard

/-- THE SECOND FORM's CARD OF 'moothilllaw17.LockPlays'. -/
def lockPlaysUptoCard : Claim7 := { stood := { row := lockPlaysUptoRow, standIns := [], harness := (true, "f284962f51fab74cb2444f38b0f438e8925f21fafc172ea44fcce5a6e6ff7459"), looks := false }, kinds := [], alts := [], laidByText := true, laidKinds := [.data, .pinned], laidTests := true, laidLooks := .later }
def LockPlaysUptoCardSaid : Prop := Claim7.holds Tryz.pinned (.plain (OpenSpec.upto lockPlaysSpec)) lockPlaysUptoCard

/-- THE SECOND FORM's CARD OF 'moothilllaw17.LockAhead'. -/
def lockAheadUptoCard : Claim7 := { stood := { row := lockAheadUptoRow, standIns := [], harness := (true, "f284962f51fab74cb2444f38b0f438e8925f21fafc172ea44fcce5a6e6ff7459"), looks := false }, kinds := [], alts := [], laidByText := true, laidKinds := [.data, .pinned], laidTests := true, laidLooks := .later }
def LockAheadUptoCardSaid : Prop := Claim7.holds Tryz.pinned (.plain (OpenSpec.upto lockAheadSpec)) lockAheadUptoCard

/-- THE SECOND FORM's CARD OF 'moothilllaw17.LockBytes'. -/
def lockBytesUptoCard : Claim7 := { stood := { row := lockBytesUptoRow, standIns := [], harness := (true, "f284962f51fab74cb2444f38b0f438e8925f21fafc172ea44fcce5a6e6ff7459"), looks := false }, kinds := [], alts := [], laidByText := true, laidKinds := [.data, .pinned], laidTests := true, laidLooks := .later }
def LockBytesUptoCardSaid : Prop := Claim7.holds Tryz.pinned (.plain (OpenSpec.upto lockBytesSpec)) lockBytesUptoCard

/-- THE SECOND FORM's CARD OF 'moothilllaw17.LockStuck'. -/
def lockStuckUptoCard : Claim7 := { stood := { row := lockStuckUptoRow, standIns := [], harness := (true, "f284962f51fab74cb2444f38b0f438e8925f21fafc172ea44fcce5a6e6ff7459"), looks := false }, kinds := [], alts := [], laidByText := true, laidKinds := [.data, .pinned], laidTests := true, laidLooks := .later }
def LockStuckUptoCardSaid : Prop := Claim7.holds Tryz.pinned (.plain (OpenSpec.upto lockStuckSpec)) lockStuckUptoCard
end Rows
end Go.Proofs.YthihmiaagplclaaGreatDoor
