/-
  DERIVED. GIVEN WITH THE SEED: THE CARDS: each row of YtpebabaigakagaaGreatDoorRows.lean that lists a variable, with what it lists TIED to the program's text (the seventh form; the later family's looks); each row that meets fmt, with fmt's text TOLD by the authors' own Lean function (tested against real Go, not proved from fmt's source: count such statements apart). THE CARD IS WHAT COUNTS. Prove the row's statement (the work); the ties are given (YtpebabaigakagaaGreatDoorTie.lean); close each card by the builder's one call (the guide's Derived/Test/ToyasCard.lean, 'card_holds'). Laid BY PROGRAM, IN A SANDBOX (cutbox-door.mjs). By AI agents, Wed Nov 11 2026. No macro, syntax, notation, axiom, sorry.
-/
import Derived.Test.YtpebabaigakagaaGreatDoorRows
import GoSem.ClaimSeven
namespace Go.Proofs.YtpebabaigakagaaGreatDoor
namespace Rows

/-- THE TIED CARD OF 'moothilllaw18.TableExpires'. -/
def tableExpiresCard : Claim7 := { stood := { row := tableExpiresRow, standIns := [], harness := (true, "0e812f669be769a0c1f1032057e3fb4e3638905dd38df57eb8c723512a020786"), looks := false }, kinds := [], alts := [], laidByText := true, laidKinds := [.data, .pinned], laidTests := true, laidLooks := .later }
def TableExpiresCardSaid : Prop := Claim7.holds Tryz.pinned (.plain (OpenSpec.ofChange tableExpiresSpec)) tableExpiresCard

/-- THE TIED CARD OF 'moothilllaw18.TableClosed'. -/
def tableClosedCard : Claim7 := { stood := { row := tableClosedRow, standIns := [], harness := (true, "0e812f669be769a0c1f1032057e3fb4e3638905dd38df57eb8c723512a020786"), looks := false }, kinds := [], alts := [], laidByText := true, laidKinds := [.data, .pinned], laidTests := true, laidLooks := .later }
def TableClosedCardSaid : Prop := Claim7.holds Tryz.pinned (.plain (OpenSpec.ofChange tableClosedSpec)) tableClosedCard

/-- THE TIED CARD OF 'moothilllaw18.TableAgain'. -/
def tableAgainCard : Claim7 := { stood := { row := tableAgainRow, standIns := [], harness := (true, "0e812f669be769a0c1f1032057e3fb4e3638905dd38df57eb8c723512a020786"), looks := false }, kinds := [], alts := [], laidByText := true, laidKinds := [.data, .pinned], laidTests := true, laidLooks := .later }
def TableAgainCardSaid : Prop := Claim7.holds Tryz.pinned (.plain (OpenSpec.ofChange tableAgainSpec)) tableAgainCard

/-- THE TIED CARD OF 'moothilllaw18.TableCommutes'. -/
def tableCommutesCard : Claim7 := { stood := { row := tableCommutesRow, standIns := [], harness := (true, "0e812f669be769a0c1f1032057e3fb4e3638905dd38df57eb8c723512a020786"), looks := false }, kinds := [], alts := [], laidByText := true, laidKinds := [.data, .pinned], laidTests := true, laidLooks := .later }
def TableCommutesCardSaid : Prop := Claim7.holds Tryz.pinned (.plain (OpenSpec.ofChange tableCommutesSpec)) tableCommutesCard

/-- THE TIED CARD OF 'moothilllaw18.TableSorts'. -/
def tableSortsCard : Claim7 := { stood := { row := tableSortsRow, standIns := [], harness := (true, "0e812f669be769a0c1f1032057e3fb4e3638905dd38df57eb8c723512a020786"), looks := false }, kinds := [], alts := [], laidByText := true, laidKinds := [.data, .pinned], laidTests := true, laidLooks := .later }
def TableSortsCardSaid : Prop := Claim7.holds Tryz.pinned (.plain (OpenSpec.ofChange tableSortsSpec)) tableSortsCard

/-- THE SECOND FORM's CARD OF 'moothilllaw18.TableExpires'. -/
def tableExpiresUptoCard : Claim7 := { stood := { row := tableExpiresUptoRow, standIns := [], harness := (true, "0e812f669be769a0c1f1032057e3fb4e3638905dd38df57eb8c723512a020786"), looks := false }, kinds := [], alts := [], laidByText := true, laidKinds := [.data, .pinned], laidTests := true, laidLooks := .later }
def TableExpiresUptoCardSaid : Prop := Claim7.holds Tryz.pinned (.plain (OpenSpec.upto tableExpiresSpec)) tableExpiresUptoCard

/-- THE SECOND FORM's CARD OF 'moothilllaw18.TableClosed'. -/
def tableClosedUptoCard : Claim7 := { stood := { row := tableClosedUptoRow, standIns := [], harness := (true, "0e812f669be769a0c1f1032057e3fb4e3638905dd38df57eb8c723512a020786"), looks := false }, kinds := [], alts := [], laidByText := true, laidKinds := [.data, .pinned], laidTests := true, laidLooks := .later }
def TableClosedUptoCardSaid : Prop := Claim7.holds Tryz.pinned (.plain (OpenSpec.upto tableClosedSpec)) tableClosedUptoCard

/-- THE SECOND FORM's CARD OF 'moothilllaw18.TableAgain'. -/
def tableAgainUptoCard : Claim7 := { stood := { row := tableAgainUptoRow, standIns := [], harness := (true, "0e812f669be769a0c1f1032057e3fb4e3638905dd38df57eb8c723512a020786"), looks := false }, kinds := [], alts := [], laidByText := true, laidKinds := [.data, .pinned], laidTests := true, laidLooks := .later }
def TableAgainUptoCardSaid : Prop := Claim7.holds Tryz.pinned (.plain (OpenSpec.upto tableAgainSpec)) tableAgainUptoCard

/-- THE SECOND FORM's CARD OF 'moothilllaw18.TableCommutes'. -/
def tableCommutesUptoCard : Claim7 := { stood := { row := tableCommutesUptoRow, standIns := [], harness := (true, "0e812f669be769a0c1f1032057e3fb4e3638905dd38df57eb8c723512a020786"), looks := false }, kinds := [], alts := [], laidByText := true, laidKinds := [.data, .pinned], laidTests := true, laidLooks := .later }
def TableCommutesUptoCardSaid : Prop := Claim7.holds Tryz.pinned (.plain (OpenSpec.upto tableCommutesSpec)) tableCommutesUptoCard

/-- THE SECOND FORM's CARD OF 'moothilllaw18.TableSorts'. -/
def tableSortsUptoCard : Claim7 := { stood := { row := tableSortsUptoRow, standIns := [], harness := (true, "0e812f669be769a0c1f1032057e3fb4e3638905dd38df57eb8c723512a020786"), looks := false }, kinds := [], alts := [], laidByText := true, laidKinds := [.data, .pinned], laidTests := true, laidLooks := .later }
def TableSortsUptoCardSaid : Prop := Claim7.holds Tryz.pinned (.plain (OpenSpec.upto tableSortsSpec)) tableSortsUptoCard
end Rows
end Go.Proofs.YtpebabaigakagaaGreatDoor
