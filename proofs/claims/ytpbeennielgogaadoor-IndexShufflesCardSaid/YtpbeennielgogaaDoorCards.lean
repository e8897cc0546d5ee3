/-
  DERIVED. GIVEN WITH THE SEED: THE CARDS: each row of YtpbeennielgogaaDoorRows.lean that lists a variable, with what it lists TIED to the program's text (the seventh form; the later family's looks); each row that meets fmt, with fmt's text TOLD by the authors' own Lean function (tested against real Go, not proved from fmt's source: count such statements apart). THE CARD IS WHAT COUNTS. Prove the row's statement (the work); the ties are given (YtpbeennielgogaaDoorTie.lean); close each card by the builder's one call (the guide's Derived/Test/ToyasCard.lean, 'card_holds'). Laid BY PROGRAM, IN A SANDBOX (cutbox-door.mjs). By AI agents, Wed Nov 11 2026. No macro, syntax, notation, axiom, sorry.
-/
import Derived.Test.YtpbeennielgogaaDoorRows
import GoSem.ClaimSeven
namespace Go.Proofs.YtpbeennielgogaaDoor
namespace Rows

/-- THE TIED CARD OF 'moothilllaw12.IndexShuffles'. -/
def indexShufflesCard : Claim7 := { stood := { row := indexShufflesRow, standIns := [], harness := (true, "c3d913cce7ba0ea8f4ba5b56413737fc21c16d4d1668263967055f1ff62554c5"), looks := false }, kinds := [], alts := [], laidByText := true, laidKinds := [.data, .pinned], laidTests := true, laidLooks := .later }
def IndexShufflesCardSaid : Prop := Claim7.holds Tryd.pinned (.plain (OpenSpec.ofChange indexShufflesSpec)) indexShufflesCard

/-- THE TIED CARD OF 'moothilllaw12.IndexCovers'. -/
def indexCoversCard : Claim7 := { stood := { row := indexCoversRow, standIns := [], harness := (true, "c3d913cce7ba0ea8f4ba5b56413737fc21c16d4d1668263967055f1ff62554c5"), looks := false }, kinds := [], alts := [], laidByText := true, laidKinds := [.data, .pinned], laidTests := true, laidLooks := .later }
def IndexCoversCardSaid : Prop := Claim7.holds Tryd.pinned (.plain (OpenSpec.ofChange indexCoversSpec)) indexCoversCard

/-- THE SECOND FORM's CARD OF 'moothilllaw12.IndexShuffles'. -/
def indexShufflesUptoCard : Claim7 := { stood := { row := indexShufflesUptoRow, standIns := [], harness := (true, "c3d913cce7ba0ea8f4ba5b56413737fc21c16d4d1668263967055f1ff62554c5"), looks := false }, kinds := [], alts := [], laidByText := true, laidKinds := [.data, .pinned], laidTests := true, laidLooks := .later }
def IndexShufflesUptoCardSaid : Prop := Claim7.holds Tryd.pinned (.plain (OpenSpec.upto indexShufflesSpec)) indexShufflesUptoCard

/-- THE SECOND FORM's CARD OF 'moothilllaw12.IndexCovers'. -/
def indexCoversUptoCard : Claim7 := { stood := { row := indexCoversUptoRow, standIns := [], harness := (true, "c3d913cce7ba0ea8f4ba5b56413737fc21c16d4d1668263967055f1ff62554c5"), looks := false }, kinds := [], alts := [], laidByText := true, laidKinds := [.data, .pinned], laidTests := true, laidLooks := .later }
def IndexCoversUptoCardSaid : Prop := Claim7.holds Tryd.pinned (.plain (OpenSpec.upto indexCoversSpec)) indexCoversUptoCard
end Rows
end Go.Proofs.YtpbeennielgogaaDoor
