/- The frame of the law IndexPlays in pieces: a closed fact of the whole program. No further condition. -/
import Derived.Test.YtgbpfgdjnhbcgaaGreatDoorCards
import Derived.JoinedOf
import Derived.KernelRfl
import Derived.ProofKit
namespace Go.Proofs.YtgbpfgdjnhbcgaaGreatDoor.indexPlays
open Go
theorem j3 : (Rows.indexPlaysRow.recurses == Tryz.prog.recurses 3) = true := by kernel_rfl
theorem j4 : (Rows.indexPlaysRow.named == Tryz.prog.varsNamed 3) = true := by kernel_rfl
end Go.Proofs.YtgbpfgdjnhbcgaaGreatDoor.indexPlays
