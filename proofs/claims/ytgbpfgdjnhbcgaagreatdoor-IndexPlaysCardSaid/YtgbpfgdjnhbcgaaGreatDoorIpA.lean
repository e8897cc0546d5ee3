/- The frame of the law IndexPlays in pieces: a closed fact of the whole program. No further condition. -/
import Derived.Test.YtgbpfgdjnhbcgaaGreatDoorCards
import Derived.JoinedOf
import Derived.KernelRfl
import Derived.ProofKit
namespace Go.Proofs.YtgbpfgdjnhbcgaaGreatDoor.indexPlays
open Go
theorem j1 : (Rows.indexPlaysRow.inPlace == Tryz.prog.inPlace 3) = true := by kernel_rfl
theorem j2 : (Rows.indexPlaysRow.unfollowed == Tryz.prog.unfollowed 3) = true := by kernel_rfl
end Go.Proofs.YtgbpfgdjnhbcgaaGreatDoor.indexPlays
