/- The frame of the law TableLoads in pieces: a closed fact of the whole program. No further condition. -/
import Derived.Test.YtkdjkngfnapjcaaGreatDoorCards
import Derived.JoinedOf
import Derived.KernelRfl
import Derived.ProofKit
namespace Go.Proofs.YtkdjkngfnapjcaaGreatDoor.tableLoads
open Go
theorem j1 : (Rows.tableLoadsRow.inPlace == Tryz.prog.inPlace 9) = true := by kernel_rfl
theorem j2 : (Rows.tableLoadsRow.unfollowed == Tryz.prog.unfollowed 9) = true := by kernel_rfl
end Go.Proofs.YtkdjkngfnapjcaaGreatDoor.tableLoads
