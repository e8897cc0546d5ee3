/- The frame of the law TableLoads in pieces: a closed fact of the whole program. No further condition. -/
import Derived.Test.YtkdjkngfnapjcaaGreatDoorCards
import Derived.JoinedOf
import Derived.KernelRfl
import Derived.ProofKit
namespace Go.Proofs.YtkdjkngfnapjcaaGreatDoor.tableLoads
open Go
theorem j3 : (Rows.tableLoadsRow.recurses == Tryz.prog.recurses 9) = true := by kernel_rfl
theorem j4 : (Rows.tableLoadsRow.named == Tryz.prog.varsNamed 9) = true := by kernel_rfl
end Go.Proofs.YtkdjkngfnapjcaaGreatDoor.tableLoads
