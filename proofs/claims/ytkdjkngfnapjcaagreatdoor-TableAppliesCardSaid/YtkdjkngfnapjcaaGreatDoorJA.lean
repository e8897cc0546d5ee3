import Derived.Test.YtkdjkngfnapjcaaGreatDoorCards
import Derived.JoinedOf
import Derived.KernelRfl
import Derived.ProofKit
namespace Go.Proofs.YtkdjkngfnapjcaaGreatDoor.tableApplies
open Go
theorem j1 : (Rows.tableAppliesRow.inPlace == Tryz.prog.inPlace 6) = true := by kernel_rfl
theorem j2 : (Rows.tableAppliesRow.unfollowed == Tryz.prog.unfollowed 6) = true := by kernel_rfl
end Go.Proofs.YtkdjkngfnapjcaaGreatDoor.tableApplies
