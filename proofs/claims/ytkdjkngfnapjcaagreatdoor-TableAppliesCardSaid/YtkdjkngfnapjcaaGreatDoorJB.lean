import Derived.Test.YtkdjkngfnapjcaaGreatDoorCards
import Derived.JoinedOf
import Derived.KernelRfl
import Derived.ProofKit
namespace Go.Proofs.YtkdjkngfnapjcaaGreatDoor.tableApplies
open Go
theorem j3 : (Rows.tableAppliesRow.recurses == Tryz.prog.recurses 6) = true := by kernel_rfl
theorem j4 : (Rows.tableAppliesRow.named == Tryz.prog.varsNamed 6) = true := by kernel_rfl
end Go.Proofs.YtkdjkngfnapjcaaGreatDoor.tableApplies
