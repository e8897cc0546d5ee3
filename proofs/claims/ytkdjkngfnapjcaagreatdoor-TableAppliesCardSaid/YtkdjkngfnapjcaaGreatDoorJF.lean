import Derived.Test.YtkdjkngfnapjcaaGreatDoorCards
import Derived.JoinedOf
import Derived.KernelRfl
import Derived.ProofKit
import Derived.SevenTiedAt
namespace Go.Proofs.YtkdjkngfnapjcaaGreatDoor.tableApplies
open Go
theorem k2 : false = Tryz.prog.looks [] := by kernel_rfl
end Go.Proofs.YtkdjkngfnapjcaaGreatDoor.tableApplies
