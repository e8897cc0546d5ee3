/- The frame of the law TableLoads in pieces: a closed fact of the whole program. No further condition. -/
import Derived.Test.YtkdjkngfnapjcaaGreatDoorCards
import Derived.JoinedOf
import Derived.KernelRfl
import Derived.ProofKit
import Derived.SevenTiedAt
namespace Go.Proofs.YtkdjkngfnapjcaaGreatDoor.tableLoads
open Go
theorem k2 : false = Tryz.prog.looks [] := by kernel_rfl
end Go.Proofs.YtkdjkngfnapjcaaGreatDoor.tableLoads
