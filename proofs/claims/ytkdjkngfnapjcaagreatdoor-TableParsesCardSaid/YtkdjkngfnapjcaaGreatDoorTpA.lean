/- The frame of the law TableParses in pieces: a closed fact of the whole program. No further condition. -/
import Derived.Test.YtkdjkngfnapjcaaGreatDoorCards
import Derived.JoinedOf
import Derived.KernelRfl
import Derived.ProofKit
namespace Go.Proofs.YtkdjkngfnapjcaaGreatDoor.tableParses
open Go
theorem j1 : (Rows.tableParsesRow.inPlace == Tryz.prog.inPlace 8) = true := by kernel_rfl
theorem j2 : (Rows.tableParsesRow.unfollowed == Tryz.prog.unfollowed 8) = true := by kernel_rfl
end Go.Proofs.YtkdjkngfnapjcaaGreatDoor.tableParses
