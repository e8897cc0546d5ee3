/- The frame of the law TableParses in pieces: a closed fact of the whole program. No further condition. -/
import Derived.Test.YtkdjkngfnapjcaaGreatDoorCards
import Derived.JoinedOf
import Derived.KernelRfl
import Derived.ProofKit
import Derived.SevenTiedAt
namespace Go.Proofs.YtkdjkngfnapjcaaGreatDoor.tableParses
open Go
theorem k1 : false = Rows.tableParsesRow.goesBy Tryz.prog := by kernel_rfl
end Go.Proofs.YtkdjkngfnapjcaaGreatDoor.tableParses
