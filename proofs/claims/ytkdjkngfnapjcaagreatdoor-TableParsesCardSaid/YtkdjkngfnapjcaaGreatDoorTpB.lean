/- The frame of the law TableParses in pieces: a closed fact of the whole program. No further condition. -/
import Derived.Test.YtkdjkngfnapjcaaGreatDoorCards
import Derived.JoinedOf
import Derived.KernelRfl
import Derived.ProofKit
namespace Go.Proofs.YtkdjkngfnapjcaaGreatDoor.tableParses
open Go
theorem j3 : (Rows.tableParsesRow.recurses == Tryz.prog.recurses 8) = true := by kernel_rfl
theorem j4 : (Rows.tableParsesRow.named == Tryz.prog.varsNamed 8) = true := by kernel_rfl
end Go.Proofs.YtkdjkngfnapjcaaGreatDoor.tableParses
