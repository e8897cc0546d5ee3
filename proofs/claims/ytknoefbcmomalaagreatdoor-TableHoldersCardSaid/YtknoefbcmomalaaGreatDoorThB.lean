import Derived.Test.YtknoefbcmomalaaGreatDoorCards
import Derived.ProofKit
namespace Go.Proofs.YtknoefbcmomalaaGreatDoor.tableHolders
open Go
theorem j3 : (Rows.tableHoldersRow.recurses == Tryz.prog.recurses 3) = true := by kernel_rfl
theorem j4 : (Rows.tableHoldersRow.named == Tryz.prog.varsNamed 3) = true := by kernel_rfl
end Go.Proofs.YtknoefbcmomalaaGreatDoor.tableHolders
