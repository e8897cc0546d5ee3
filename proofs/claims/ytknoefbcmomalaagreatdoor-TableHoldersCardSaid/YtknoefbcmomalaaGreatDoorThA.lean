import Derived.Test.YtknoefbcmomalaaGreatDoorCards
import Derived.ProofKit
namespace Go.Proofs.YtknoefbcmomalaaGreatDoor.tableHolders
open Go
theorem j1 : (Rows.tableHoldersRow.inPlace == Tryz.prog.inPlace 3) = true := by kernel_rfl
theorem j2 : (Rows.tableHoldersRow.unfollowed == Tryz.prog.unfollowed 3) = true := by kernel_rfl
end Go.Proofs.YtknoefbcmomalaaGreatDoor.tableHolders
