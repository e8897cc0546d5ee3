import Derived.Test.YtknoefbcmomalabGreatDoorCards
import Derived.ProofKit
namespace Go.Proofs.YtknoefbcmomalabGreatDoor.tableChanges
open Go
theorem j1 : (Rows.tableChangesRow.inPlace == Tryz.prog.inPlace 3) = true := by kernel_rfl
theorem j2 : (Rows.tableChangesRow.unfollowed == Tryz.prog.unfollowed 3) = true := by kernel_rfl
end Go.Proofs.YtknoefbcmomalabGreatDoor.tableChanges
