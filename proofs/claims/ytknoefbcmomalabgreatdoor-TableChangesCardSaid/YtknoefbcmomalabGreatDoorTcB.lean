import Derived.Test.YtknoefbcmomalabGreatDoorCards
import Derived.ProofKit
namespace Go.Proofs.YtknoefbcmomalabGreatDoor.tableChanges
open Go
theorem j3 : (Rows.tableChangesRow.recurses == Tryz.prog.recurses 3) = true := by kernel_rfl
theorem j4 : (Rows.tableChangesRow.named == Tryz.prog.varsNamed 3) = true := by kernel_rfl
end Go.Proofs.YtknoefbcmomalabGreatDoor.tableChanges
