import Derived.Test.YtknoefbcmomalabGreatDoorCards
import Derived.ProofKit
import Derived.SevenTiedAt
namespace Go.Proofs.YtknoefbcmomalabGreatDoor.tableChanges
open Go
theorem k1 : false = Rows.tableChangesRow.goesBy Tryz.prog := by kernel_rfl
theorem k2 : false = Tryz.prog.looks [] := by kernel_rfl
end Go.Proofs.YtknoefbcmomalabGreatDoor.tableChanges
