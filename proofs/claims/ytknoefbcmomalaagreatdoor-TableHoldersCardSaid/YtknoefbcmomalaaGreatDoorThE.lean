import Derived.Test.YtknoefbcmomalaaGreatDoorCards
import Derived.ProofKit
import Derived.SevenTiedAt
namespace Go.Proofs.YtknoefbcmomalaaGreatDoor.tableHolders
open Go
theorem k1 : false = Rows.tableHoldersRow.goesBy Tryz.prog := by kernel_rfl
theorem k2 : false = Tryz.prog.looks [] := by kernel_rfl
end Go.Proofs.YtknoefbcmomalaaGreatDoor.tableHolders
