import Derived.Test.YtbeckijoabapkaaGreatDoorCards
import Derived.ProofKit
import Derived.SevenTiedAt
namespace Go.Proofs.YtbeckijoabapkaaGreatDoor.execPrefix
open Go
theorem k1 : false = Rows.execPrefixRow.goesBy Tryz.prog := by kernel_rfl
theorem k2 : false = Tryz.prog.looks [] := by kernel_rfl
end Go.Proofs.YtbeckijoabapkaaGreatDoor.execPrefix
