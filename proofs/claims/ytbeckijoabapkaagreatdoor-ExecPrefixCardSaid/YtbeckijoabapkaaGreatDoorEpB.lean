import Derived.Test.YtbeckijoabapkaaGreatDoorCards
import Derived.ProofKit
namespace Go.Proofs.YtbeckijoabapkaaGreatDoor.execPrefix
open Go
theorem j3 : (Rows.execPrefixRow.recurses == Tryz.prog.recurses 3) = true := by kernel_rfl
theorem j4 : (Rows.execPrefixRow.named == Tryz.prog.varsNamed 3) = true := by kernel_rfl
end Go.Proofs.YtbeckijoabapkaaGreatDoor.execPrefix
