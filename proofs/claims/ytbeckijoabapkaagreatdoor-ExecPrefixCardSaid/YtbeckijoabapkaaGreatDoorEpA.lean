import Derived.Test.YtbeckijoabapkaaGreatDoorCards
import Derived.ProofKit
namespace Go.Proofs.YtbeckijoabapkaaGreatDoor.execPrefix
open Go
theorem j1 : (Rows.execPrefixRow.inPlace == Tryz.prog.inPlace 3) = true := by kernel_rfl
theorem j2 : (Rows.execPrefixRow.unfollowed == Tryz.prog.unfollowed 3) = true := by kernel_rfl
end Go.Proofs.YtbeckijoabapkaaGreatDoor.execPrefix
