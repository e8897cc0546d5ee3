/- The frame of the law IndexSame in pieces: a closed fact of the whole program. No further condition. -/
import Derived.Test.YtgbpfgdjnhbcgaaGreatDoorCards
import Derived.JoinedOf
import Derived.KernelRfl
import Derived.ProofKit
namespace Go.Proofs.YtgbpfgdjnhbcgaaGreatDoor.indexSame
open Go
theorem j1 : (Rows.indexSameRow.inPlace == Tryz.prog.inPlace 4) = true := by kernel_rfl
theorem j2 : (Rows.indexSameRow.unfollowed == Tryz.prog.unfollowed 4) = true := by kernel_rfl
end Go.Proofs.YtgbpfgdjnhbcgaaGreatDoor.indexSame
