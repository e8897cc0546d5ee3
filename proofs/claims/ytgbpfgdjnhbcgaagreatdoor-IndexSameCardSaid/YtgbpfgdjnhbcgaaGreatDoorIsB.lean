/- The frame of the law IndexSame in pieces: a closed fact of the whole program. No further condition. -/
import Derived.Test.YtgbpfgdjnhbcgaaGreatDoorCards
import Derived.JoinedOf
import Derived.KernelRfl
import Derived.ProofKit
namespace Go.Proofs.YtgbpfgdjnhbcgaaGreatDoor.indexSame
open Go
theorem j3 : (Rows.indexSameRow.recurses == Tryz.prog.recurses 4) = true := by kernel_rfl
theorem j4 : (Rows.indexSameRow.named == Tryz.prog.varsNamed 4) = true := by kernel_rfl
end Go.Proofs.YtgbpfgdjnhbcgaaGreatDoor.indexSame
