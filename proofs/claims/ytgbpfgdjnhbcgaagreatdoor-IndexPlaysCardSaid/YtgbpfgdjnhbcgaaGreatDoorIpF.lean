/- The frame of the law IndexPlays in pieces: a closed fact of the whole program. No further condition. -/
import Derived.Test.YtgbpfgdjnhbcgaaGreatDoorCards
import Derived.JoinedOf
import Derived.KernelRfl
import Derived.ProofKit
import Derived.SevenTiedAt
namespace Go.Proofs.YtgbpfgdjnhbcgaaGreatDoor.indexPlays
open Go
theorem k2 : false = Tryz.prog.looks [] := by kernel_rfl
end Go.Proofs.YtgbpfgdjnhbcgaaGreatDoor.indexPlays
