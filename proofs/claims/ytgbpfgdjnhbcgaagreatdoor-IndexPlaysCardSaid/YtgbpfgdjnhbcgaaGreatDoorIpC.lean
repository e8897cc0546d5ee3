/- The frame of the law IndexPlays in pieces: a closed fact of the whole program. No further condition. -/
import Derived.Test.YtgbpfgdjnhbcgaaGreatDoorCards
import Derived.JoinedOf
import Derived.KernelRfl
import Derived.ProofKit
import Derived.Test.YtgbpfgdjnhbcgaaGreatDoorIpA
import Derived.Test.YtgbpfgdjnhbcgaaGreatDoorIpB
namespace Go.Proofs.YtgbpfgdjnhbcgaaGreatDoor.indexPlays
open Go
theorem closed : joinedFacts Tryz.prog 3 Tryz.f3 Rows.indexPlaysSpec Rows.indexPlaysRow = true := by
  unfold joinedFacts
  repeat' (with_reducible refine (Bool.and_eq_true_iff).2 ⟨?_, ?_⟩)
  all_goals first | with_reducible exact j1 | with_reducible exact j2 | with_reducible exact j3 | with_reducible exact j4 | kernel_rfl
end Go.Proofs.YtgbpfgdjnhbcgaaGreatDoor.indexPlays
