/- The frame of the law IndexSame in pieces: a closed fact of the whole program. No further condition. -/
import Derived.Test.YtgbpfgdjnhbcgaaGreatDoorCards
import Derived.JoinedOf
import Derived.KernelRfl
import Derived.ProofKit
import Derived.Test.YtgbpfgdjnhbcgaaGreatDoorIsA
import Derived.Test.YtgbpfgdjnhbcgaaGreatDoorIsB
namespace Go.Proofs.YtgbpfgdjnhbcgaaGreatDoor.indexSame
open Go
theorem closed : joinedFacts Tryz.prog 4 Tryz.f4 Rows.indexSameSpec Rows.indexSameRow = true := by
  unfold joinedFacts
  repeat' (with_reducible refine (Bool.and_eq_true_iff).2 ⟨?_, ?_⟩)
  all_goals first | with_reducible exact j1 | with_reducible exact j2 | with_reducible exact j3 | with_reducible exact j4 | kernel_rfl
end Go.Proofs.YtgbpfgdjnhbcgaaGreatDoor.indexSame
