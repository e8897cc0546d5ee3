/- The frame of the law TableLoads in pieces: a closed fact of the whole program. No further condition. -/
import Derived.Test.YtkdjkngfnapjcaaGreatDoorCards
import Derived.JoinedOf
import Derived.KernelRfl
import Derived.ProofKit
import Derived.Test.YtkdjkngfnapjcaaGreatDoorTlA
import Derived.Test.YtkdjkngfnapjcaaGreatDoorTlB
namespace Go.Proofs.YtkdjkngfnapjcaaGreatDoor.tableLoads
open Go
theorem closed : joinedFacts Tryz.prog 9 Tryz.f9 Rows.tableLoadsSpec Rows.tableLoadsRow = true := by
  unfold joinedFacts
  repeat' (with_reducible refine (Bool.and_eq_true_iff).2 ⟨?_, ?_⟩)
  all_goals first | with_reducible exact j1 | with_reducible exact j2 | with_reducible exact j3 | with_reducible exact j4 | kernel_rfl
end Go.Proofs.YtkdjkngfnapjcaaGreatDoor.tableLoads
