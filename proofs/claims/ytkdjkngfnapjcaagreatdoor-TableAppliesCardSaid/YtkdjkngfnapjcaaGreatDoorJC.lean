import Derived.Test.YtkdjkngfnapjcaaGreatDoorCards
import Derived.JoinedOf
import Derived.KernelRfl
import Derived.ProofKit
import Derived.Test.YtkdjkngfnapjcaaGreatDoorJA
import Derived.Test.YtkdjkngfnapjcaaGreatDoorJB
namespace Go.Proofs.YtkdjkngfnapjcaaGreatDoor.tableApplies
open Go
theorem closed : joinedFacts Tryz.prog 6 Tryz.f6 Rows.tableAppliesSpec Rows.tableAppliesRow = true := by
  unfold joinedFacts
  repeat' (with_reducible refine (Bool.and_eq_true_iff).2 ⟨?_, ?_⟩)
  all_goals first | with_reducible exact j1 | with_reducible exact j2 | with_reducible exact j3 | with_reducible exact j4 | kernel_rfl
end Go.Proofs.YtkdjkngfnapjcaaGreatDoor.tableApplies
