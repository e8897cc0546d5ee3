/- The frame of the law TableParses in pieces: a closed fact of the whole program. No further condition. -/
import Derived.Test.YtkdjkngfnapjcaaGreatDoorCards
import Derived.JoinedOf
import Derived.KernelRfl
import Derived.ProofKit
import Derived.Test.YtkdjkngfnapjcaaGreatDoorTpA
import Derived.Test.YtkdjkngfnapjcaaGreatDoorTpB
namespace Go.Proofs.YtkdjkngfnapjcaaGreatDoor.tableParses
open Go
theorem closed : joinedFacts Tryz.prog 8 Tryz.f8 Rows.tableParsesSpec Rows.tableParsesRow = true := by
  unfold joinedFacts
  repeat' (with_reducible refine (Bool.and_eq_true_iff).2 ⟨?_, ?_⟩)
  all_goals first | with_reducible exact j1 | with_reducible exact j2 | with_reducible exact j3 | with_reducible exact j4 | kernel_rfl
end Go.Proofs.YtkdjkngfnapjcaaGreatDoor.tableParses
