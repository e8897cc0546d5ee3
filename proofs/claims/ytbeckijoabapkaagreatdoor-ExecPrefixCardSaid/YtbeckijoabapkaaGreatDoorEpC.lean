import Derived.Test.YtbeckijoabapkaaGreatDoorEpA
import Derived.Test.YtbeckijoabapkaaGreatDoorEpB
namespace Go.Proofs.YtbeckijoabapkaaGreatDoor.execPrefix
open Go
theorem closed : joinedFacts Tryz.prog 3 Tryz.f3 Rows.execPrefixSpec Rows.execPrefixRow = true := by
  unfold joinedFacts
  repeat' (with_reducible refine (Bool.and_eq_true_iff).2 ⟨?_, ?_⟩)
  all_goals first | with_reducible exact j1 | with_reducible exact j2 | with_reducible exact j3 | with_reducible exact j4 | kernel_rfl
end Go.Proofs.YtbeckijoabapkaaGreatDoor.execPrefix
