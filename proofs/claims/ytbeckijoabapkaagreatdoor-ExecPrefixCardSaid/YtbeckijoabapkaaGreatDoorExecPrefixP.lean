/- The law ExecPrefix returns true for every input that can be read, and changes nothing that was there: the statement's frame; the walk's contract is proved in the texts beside it. No further condition. -/
import Derived.Test.YtbeckijoabapkaaGreatDoorEpD
import Derived.Test.YtbeckijoabapkaaGreatDoorEpE
namespace Go.Proofs.YtbeckijoabapkaaGreatDoor.execPrefix
open Go.ChangeShapes Go.WideShapes Go.ChangeAt Go.RowKit
open Go.ChangeMaps (open_string shut_string)
set_option linter.unusedVariables false

theorem proved : Rows.ExecPrefixCardSaid :=
  Claim7.holds_tied_plain_at .later [] _ _ _ _ holds (fun _ h => by cases h) (by kernel_rfl) (fun _ h => by cases h) execPrefix_row_tie rfl ⟨rfl, rfl⟩ (by kernel_rfl) rfl
    (fun f fn hf hfn => by
      obtain rfl : f = 3 := Option.some.inj ((show Tryz.prog.funcNamed "moothill/moothilllaw26.ExecPrefix" = some 3 by kernel_rfl).symm.trans hf) |>.symm
      obtain rfl : fn = Tryz.f3 := (Option.some.inj (Tryz.func3.symm.trans hfn)).symm
      exact ⟨k2, fun j t ht => by
        rw [Tryz.params3] at ht
        have hm : t ∈ [22, 23, 24, 24] := by simpa using Array.mem_of_getElem? ht
        have hall : ([22, 23, 24, 24].all fun u => !Tryz.prog.wantsStandIn u) = true := by kernel_rfl
        exact (show Tryz.prog.wantsStandIn t = false by simpa using List.all_eq_true.1 hall t hm)⟩)
    k1
#print axioms proved
end Go.Proofs.YtbeckijoabapkaaGreatDoor.execPrefix
