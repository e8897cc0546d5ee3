/-
  No cell of these rows narrows 'for every input' (looked for: loops, veiled, ifaces, maps, wideKeys, modest, calm, conditions, laid).
  DERIVED. THE GIVEN ROWS OF THIS SEAT. 6 by the template 'for every input the law returns true; each argument reads behind the call as it read before'; 0 by the template 'total and deterministic' (their statements: YtgicohkmfbbbdaaTotals.lean).
  GIVEN WITH THE SEED: the statements are not yours to turn. If you find one false, say at which input.
  Laid BY PROGRAM, IN A SANDBOX (cutbox-rows.mjs): the forced cells as the released guide's own fill.sh prints them over the translation 460629eaca310b60… (all of the seat's roots in one cut). By AI agents, Wed Nov 11 2026. No macro, syntax, notation, axiom, sorry.
-/
import Derived.Test.YtgicohkmfbbbdaaChecked
import GoSem.Claim
import GoSem.ClaimJoined
import GoSem.ClaimMapViews
import Derived.JoinedTies
import Derived.KernelRfl
namespace Go.Proofs.Ytgicohkmfbbbdaa
/- THE CELL 'sum', in the pinned program and in every row, IS THE sha256 OF THE DUMP (.gsa) THAT YtgicohkmfbbbdaaProg.lean LOADS. Nothing in Lean hashes anything: it is a label: what it is worth is what the hold of that sum in a sandbox is worth. -/
noncomputable def Try.pinned : Pinned := { name := "ytgicohkmfbbbdaa", sum := "460629eaca310b603ed894104485ba00687afb947ee097fb28b110b8d3eb3ad1", checked := Try.checked }
namespace Rows
def none {H : Type} : Left H := { results := [], args := [] }

/-- 'moothilllaw25.GraphRuns': WHATEVER THE INPUT: true; the input reads as it did. -/
def graphRunsSpec : ChangeSpec := { name := "graphRuns", fn := fun _ => fun
  | [d1, d2] => { results := [.lit (.bool true)], args := [d1, d2] }
  | _ => none }
def graphRunsRow : OpenClaim := { program := "ytgicohkmfbbbdaa", sum := "460629eaca310b603ed894104485ba00687afb947ee097fb28b110b8d3eb3ad1", func := "moothill/moothilllaw25.GraphRuns", spec := "graphRuns", unfollowed := true, recurses := true, plainKeys := false, apart := false }
def GraphRunsSaid : Prop := graphRunsRow.holds Try.pinned (OpenSpec.ofChange graphRunsSpec)

/-- ITS FALSE NEIGHBOUR: 'it returns false'. Refute it at one input. -/
def graphRunsWrong : ChangeSpec := { name := "graphRuns", fn := fun _ => fun
  | [d1, d2] => { results := [.lit (.bool false)], args := [d1, d2] }
  | _ => none }
def GraphRunsWrongFalsely : Prop := graphRunsRow.holds Try.pinned (OpenSpec.ofChange graphRunsWrong)

/-- 'moothilllaw25.GraphNeeds': WHATEVER THE INPUT: true; the input reads as it did. -/
def graphNeedsSpec : ChangeSpec := { name := "graphNeeds", fn := fun _ => fun
  | [d1, d2, d3, d4] => { results := [.lit (.bool true)], args := [d1, d2, d3, d4] }
  | _ => none }
def graphNeedsRow : OpenClaim := { program := "ytgicohkmfbbbdaa", sum := "460629eaca310b603ed894104485ba00687afb947ee097fb28b110b8d3eb3ad1", func := "moothill/moothilllaw25.GraphNeeds", spec := "graphNeeds", unfollowed := true, recurses := true, plainKeys := false, apart := false }
def GraphNeedsSaid : Prop := graphNeedsRow.holds Try.pinned (OpenSpec.ofChange graphNeedsSpec)

/-- ITS FALSE NEIGHBOUR: 'it returns false'. Refute it at one input. -/
def graphNeedsWrong : ChangeSpec := { name := "graphNeeds", fn := fun _ => fun
  | [d1, d2, d3, d4] => { results := [.lit (.bool false)], args := [d1, d2, d3, d4] }
  | _ => none }
def GraphNeedsWrongFalsely : Prop := graphNeedsRow.holds Try.pinned (OpenSpec.ofChange graphNeedsWrong)

/-- 'moothilllaw25.GraphOrders': WHATEVER THE INPUT: true; the input reads as it did. -/
def graphOrdersSpec : ChangeSpec := { name := "graphOrders", fn := fun _ => fun
  | [d] => { results := [.lit (.bool true)], args := [d] }
  | _ => none }
def graphOrdersRow : OpenClaim := { program := "ytgicohkmfbbbdaa", sum := "460629eaca310b603ed894104485ba00687afb947ee097fb28b110b8d3eb3ad1", func := "moothill/moothilllaw25.GraphOrders", spec := "graphOrders", unfollowed := true, recurses := true, plainKeys := false, apart := false }
def GraphOrdersSaid : Prop := graphOrdersRow.holds Try.pinned (OpenSpec.ofChange graphOrdersSpec)

/-- ITS FALSE NEIGHBOUR: 'it returns false'. Refute it at one input. -/
def graphOrdersWrong : ChangeSpec := { name := "graphOrders", fn := fun _ => fun
  | [d] => { results := [.lit (.bool false)], args := [d] }
  | _ => none }
def GraphOrdersWrongFalsely : Prop := graphOrdersRow.holds Try.pinned (OpenSpec.ofChange graphOrdersWrong)

/-- 'moothilllaw25.GraphSame': WHATEVER THE INPUT: true; the input reads as it did. -/
def graphSameSpec : ChangeSpec := { name := "graphSame", fn := fun _ => fun
  | [d1, d2, d3] => { results := [.lit (.bool true)], args := [d1, d2, d3] }
  | _ => none }
def graphSameRow : OpenClaim := { program := "ytgicohkmfbbbdaa", sum := "460629eaca310b603ed894104485ba00687afb947ee097fb28b110b8d3eb3ad1", func := "moothill/moothilllaw25.GraphSame", spec := "graphSame", unfollowed := true, recurses := true, plainKeys := false, apart := false }
def GraphSameSaid : Prop := graphSameRow.holds Try.pinned (OpenSpec.ofChange graphSameSpec)

/-- ITS FALSE NEIGHBOUR: 'it returns false'. Refute it at one input. -/
def graphSameWrong : ChangeSpec := { name := "graphSame", fn := fun _ => fun
  | [d1, d2, d3] => { results := [.lit (.bool false)], args := [d1, d2, d3] }
  | _ => none }
def GraphSameWrongFalsely : Prop := graphSameRow.holds Try.pinned (OpenSpec.ofChange graphSameWrong)

/-- 'moothilllaw25.GraphMissing': WHATEVER THE INPUT: true; the input reads as it did. -/
def graphMissingSpec : ChangeSpec := { name := "graphMissing", fn := fun _ => fun
  | [d1, d2, d3] => { results := [.lit (.bool true)], args := [d1, d2, d3] }
  | _ => none }
def graphMissingRow : OpenClaim := { program := "ytgicohkmfbbbdaa", sum := "460629eaca310b603ed894104485ba00687afb947ee097fb28b110b8d3eb3ad1", func := "moothill/moothilllaw25.GraphMissing", spec := "graphMissing", unfollowed := true, recurses := true, plainKeys := false, apart := false }
def GraphMissingSaid : Prop := graphMissingRow.holds Try.pinned (OpenSpec.ofChange graphMissingSpec)

/-- ITS FALSE NEIGHBOUR: 'it returns false'. Refute it at one input. -/
def graphMissingWrong : ChangeSpec := { name := "graphMissing", fn := fun _ => fun
  | [d1, d2, d3] => { results := [.lit (.bool false)], args := [d1, d2, d3] }
  | _ => none }
def GraphMissingWrongFalsely : Prop := graphMissingRow.holds Try.pinned (OpenSpec.ofChange graphMissingWrong)

/-- 'moothilllaw25.GraphKnots': WHATEVER THE INPUT: true; the input reads as it did. -/
def graphKnotsSpec : ChangeSpec := { name := "graphKnots", fn := fun _ => fun
  | [d1, d2, d3] => { results := [.lit (.bool true)], args := [d1, d2, d3] }
  | _ => none }
def graphKnotsRow : OpenClaim := { program := "ytgicohkmfbbbdaa", sum := "460629eaca310b603ed894104485ba00687afb947ee097fb28b110b8d3eb3ad1", func := "moothill/moothilllaw25.GraphKnots", spec := "graphKnots", unfollowed := true, recurses := true, plainKeys := false, apart := false }
def GraphKnotsSaid : Prop := graphKnotsRow.holds Try.pinned (OpenSpec.ofChange graphKnotsSpec)

/-- ITS FALSE NEIGHBOUR: 'it returns false'. Refute it at one input. -/
def graphKnotsWrong : ChangeSpec := { name := "graphKnots", fn := fun _ => fun
  | [d1, d2, d3] => { results := [.lit (.bool false)], args := [d1, d2, d3] }
  | _ => none }
def GraphKnotsWrongFalsely : Prop := graphKnotsRow.holds Try.pinned (OpenSpec.ofChange graphKnotsWrong)

/- THE SECOND FORM. 'bulk': how many values and letters a reading holds, each counted each time it is reached (what is shared counts as often as it is met; a slice's spare places count too). A statement '..UptoSaid' is the law's where the arguments, and the package variables that the reading takes, are together of bulk at most 1048576: NARROWER than '..Said'. Prove '..Said' where nothing that the law and all that it calls make is longer than what came in: it says more and counts as full. Else prove '..UptoSaid'. A law counts once. -/
mutual
def uptoBulk {H : Type} : DataW H → Nat
  | .lit (.string bytes) => bytes.length + 1
  | .lit _ => 1
  | .nil => 1
  | .ptr d => uptoBulk d + 1
  | .slice elems spare => uptoBulkAll elems + uptoBulkAll spare + 1
  | .agg parts => uptoBulkAll parts + 1
  | .iface _ d => uptoBulk d + 1
  | .map entries => uptoBulkEntries entries + 1
  | .held _ => 1
def uptoBulkAll {H : Type} : List (DataW H) → Nat
  | [] => 0
  | d :: r => uptoBulk d + uptoBulkAll r
def uptoBulkEntries {H : Type} : List (Lit × DataW H) → Nat
  | [] => 0
  | x :: r => uptoBulkEntry x + uptoBulkEntries r
def uptoBulkEntry {H : Type} : Lit × DataW H → Nat
  | (.string bytes, d) => bytes.length + uptoBulk d + 1
  | (_, d) => uptoBulk d + 1
 end
def uptoSmall : (H : Type) → List (DataW H) → Bool := fun _ ds => decide (uptoBulkAll ds ≤ 1048576)
def OpenSpec.upto (s : _root_.Go.ChangeSpec) : _root_.Go.OpenSpec := { _root_.Go.OpenSpec.ofChange s with cond := some uptoSmall }

/-- 'moothilllaw25.GraphRuns', WHERE WHAT IT READS IS OF BULK AT MOST 1048576: true; the input reads as it did. -/
def graphRunsUptoRow : OpenClaim := { program := "ytgicohkmfbbbdaa", sum := "460629eaca310b603ed894104485ba00687afb947ee097fb28b110b8d3eb3ad1", func := "moothill/moothilllaw25.GraphRuns", spec := "graphRuns", unfollowed := true, recurses := true, plainKeys := false, apart := false, narrowed := true }
def GraphRunsUptoSaid : Prop := graphRunsUptoRow.holds Try.pinned (OpenSpec.upto graphRunsSpec)

/-- 'moothilllaw25.GraphNeeds', WHERE WHAT IT READS IS OF BULK AT MOST 1048576: true; the input reads as it did. -/
def graphNeedsUptoRow : OpenClaim := { program := "ytgicohkmfbbbdaa", sum := "460629eaca310b603ed894104485ba00687afb947ee097fb28b110b8d3eb3ad1", func := "moothill/moothilllaw25.GraphNeeds", spec := "graphNeeds", unfollowed := true, recurses := true, plainKeys := false, apart := false, narrowed := true }
def GraphNeedsUptoSaid : Prop := graphNeedsUptoRow.holds Try.pinned (OpenSpec.upto graphNeedsSpec)

/-- 'moothilllaw25.GraphOrders', WHERE WHAT IT READS IS OF BULK AT MOST 1048576: true; the input reads as it did. -/
def graphOrdersUptoRow : OpenClaim := { program := "ytgicohkmfbbbdaa", sum := "460629eaca310b603ed894104485ba00687afb947ee097fb28b110b8d3eb3ad1", func := "moothill/moothilllaw25.GraphOrders", spec := "graphOrders", unfollowed := true, recurses := true, plainKeys := false, apart := false, narrowed := true }
def GraphOrdersUptoSaid : Prop := graphOrdersUptoRow.holds Try.pinned (OpenSpec.upto graphOrdersSpec)

/-- 'moothilllaw25.GraphSame', WHERE WHAT IT READS IS OF BULK AT MOST 1048576: true; the input reads as it did. -/
def graphSameUptoRow : OpenClaim := { program := "ytgicohkmfbbbdaa", sum := "460629eaca310b603ed894104485ba00687afb947ee097fb28b110b8d3eb3ad1", func := "moothill/moothilllaw25.GraphSame", spec := "graphSame", unfollowed := true, recurses := true, plainKeys := false, apart := false, narrowed := true }
def GraphSameUptoSaid : Prop := graphSameUptoRow.holds Try.pinned (OpenSpec.upto graphSameSpec)

/-- 'moothilllaw25.GraphMissing', WHERE WHAT IT READS IS OF BULK AT MOST 1048576: true; the input reads as it did. -/
def graphMissingUptoRow : OpenClaim := { program := "ytgicohkmfbbbdaa", sum := "460629eaca310b603ed894104485ba00687afb947ee097fb28b110b8d3eb3ad1", func := "moothill/moothilllaw25.GraphMissing", spec := "graphMissing", unfollowed := true, recurses := true, plainKeys := false, apart := false, narrowed := true }
def GraphMissingUptoSaid : Prop := graphMissingUptoRow.holds Try.pinned (OpenSpec.upto graphMissingSpec)

/-- 'moothilllaw25.GraphKnots', WHERE WHAT IT READS IS OF BULK AT MOST 1048576: true; the input reads as it did. -/
def graphKnotsUptoRow : OpenClaim := { program := "ytgicohkmfbbbdaa", sum := "460629eaca310b603ed894104485ba00687afb947ee097fb28b110b8d3eb3ad1", func := "moothill/moothilllaw25.GraphKnots", spec := "graphKnots", unfollowed := true, recurses := true, plainKeys := false, apart := false, narrowed := true }
def GraphKnotsUptoSaid : Prop := graphKnotsUptoRow.holds Try.pinned (OpenSpec.upto graphKnotsSpec)

end Rows
end Go.Proofs.Ytgicohkmfbbbdaa
