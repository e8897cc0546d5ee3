/- The law GraphKnots returns true for every input that can be read, and changes nothing that was there: the statement's frame; the walk's contract is proved in the texts beside it. No further condition. -/
import Derived.Test.YtgicohkmfbbbdaaRows
import Derived.WalkKit
import Derived.ProofKit
import Derived.OpenShut
import Derived.ShutString
import Derived.ChangeOld
import Derived.Below
import Derived.Lib.SmallJoins
import Derived.Test.YtgicohkmfbbbdaaK31
import Derived.Test.YtgicohkmfbbbdaaK25
namespace Go.Proofs.Ytgicohkmfbbbdaa.graphKnots
open Go.ChangeShapes Go.WideShapes Go.ChangeAt Go.RowKit
open Go.ChangeMaps (open_string shut_string)
set_option linter.unusedVariables false

theorem own : ownKnob Try.prog.godebug = none := by kernel_rfl
theorem laidOut : laidOutB Try.prog = true := by kernel_rfl

set_option maxRecDepth 100000 in
theorem walk {H : Type} (enc : TypeId × Value → H) (W : World) (base : Nat) (v0 v1 v2 : Value) (d0 d1 d2 : DataW H) (p0 p1 p2 : List MemPlace)
    (h0 : DataW.Trod enc Try.prog W 0 (fun _ => true) true 22 v0 d0 p0) (o0 : Value.okWide Try.prog W .any base 22 v0)
    (h1 : DataW.Trod enc Try.prog W 0 (fun _ => true) true 24 v1 d1 p1) (o1 : Value.okWide Try.prog W .any base 24 v1)
    (h2 : DataW.Trod enc Try.prog W 0 (fun _ => true) true 31 v2 d2 p2) (o2 : Value.okWide Try.prog W .any base 31 v2)
    : Calls Try.prog 8 #[v0, v1, v2] W fun e w' => e = .returned (.bool true) ∧ Below W.heap.size W w' := by
  obtain ⟨sa, sn, sc, rfl⟩ := Go.WideShapes.okWide_slice Try.underlying22 o0
  obtain ⟨fuel, h0⟩ := h0
  obtain ⟨l, hl, hok, hlen⟩ := Gr.open_nodes (v := .slice sa sn sc) (fun _ => rfl) h0
  obtain ⟨f, rfl⟩ := Gr.openV_front o1 h1
  obtain ⟨ta, tn, tc, rfl⟩ := Go.WideShapes.okWide_slice Try.underlying31 o2
  obtain ⟨fuel2, h2⟩ := h2
  obtain ⟨sm, hs, hoks, hslen⟩ := Gr.open_ids (v := .slice ta tn tc) (fun _ => rfl) h2
  exact Gr.knots_law hl hok hlen f hs hoks hslen

set_option maxRecDepth 100000 in
theorem lifted (os : Os) (started : os.Started) (H : Type) (enc : TypeId × Value → H) :
    ReturnsInHanded {} Try.checked os 8 .any (Rows.graphKnotsSpec.pre6 enc Try.prog Try.f8 Rows.graphKnotsRow.domain false) (Rows.graphKnotsSpec.post enc Try.prog Try.f8 false true false false) := by
  refine returnsInHanded_of_change (C := Try.checked) own started (by kernel_rfl) Try.func8
    (ChangeSpec.witness6 (enc := enc) (C := Try.checked) false ⟨#[], #[.slice none 0 0, .agg #[.int .i64 0, .int .i64 0, .int .i64 0, .int .i64 0, .int .i64 0, .int .i64 0, .int .i64 0], .slice none 0 0], []⟩ 8 (by kernel_rfl) (by kernel_rfl) (by kernel_rfl) (by kernel_rfl)) ?_
  intro W base args ds gs before hval0 hW hcnd _
  have hval : ∀ (j : Nat) t v, Try.f8.params[j]? = some t → args[j]? = some v → Value.okWide Try.prog W .any base t v := hval0
  have hW' := hW
  obtain ⟨p, q, hA0, hV, rfl, hfz, hnd⟩ := hW
  have hA : DataW.TrodAll enc Try.prog W 0 (fun _ => true) true Try.f8.params.toList args.toList ds p := hA0
  rw [Try.params8] at hA hval
  obtain ⟨v0, vs0, d0, ds0, p0, q0, hargs, rfl, rfl, h0, r0⟩ := trodAll_cons hA
  obtain ⟨v1, vs1, d1, ds1, p1, q1, rfl, rfl, rfl, h1, r1⟩ := trodAll_cons r0
  obtain ⟨v2, vs2, d2, ds2, p2, q2, rfl, rfl, rfl, h2, r2⟩ := trodAll_cons r1
  obtain ⟨rfl, rfl, rfl⟩ := trodAll_nil r2
  obtain rfl : args = #[v0, v1, v2] := by cases args; simp_all
  obtain ⟨rfl, rfl⟩ := trodVars_none hV
  have lt0 : ∀ x ∈ p0, x.block < W.heap.size := by obtain ⟨m, hm⟩ := h0; exact DataW.trod_lt m _ _ _ hm
  have lt1 : ∀ x ∈ p1, x.block < W.heap.size := by obtain ⟨m, hm⟩ := h1; exact DataW.trod_lt m _ _ _ hm
  have lt2 : ∀ x ∈ p2, x.block < W.heap.size := by obtain ⟨m, hm⟩ := h2; exact DataW.trod_lt m _ _ _ hm
  refine (walk enc W base v0 v1 v2 d0 d1 d2 p0 p1 p2 h0 (hval 0 22 v0 rfl rfl) h1 (hval 1 24 v1 rfl rfl) h2 (hval 2 31 v2 rfl rfl)).mono fun e W' ⟨he, bel⟩ => ?_
  subst he
  exact ⟨_, rfl, _, _, _, [], _, [], hW', trodAll_mk1 (shut_bool Try.underlying4 _), (trodAll_cons_mk (Below.trod laidOut (by kernel_rfl) (of_decide_eq_true (by kernel_rfl)) h0 bel lt0) (trodAll_cons_mk (Below.trod laidOut (by kernel_rfl) (of_decide_eq_true (by kernel_rfl)) h1 bel lt1) (trodAll_cons_mk (Below.trod laidOut (by kernel_rfl) (of_decide_eq_true (by kernel_rfl)) h2 bel lt2) trodAll_mk0))), rfl, bel.frame _, fun h => by cases h⟩

theorem proved : Rows.GraphKnotsSaid :=
  OpenClaim.holds_of_wide 8 Try.f8 rfl rfl rfl rfl rfl rfl rfl ⟨rfl, rfl, rfl, rfl, rfl⟩ rfl rfl rfl rfl rfl (by kernel_rfl) Try.func8 (by kernel_rfl)
    (of_decide_eq_true (by kernel_rfl)) (by unfold Func.isWrapper; first | (rw [if_pos (by decide +kernel)]; kernel_rfl) | (rw [if_neg (by decide +kernel)]; exact ⟨rfl, rfl⟩))
    (fun os started H enc _ => lifted os started H enc)
#print axioms proved
end Go.Proofs.Ytgicohkmfbbbdaa.graphKnots
