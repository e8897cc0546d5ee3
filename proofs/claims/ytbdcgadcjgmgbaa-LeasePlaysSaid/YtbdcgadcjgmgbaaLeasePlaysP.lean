/- The law LeasePlays returns true for every input that can be read, and changes nothing that was there: the statement's frame; the walk's contract is proved in the texts beside it. No further condition. -/
import Derived.Test.YtbdcgadcjgmgbaaRows
import Derived.WalkKit
import Derived.ProofKit
import Derived.OpenShut
import Derived.ShutString
import Derived.ChangeOld
import Derived.Below
import Derived.Lib.SmallJoins
import Derived.Test.YtbdcgadcjgmgbaaLeaseO
namespace Go.Proofs.Ytbdcgadcjgmgbaa.leasePlays
open Go.ChangeShapes Go.WideShapes Go.ChangeAt Go.RowKit
open Go.ChangeMaps (open_string shut_string)
set_option linter.unusedVariables false

theorem own : ownKnob Try.prog.godebug = none := by kernel_rfl
theorem laidOut : laidOutB Try.prog = true := by kernel_rfl

set_option maxRecDepth 100000 in
theorem walk {H : Type} (enc : TypeId × Value → H) (W : World) (base : Nat) (v0 v1 v2 v3 : Value) (d0 d1 d2 d3 : DataW H) (p0 p1 p2 p3 : List MemPlace)
    (h0 : DataW.Trod enc Try.prog W 0 (fun _ => true) true 22 v0 d0 p0) (o0 : Value.okWide Try.prog W .any base 22 v0)
    (h1 : DataW.Trod enc Try.prog W 0 (fun _ => true) true 3 v1 d1 p1) (o1 : Value.okWide Try.prog W .any base 3 v1)
    (h2 : DataW.Trod enc Try.prog W 0 (fun _ => true) true 25 v2 d2 p2) (o2 : Value.okWide Try.prog W .any base 25 v2)
    (h3 : DataW.Trod enc Try.prog W 0 (fun _ => true) true 23 v3 d3 p3) (o3 : Value.okWide Try.prog W .any base 23 v3)
    : Calls Try.prog 3 #[v0, v1, v2, v3] W fun e w' => e = .returned (.bool true) ∧ Below W.heap.size W w' := by
  obtain ⟨sa, sn, sc, rfl⟩ := Go.WideShapes.okWide_slice Try.underlying22 o0
  obtain ⟨fuel, h0⟩ := h0
  obtain ⟨os, hos, hol⟩ := Lease.open_ops (v := .slice sa sn sc) (fun _ => rfl) h0
  obtain ⟨a1, rfl, rfl, rfl, w1⟩ := open_int Try.underlying3 o1 h1
  obtain ⟨c0, c1, y0, y1, m, rfl, rfl, _, q0, q1⟩ := Go.Joins.open_agg2 Try.underlying25 (by kernel_rfl) (by kernel_rfl) o2 h2
  obtain ⟨n, e0, rfl, wn⟩ := DataW.trod_int Try.underlying23 q0
  obtain ⟨s, e1, rfl, ws⟩ := DataW.trod_string Try.underlying9 q1
  simp at e0 e1
  subst e0 e1
  obtain ⟨a3, rfl, rfl, rfl, w3⟩ := open_int Try.underlying23 o3 h3
  exact Lease.law_any hos hol a1 (Lease.wf64 wn).1 (Lease.wf64 wn).2 ws (Lease.wf64 w3).1 (Lease.wf64 w3).2

set_option maxRecDepth 100000 in
theorem lifted (os : Os) (started : os.Started) (H : Type) (enc : TypeId × Value → H) :
    ReturnsInHanded {} Try.checked os 3 .any (Rows.leasePlaysSpec.pre6 enc Try.prog Try.f3 Rows.leasePlaysRow.domain false) (Rows.leasePlaysSpec.post enc Try.prog Try.f3 false true false false) := by
  refine returnsInHanded_of_change (C := Try.checked) own started (by kernel_rfl) Try.func3
    (ChangeSpec.witness6 (enc := enc) (C := Try.checked) false ⟨#[], #[.slice none 0 0, .int .i64 0, .agg #[.int .u64 0, .string .empty], .int .u64 0], []⟩ 8 (by kernel_rfl) (by kernel_rfl) (by kernel_rfl) (by kernel_rfl)) ?_
  intro W base args ds gs before hval0 hW hcnd _
  have hval : ∀ (j : Nat) t v, Try.f3.params[j]? = some t → args[j]? = some v → Value.okWide Try.prog W .any base t v := hval0
  have hW' := hW
  obtain ⟨p, q, hA0, hV, rfl, hfz, hnd⟩ := hW
  have hA : DataW.TrodAll enc Try.prog W 0 (fun _ => true) true Try.f3.params.toList args.toList ds p := hA0
  rw [Try.params3] at hA hval
  obtain ⟨v0, vs0, d0, ds0, p0, q0, hargs, rfl, rfl, h0, r0⟩ := trodAll_cons hA
  obtain ⟨v1, vs1, d1, ds1, p1, q1, rfl, rfl, rfl, h1, r1⟩ := trodAll_cons r0
  obtain ⟨v2, vs2, d2, ds2, p2, q2, rfl, rfl, rfl, h2, r2⟩ := trodAll_cons r1
  obtain ⟨v3, vs3, d3, ds3, p3, q3, rfl, rfl, rfl, h3, r3⟩ := trodAll_cons r2
  obtain ⟨rfl, rfl, rfl⟩ := trodAll_nil r3
  obtain rfl : args = #[v0, v1, v2, v3] := by cases args; simp_all
  obtain ⟨rfl, rfl⟩ := trodVars_none hV
  have lt0 : ∀ x ∈ p0, x.block < W.heap.size := by obtain ⟨m, hm⟩ := h0; exact DataW.trod_lt m _ _ _ hm
  have lt1 : ∀ x ∈ p1, x.block < W.heap.size := by obtain ⟨m, hm⟩ := h1; exact DataW.trod_lt m _ _ _ hm
  have lt2 : ∀ x ∈ p2, x.block < W.heap.size := by obtain ⟨m, hm⟩ := h2; exact DataW.trod_lt m _ _ _ hm
  have lt3 : ∀ x ∈ p3, x.block < W.heap.size := by obtain ⟨m, hm⟩ := h3; exact DataW.trod_lt m _ _ _ hm
  refine (walk enc W base v0 v1 v2 v3 d0 d1 d2 d3 p0 p1 p2 p3 h0 (hval 0 22 v0 rfl rfl) h1 (hval 1 3 v1 rfl rfl) h2 (hval 2 25 v2 rfl rfl) h3 (hval 3 23 v3 rfl rfl)).mono fun e W' ⟨he, bel⟩ => ?_
  subst he
  exact ⟨_, rfl, _, _, _, [], _, [], hW', trodAll_mk1 (shut_bool Try.underlying4 _), (trodAll_cons_mk (Below.trod laidOut (by kernel_rfl) (of_decide_eq_true (by kernel_rfl)) h0 bel lt0) (trodAll_cons_mk (Below.trod laidOut (by kernel_rfl) (of_decide_eq_true (by kernel_rfl)) h1 bel lt1) (trodAll_cons_mk (Below.trod laidOut (by kernel_rfl) (of_decide_eq_true (by kernel_rfl)) h2 bel lt2) (trodAll_cons_mk (Below.trod laidOut (by kernel_rfl) (of_decide_eq_true (by kernel_rfl)) h3 bel lt3) trodAll_mk0)))), rfl, bel.frame _, fun h => by cases h⟩

theorem proved : Rows.LeasePlaysSaid :=
  OpenClaim.holds_of_wide 3 Try.f3 rfl rfl rfl rfl rfl rfl rfl ⟨rfl, rfl, rfl, rfl, rfl⟩ rfl rfl rfl rfl rfl (by kernel_rfl) Try.func3 (by kernel_rfl)
    (of_decide_eq_true (by kernel_rfl)) (by unfold Func.isWrapper; first | (rw [if_pos (by decide +kernel)]; kernel_rfl) | (rw [if_neg (by decide +kernel)]; exact ⟨rfl, rfl⟩))
    (fun os started H enc _ => lifted os started H enc)
#print axioms proved
end Go.Proofs.Ytbdcgadcjgmgbaa.leasePlays
