/- The law GraphSame returns true for every input that can be read, and changes nothing that was there: the statement's frame; the walk's contract is proved in the texts beside it. No further condition. -/
import Derived.Test.YtgicohkmfbbbdaaRows
import Derived.WalkKit
import Derived.ProofKit
import Derived.OpenShut
import Derived.ShutString
import Derived.ChangeOld
import Derived.Below
import Derived.Lib.SmallJoins
import Derived.Test.YtgicohkmfbbbdaaK37
import Derived.Test.YtgicohkmfbbbdaaK38
import Derived.Test.YtgicohkmfbbbdaaK30
namespace Go.Proofs.Ytgicohkmfbbbdaa.graphSame
open Go.ChangeShapes Go.WideShapes Go.ChangeAt Go.RowKit
open Go.ChangeMaps (open_string shut_string)
set_option linter.unusedVariables false

theorem own : ownKnob Try.prog.godebug = none := by kernel_rfl
theorem laidOut : laidOutB Try.prog = true := by kernel_rfl

set_option maxRecDepth 100000 in
theorem walk {H : Type} (enc : TypeId × Value → H) (W : World) (base : Nat) (v0 v1 v2 : Value) (d0 d1 d2 : DataW H) (p0 p1 p2 : List MemPlace)
    (h0 : DataW.Trod enc Try.prog W 0 (fun _ => true) true 22 v0 d0 p0) (o0 : Value.okWide Try.prog W .any base 22 v0)
    (h1 : DataW.Trod enc Try.prog W 0 (fun _ => true) true 63 v1 d1 p1) (o1 : Value.okWide Try.prog W .any base 63 v1)
    (h2 : DataW.Trod enc Try.prog W 0 (fun _ => true) true 63 v2 d2 p2) (o2 : Value.okWide Try.prog W .any base 63 v2)
    : Calls Try.prog 6 #[v0, v1, v2] W fun e w' => e = .returned (.bool true) ∧ Below W.heap.size W w' := by
  obtain ⟨sa, sn, sc, rfl⟩ := Go.WideShapes.okWide_slice Try.underlying22 o0
  obtain ⟨ta, tn, tc, rfl⟩ := Go.WideShapes.okWide_slice Try.underlying63 o1
  obtain ⟨ua, un, uc, rfl⟩ := Go.WideShapes.okWide_slice Try.underlying63 o2
  obtain ⟨fuel, h0⟩ := h0
  obtain ⟨fuel1, h1⟩ := h1
  obtain ⟨fuel2, h2⟩ := h2
  have hcp : sn ≤ sc := by
    rcases Go.Deep.open_slice Try.underlying22 h0 with ⟨hcs, _⟩ | ⟨a, len, cap, m, n, D, Pl, hcs, _, hl, _⟩
    · simp [Value.cells] at hcs
      omega
    · simp [Value.cells] at hcs
      omega
  obtain ⟨l, hl, hok, hlen⟩ := Gr.open_nodes (v := .slice sa sn sc) (fun _ => rfl) h0
  have ints : ∀ {a : Option Addr} {n c fu : Nat} {y : DataW H × List MemPlace}, DataW.trod enc Try.prog W 0 (fun _ => true) true fu 63 [.slice a n c] = some y → ∃ zs : List Int, Gr.ReadsI (Part.old W) (.slice a n c) zs ∧ zs.length ≤ 9223372036854775807 := by
    intro a n c fu y h
    rcases Go.ChangeShapes.open_ints Try.underlying63 Try.underlying3 (by kernel_rfl) h with ⟨hcs, _⟩ | ⟨x, len, cap, zs, hcs, _, hl, hm, hz, _, hc, _⟩
    · simp at hcs
      obtain ⟨rfl, rfl, rfl⟩ := hcs
      exact ⟨[], fun w _ => ⟨none, 0, rfl, fun _ => rfl, fun j u hj => by cases hj⟩, by simp⟩
    · simp at hcs
      obtain ⟨rfl, rfl, rfl⟩ := hcs
      simp at hz
      refine ⟨zs.take n, fun w hw => Gr.old_readsG ?_ hw, by unfold maxLen at hm; simp; omega⟩
      exact Gr.reads_ints (intsAt_row hl hz hc)
  obtain ⟨xs, hx, hxl⟩ := ints h1
  obtain ⟨ys, hy, hyl⟩ := ints h2
  exact Gr.same_law hl (fun ax n c e => by cases e; exact hcp) hok hlen hx hxl hy hyl

set_option maxRecDepth 100000 in
theorem lifted (os : Os) (started : os.Started) (H : Type) (enc : TypeId × Value → H) :
    ReturnsInHanded {} Try.checked os 6 .any (Rows.graphSameSpec.pre6 enc Try.prog Try.f6 Rows.graphSameRow.domain false) (Rows.graphSameSpec.post enc Try.prog Try.f6 false true false false) := by
  refine returnsInHanded_of_change (C := Try.checked) own started (by kernel_rfl) Try.func6
    (ChangeSpec.witness6 (enc := enc) (C := Try.checked) false ⟨#[], #[.slice none 0 0, .slice none 0 0, .slice none 0 0], []⟩ 8 (by kernel_rfl) (by kernel_rfl) (by kernel_rfl) (by kernel_rfl)) ?_
  intro W base args ds gs before hval0 hW hcnd _
  have hval : ∀ (j : Nat) t v, Try.f6.params[j]? = some t → args[j]? = some v → Value.okWide Try.prog W .any base t v := hval0
  have hW' := hW
  obtain ⟨p, q, hA0, hV, rfl, hfz, hnd⟩ := hW
  have hA : DataW.TrodAll enc Try.prog W 0 (fun _ => true) true Try.f6.params.toList args.toList ds p := hA0
  rw [Try.params6] at hA hval
  obtain ⟨v0, vs0, d0, ds0, p0, q0, hargs, rfl, rfl, h0, r0⟩ := trodAll_cons hA
  obtain ⟨v1, vs1, d1, ds1, p1, q1, rfl, rfl, rfl, h1, r1⟩ := trodAll_cons r0
  obtain ⟨v2, vs2, d2, ds2, p2, q2, rfl, rfl, rfl, h2, r2⟩ := trodAll_cons r1
  obtain ⟨rfl, rfl, rfl⟩ := trodAll_nil r2
  obtain rfl : args = #[v0, v1, v2] := by cases args; simp_all
  obtain ⟨rfl, rfl⟩ := trodVars_none hV
  have lt0 : ∀ x ∈ p0, x.block < W.heap.size := by obtain ⟨m, hm⟩ := h0; exact DataW.trod_lt m _ _ _ hm
  have lt1 : ∀ x ∈ p1, x.block < W.heap.size := by obtain ⟨m, hm⟩ := h1; exact DataW.trod_lt m _ _ _ hm
  have lt2 : ∀ x ∈ p2, x.block < W.heap.size := by obtain ⟨m, hm⟩ := h2; exact DataW.trod_lt m _ _ _ hm
  refine (walk enc W base v0 v1 v2 d0 d1 d2 p0 p1 p2 h0 (hval 0 22 v0 rfl rfl) h1 (hval 1 63 v1 rfl rfl) h2 (hval 2 63 v2 rfl rfl)).mono fun e W' ⟨he, bel⟩ => ?_
  subst he
  exact ⟨_, rfl, _, _, _, [], _, [], hW', trodAll_mk1 (shut_bool Try.underlying4 _), (trodAll_cons_mk (Below.trod laidOut (by kernel_rfl) (of_decide_eq_true (by kernel_rfl)) h0 bel lt0) (trodAll_cons_mk (Below.trod laidOut (by kernel_rfl) (of_decide_eq_true (by kernel_rfl)) h1 bel lt1) (trodAll_cons_mk (Below.trod laidOut (by kernel_rfl) (of_decide_eq_true (by kernel_rfl)) h2 bel lt2) trodAll_mk0))), rfl, bel.frame _, fun h => by cases h⟩

theorem proved : Rows.GraphSameSaid :=
  OpenClaim.holds_of_wide 6 Try.f6 rfl rfl rfl rfl rfl rfl rfl ⟨rfl, rfl, rfl, rfl, rfl⟩ rfl rfl rfl rfl rfl (by kernel_rfl) Try.func6 (by kernel_rfl)
    (of_decide_eq_true (by kernel_rfl)) (by unfold Func.isWrapper; first | (rw [if_pos (by decide +kernel)]; kernel_rfl) | (rw [if_neg (by decide +kernel)]; exact ⟨rfl, rfl⟩))
    (fun os started H enc _ => lifted os started H enc)
#print axioms proved
end Go.Proofs.Ytgicohkmfbbbdaa.graphSame
