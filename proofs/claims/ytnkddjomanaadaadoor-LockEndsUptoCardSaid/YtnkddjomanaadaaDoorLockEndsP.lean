/- The law LockEnds returns true for every input that can be read and is within the second form's bound, and changes nothing that was there: the statement's frame; the walk's contract is proved in the texts beside it. No further condition. -/
import Derived.Test.YtnkddjomanaadaaDoorCards
import Derived.Test.YtnkddjomanaadaaDoorTie
import Derived.Handy
import Derived.Lay
import Derived.SevenTiedAt
import Derived.Deep.DeepHandedRow
import Derived.WalkKit
import Derived.ProofKit
import Derived.OpenShut
import Derived.ShutString
import Derived.ChangeOld
import Derived.Below
import Derived.Lib.SmallJoins
import Derived.JoinedCond
import Derived.Test.YtnkddjomanaadaaDoorJ21
namespace Go.Proofs.YtnkddjomanaadaaDoor.lockEnds
open Go.ChangeShapes Go.WideShapes Go.ChangeAt Go.RowKit
open Go.ChangeMaps (open_string shut_string)
set_option linter.unusedVariables false

theorem own : ownKnob Tryd.prog.godebug = none := by kernel_rfl
theorem laidOut : laidOutB Tryd.prog = true := by kernel_rfl

set_option maxRecDepth 100000 in
theorem walk {H : Type} (enc : TypeId × Value → H) (W : World) (base : Nat) (v0 v1 v2 v3 v4 : Value) (d0 d1 d2 d3 d4 : DataW H) (p0 p1 p2 p3 p4 : List MemPlace)
    (h0 : DataW.Trod enc Tryd.prog W 0 (fun _ => true) true 24 v0 d0 p0) (o0 : Value.okWide Tryd.prog W .any base 24 v0)
    (h1 : DataW.Trod enc Tryd.prog W 0 (fun _ => true) true 9 v1 d1 p1) (o1 : Value.okWide Tryd.prog W .any base 9 v1)
    (h2 : DataW.Trod enc Tryd.prog W 0 (fun _ => true) true 9 v2 d2 p2) (o2 : Value.okWide Tryd.prog W .any base 9 v2)
    (h3 : DataW.Trod enc Tryd.prog W 0 (fun _ => true) true 3 v3 d3 p3) (o3 : Value.okWide Tryd.prog W .any base 3 v3)
    (h4 : DataW.Trod enc Tryd.prog W 0 (fun _ => true) true 22 v4 d4 p4) (o4 : Value.okWide Tryd.prog W .any base 22 v4)
    (hk : Rows.uptoSmall H [d0, d1, d2, d3, d4] = true)
    : Calls Tryd.prog 3 #[v0, v1, v2, v3, v4] W fun e w' => e = .returned (.bool true) ∧ Below W.heap.size W w' := by
  obtain ⟨c0, c1, y0, y1, m, rfl, rfl, _, q0, q1⟩ := Go.Joins.open_agg2 Tryd.underlying24 (by kernel_rfl) (by kernel_rfl) o0 h0
  obtain ⟨n, e0, rfl, wn⟩ := DataW.trod_int Tryd.underlying22 q0
  obtain ⟨s, e1, rfl, ws⟩ := DataW.trod_string Tryd.underlying9 q1
  simp at e0 e1
  subst e0 e1
  obtain ⟨a1, rfl, rfl, rfl, w1⟩ := open_string Tryd.underlying9 o1 h1
  obtain ⟨a2, rfl, rfl, rfl, w2⟩ := open_string Tryd.underlying9 o2 h2
  obtain ⟨a3, rfl, rfl, rfl, w3⟩ := open_int Tryd.underlying3 o3 h3
  obtain ⟨a4, rfl, rfl, rfl, w4⟩ := open_int Tryd.underlying22 o4 h4
  have hb := of_decide_eq_true hk
  simp only [Rows.uptoBulkAll, Rows.uptoBulk] at hb
  have l1 : a1.data.toList.length = a1.size := Array.length_toList
  have l2 : a2.data.toList.length = a2.size := Array.length_toList
  rw [l1, l2] at hb
  have bn := bounds_u64 wn
  have b4 := bounds_u64 w4
  exact Lock.ends_any bn.1 (by unfold Lock.big64; omega) ws (by omega) (by omega) b4.1 (by unfold Lock.big64; omega)

set_option maxRecDepth 100000 in
theorem lifted (os : Os) (started : os.Started) (H : Type) (enc : TypeId × Value → H) (F : Stop.Interp) :
    ReturnsInHanded {} Tryd.checked os 3 .any ((Rows.OpenSpec.upto Rows.lockEndsSpec).preRow enc Tryd.prog Tryd.f3 Rows.lockEndsUptoRow.domain false Rows.lockEndsUptoRow.laid) (((Rows.OpenSpec.upto Rows.lockEndsSpec).at F).post enc Tryd.prog Tryd.f3 false true false false) := by
  refine returnsInHanded_of_row (C := Tryd.checked) (s := Rows.OpenSpec.upto Rows.lockEndsSpec) own started (by kernel_rfl) Tryd.func3
    (witness_row_at (enc := enc) (C := Tryd.checked) false (World.laidAll Tryd.prog os Rows.lockEndsUptoRow.laid) #[.agg #[.int .u64 0, .string .empty], .string .empty, .string .empty, .int .i64 0, .int .u64 0] (World.laidAll_os _ _ _) (by kernel_rfl) (by kernel_rfl) (by kernel_rfl)
      (OpenSpec.preRow_of_cond 8 (x := ([.agg [.lit (.int .u64 0), .lit (.string [])], .lit (.string []), .lit (.string []), .lit (.int .i64 0), .lit (.int .u64 0)], [], [])) (by kernel_rfl) (by kernel_rfl) (fun k hk => by cases hk; kernel_rfl) (by kernel_rfl) (by rw [MakeChecks.laidMetH_plain _ _ _ (by kernel_rfl)]; exact laidMet_laidAll _ (by kernel_rfl) (by kernel_rfl)))) ?_
  intro W base args ds gs before hval0 hW hcnd hkc _ hL _ _
  have hk := hkc _ rfl
  have hval : ∀ (j : Nat) t v, Tryd.f3.params[j]? = some t → args[j]? = some v → Value.okWide Tryd.prog W .any base t v := hval0
  have hW' := hW
  obtain ⟨p, q, hA0, hV, rfl, hfz, hnd⟩ := hW
  have hA : DataW.TrodAll enc Tryd.prog W 0 (fun _ => true) true Tryd.f3.params.toList args.toList ds p := hA0
  rw [Tryd.params3] at hA hval
  obtain ⟨v0, vs0, d0, ds0, p0, q0, hargs, rfl, rfl, h0, r0⟩ := trodAll_cons hA
  obtain ⟨v1, vs1, d1, ds1, p1, q1, rfl, rfl, rfl, h1, r1⟩ := trodAll_cons r0
  obtain ⟨v2, vs2, d2, ds2, p2, q2, rfl, rfl, rfl, h2, r2⟩ := trodAll_cons r1
  obtain ⟨v3, vs3, d3, ds3, p3, q3, rfl, rfl, rfl, h3, r3⟩ := trodAll_cons r2
  obtain ⟨v4, vs4, d4, ds4, p4, q4, rfl, rfl, rfl, h4, r4⟩ := trodAll_cons r3
  obtain ⟨rfl, rfl, rfl⟩ := trodAll_nil r4
  obtain rfl : args = #[v0, v1, v2, v3, v4] := by cases args; simp_all
  obtain ⟨rfl, rfl⟩ := trodVars_none hV
  have lt0 : ∀ x ∈ p0, x.block < W.heap.size := by obtain ⟨m, hm⟩ := h0; exact DataW.trod_lt m _ _ _ hm
  have lt1 : ∀ x ∈ p1, x.block < W.heap.size := by obtain ⟨m, hm⟩ := h1; exact DataW.trod_lt m _ _ _ hm
  have lt2 : ∀ x ∈ p2, x.block < W.heap.size := by obtain ⟨m, hm⟩ := h2; exact DataW.trod_lt m _ _ _ hm
  have lt3 : ∀ x ∈ p3, x.block < W.heap.size := by obtain ⟨m, hm⟩ := h3; exact DataW.trod_lt m _ _ _ hm
  have lt4 : ∀ x ∈ p4, x.block < W.heap.size := by obtain ⟨m, hm⟩ := h4; exact DataW.trod_lt m _ _ _ hm
  simp only [List.append_nil] at hk
  refine (walk enc W base v0 v1 v2 v3 v4 d0 d1 d2 d3 d4 p0 p1 p2 p3 p4 h0 (hval 0 24 v0 rfl rfl) h1 (hval 1 9 v1 rfl rfl) h2 (hval 2 9 v2 rfl rfl) h3 (hval 3 3 v3 rfl rfl) h4 (hval 4 22 v4 rfl rfl) hk).mono fun e W' ⟨he, bel⟩ => ?_
  subst he
  exact ⟨_, rfl, _, _, _, [], _, [], hW', trodAll_mk1 (shut_bool Tryd.underlying4 _), (trodAll_cons_mk (Below.trod laidOut (by kernel_rfl) (of_decide_eq_true (by kernel_rfl)) h0 bel lt0) (trodAll_cons_mk (Below.trod laidOut (by kernel_rfl) (of_decide_eq_true (by kernel_rfl)) h1 bel lt1) (trodAll_cons_mk (Below.trod laidOut (by kernel_rfl) (of_decide_eq_true (by kernel_rfl)) h2 bel lt2) (trodAll_cons_mk (Below.trod laidOut (by kernel_rfl) (of_decide_eq_true (by kernel_rfl)) h3 bel lt3) (trodAll_cons_mk (Below.trod laidOut (by kernel_rfl) (of_decide_eq_true (by kernel_rfl)) h4 bel lt4) trodAll_mk0))))), rfl, bel.frame _, fun h => by cases h⟩

theorem holds : Rows.LockEndsUptoSaid :=
  OpenClaim.holds_of_cond 3 Tryd.f3 rfl rfl rfl rfl rfl rfl rfl ⟨rfl, rfl, rfl, rfl, rfl⟩ rfl rfl rfl rfl rfl (by kernel_rfl) Tryd.func3 (by kernel_rfl)
    (of_decide_eq_true (by kernel_rfl)) (by unfold Func.isWrapper; first | (rw [if_pos (by decide +kernel)]; kernel_rfl) | (rw [if_neg (by decide +kernel)]; exact ⟨rfl, rfl⟩))
    (fun os started H enc _ F => by rw [OpenClaim.pre_eq_preRow]; exact lifted os started H enc F)
theorem proved : Rows.LockEndsUptoCardSaid :=
  Claim7.holds_tied_plain_at .later [] _ _ _ _ holds (fun _ h => by cases h) (by kernel_rfl) (fun _ h => by cases h) lockEndsUpto_row_tie rfl ⟨rfl, rfl⟩ (by kernel_rfl) rfl
    (fun f fn hf hfn => by
      obtain rfl : f = 3 := Option.some.inj ((show Tryd.prog.funcNamed "moothill/moothilllaw17.LockEnds" = some 3 by kernel_rfl).symm.trans hf) |>.symm
      obtain rfl : fn = Tryd.f3 := (Option.some.inj (Tryd.func3.symm.trans hfn)).symm
      exact ⟨by kernel_rfl, fun j t ht => by
        rw [Tryd.params3] at ht
        have hm : t ∈ [24, 9, 9, 3, 22] := by simpa using Array.mem_of_getElem? ht
        have hall : ([24, 9, 9, 3, 22].all fun u => !Tryd.prog.wantsStandIn u) = true := by kernel_rfl
        exact (show Tryd.prog.wantsStandIn t = false by simpa using List.all_eq_true.1 hall t hm)⟩)
    (by kernel_rfl)
#print axioms proved
end Go.Proofs.YtnkddjomanaadaaDoor.lockEnds
