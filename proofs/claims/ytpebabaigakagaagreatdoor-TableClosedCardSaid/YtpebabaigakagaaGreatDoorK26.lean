/- RefEx, TabJ, Row3, RegJ, TabQ, joined. -/
import Derived.Test.YtpebabaigakagaaGreatDoorK19
import Derived.Test.YtpebabaigakagaaGreatDoorK25
import Derived.Test.YtpebabaigakagaaGreatDoorK11
import Derived.Test.YtpebabaigakagaaGreatDoorK9
import Derived.Test.YtpebabaigakagaaGreatDoorK2
import Derived.Test.YtpebabaigakagaaGreatDoorK5
import Derived.Test.YtpebabaigakagaaGreatDoorK14
import Derived.Test.YtpebabaigakagaaGreatDoorK22
section
namespace Go.Proofs.YtpebabaigakagaaGreatDoor.Cmd
open Go.RowKit
open Path (bl rightB overB)
set_option linter.unusedSimpArgs false
set_option linter.unusedVariables false
attribute [-go_sem] run_eql_struct run_neq_struct run_eqGuard_agg

set_option maxRecDepth 100000 in
set_option maxHeartbeats 4000000 in
theorem hasR_any (w : World) : Calls Tryz.prog 27 #[] w fun e w' => e = .returned (.agg #[.bool false, .bool false, .bool false, .bool false, .bool false, .bool false, .bool true, .bool true, .bool false, .bool false, .bool true, .bool true, .bool true, .bool true, .bool false, .bool false, .bool false, .bool false, .bool true, .bool true, .bool false, .bool false, .bool false, .bool true, .bool true, .bool true, .bool true, .bool true, .bool false, .bool false, .bool true, .bool true, .bool true, .bool true, .bool false, .bool false, .bool true, .bool true, .bool true, .bool false, .bool false, .bool false, .bool true, .bool true, .bool true, .bool false, .bool true, .bool false, .bool true, .bool false, .bool false, .bool false, .bool false, .bool true]) ∧ Ext w w' := by
  have hA : At [] w [] w := At.start (L0 := []) trivial
  (try simp only [uA] at hA); have hF := hA.facts; (try simp only [fA, and_true, true_and] at hF)
  go_enter Tryz.func27, Tryz.ntmps27
  go_wp2_with (first | ((with_reducible refine gal ?_); refine wA 70 (.agg #[.bool false, .bool false, .bool false, .bool false, .bool false, .bool false, .bool false, .bool false, .bool false, .bool false, .bool false, .bool false, .bool false, .bool false, .bool false, .bool false, .bool false, .bool false, .bool false, .bool false, .bool false, .bool false, .bool false, .bool false, .bool false, .bool false, .bool false, .bool false, .bool false, .bool false, .bool false, .bool false, .bool false, .bool false, .bool false, .bool false, .bool false, .bool false, .bool false, .bool false, .bool false, .bool false, .bool false, .bool false, .bool false, .bool false, .bool false, .bool false, .bool false, .bool false, .bool false, .bool false, .bool false, .bool false]) [.bool false, .bool false, .bool false, .bool false, .bool false, .bool false, .bool false, .bool false, .bool false, .bool false, .bool false, .bool false, .bool false, .bool false, .bool false, .bool false, .bool false, .bool false, .bool false, .bool false, .bool false, .bool false, .bool false, .bool false, .bool false, .bool false, .bool false, .bool false, .bool false, .bool false, .bool false, .bool false, .bool false, .bool false, .bool false, .bool false, .bool false, .bool false, .bool false, .bool false, .bool false, .bool false, .bool false, .bool false, .bool false, .bool false, .bool false, .bool false, .bool false, .bool false, .bool false, .bool false, .bool false, .bool false] hA ?_; clear hF hA; intro bH w1 hA hbH; (try simp only [uA] at hA); have hF := hA.facts; (try simp only [fA, and_true, true_and] at hF)) | ((with_reducible refine gst ?_); refine wS hA ?_; clear hF hA; intro w1 hA; (try simp only [uA] at hA); have hF := hA.facts; (try simp only [fA, and_true, true_and] at hF)) | ((with_reducible refine gbx ?_); refine wB hA ?_; clear hF hA; intro b1 w1 hA hb1; (try simp only [uA] at hA); have hF := hA.facts; (try simp only [fA, and_true, true_and] at hF)))
  have hg : BlockIs w1 bH _ 70 := hA.get (A := Part.cells bH _ 70) sR
  unfold BlockIs at hg
  clear hF
  exact bodyPost_ret (Go.results_cell_row (h := rfl) _ _ bH _ _ _ _ rfl hg Tryz.underlying70 rfl (by kernel_rfl)) rfl ⟨rfl, hA.toExt⟩

set_option maxRecDepth 100000 in
set_option maxHeartbeats 4000000 in
theorem rightR_8 (num : Int) (foot : ByteArray) (req : Int) (path : ByteArray) (mode n time : Int) (w : World) {nr np nm nn rf t0 t1 : Bool} (hnr : (req != 0) = nr) (hnp : if np then ¬ path.toList = [] else path.toList = []) (hnm : (mode != 0) = nm) (hnn : (n != 0) = nn) (hf : foot.size ≤ 1000) (hrf0 : rightB (bl foot) = rf) (ht0 : decide (0 ≤ time) = t0) (ht1 : decide (time ≤ 1099511627776) = t1) :
    Calls Tryz.prog 11 #[.agg #[.int .i64 8, .int .u64 num, .string foot, .int .u64 req, .string path, .int .i64 mode, .int .u64 n, .int .i64 time]] w fun e w' => e = .returned (.bool (!nr && !np && !nm && !nn && rf && (t0 && t1))) ∧ Ext w w' := by
  have hA : At [] w [] w := At.start (L0 := []) trivial
  have hF := hA.facts
  have hh := fun w => hasR_any w
  have hix : ∀ w, (Instr.index 70 (.agg #[.bool false, .bool false, .bool false, .bool false, .bool false, .bool false, .bool true, .bool true, .bool false, .bool false, .bool true, .bool true, .bool true, .bool true, .bool false, .bool false, .bool false, .bool false, .bool true, .bool true, .bool false, .bool false, .bool false, .bool true, .bool true, .bool true, .bool true, .bool true, .bool false, .bool false, .bool true, .bool true, .bool true, .bool true, .bool false, .bool false, .bool true, .bool true, .bool true, .bool false, .bool false, .bool false, .bool true, .bool true, .bool true, .bool false, .bool true, .bool false, .bool true, .bool false, .bool false, .bool false, .bool false, .bool true]) (.int .i64 8)).run Tryz.prog w = .ok (.agg #[.bool true, .bool false, .bool false, .bool false, .bool false, .bool true]) w := fun w => by kernel_rfl
  have hrf := fun w => Path.rightR_any foot w (by omega)
  rw [hrf0] at hrf
  clear hrf0
  (try simp only [uA] at hA); have hF := hA.facts; (try simp only [fA, and_true, true_and] at hF)
  go_enter Tryz.func11, Tryz.ntmps11
  go_wp2_with (first | ((with_reducible refine gbx ?_); refine wX 31 (.agg #[.int .i64 8, .int .u64 num, .string foot, .int .u64 req, .string path, .int .i64 mode, .int .u64 n, .int .i64 time]) [.int .i64 8, .int .u64 num, .string foot, .int .u64 req, .string path, .int .i64 mode, .int .u64 n, .int .i64 time] hA ?_; clear hF hA; intro bX w1 hA hbX; (try simp only [uA] at hA); have hF := hA.facts; (try simp only [fA, and_true, true_and] at hF)) | ((with_reducible refine gst ?_); refine wS hA ?_; clear hF hA; intro w1 hA; (try simp only [uA] at hA); have hF := hA.facts; (try simp only [fA, and_true, true_and] at hF)) | ((with_reducible refine gbx ?_); refine wB hA ?_; clear hF hA; intro b1 w1 hA hb1; (try simp only [uA] at hA); have hF := hA.facts; (try simp only [fA, and_true, true_and] at hF)))
  try go_frame
  (refine wp_region_new (a1 := ?a1_q6) (v := ?v_q6) 4 3 69 _ (.agg #[.bool false, .bool false, .bool false, .bool false, .bool false, .bool false]) [.bool false, .bool false, .bool false, .bool false, .bool false, .bool false] ([.bool true, .bool false, .bool false, .bool false, .bool false, .bool true]) (by kernel_rfl) (by kernel_rfl) rfl rfl ?hyd_q6 (by kernel_rfl) rfl hA ?h1_q6 ?hd_q6 ?hy_q6 ?hu_q6 ?hsz_q6 ?hus_q6 ?hl_q6 ?h2_q6); (case h1_q6 => (intro R wR hR; (try clear hF); (simp only [List.take_succ_cons, List.take_zero, List.drop_succ_cons, List.drop_zero]); (have hn1 := Cl.none hR); (have hn2 := Cl.none2 hR); (repeat (first | go_big_quiet_skip | (go_big_quiet_want; (first | (refine quiet_load_at rfl rfl sR (by kernel_rfl) (by first | assumption | exact rfl) ?_; go_frame; go_big_quiet_on) | (go_big_quiet_op; (first | go_big_quiet_on | ((apply Exists.intro); (refine ⟨fun w1 hw => ?_, ?_⟩); (focus ((have hw := Cl.out hw); (first | exact through0 hw (hh _)))); (go_big_quiet_on)))))))); (refine wpQuiet_nil ?_); exact rfl)); (case hyd_q6 => rfl); (case hd_q6 => (first | decide | simp)); (case hy_q6 => ((try simp only [Act.eval, Array.getD_eq_getD_getElem?, List.getElem?_toArray, List.getElem?_cons_succ, List.getElem?_cons_zero, Option.getD_some]); exact rfl)); (case hu_q6 => exact rfl); (case hsz_q6 => kernel_rfl); (case hus_q6 => rfl); (case hl_q6 => rfl); (intro b1 w1 hB hb1; clear hF hA; have hA := hB; clear hB; (simp only [List.drop_succ_cons, List.drop_zero]); (try simp only [uA] at hA); have hF := hA.facts; (try simp only [fA, and_true, true_and] at hF); (try go_frame))
  clear hh hix
  cases nr
  · cases np
    · simp only [Bool.false_eq_true, if_false] at hnp
      cases nm
      · cases nn
        · go_wp2_with (first | ((with_reducible refine gst ?_); refine wS hA ?_; clear hF hA; intro w1 hA; (try simp only [uA] at hA); have hF := hA.facts; (try simp only [fA, and_true, true_and] at hF)) | ((with_reducible refine gbx ?_); refine wB hA ?_; clear hF hA; intro b1 w1 hA hb1; (try simp only [uA] at hA); have hF := hA.facts; (try simp only [fA, and_true, true_and] at hF)))
          refine (hrf _).mono ?_
          rintro e w4 ⟨rfl, hx⟩
          have hB := hA.ext hx
          clear hF hA hx; have hA := hB; clear hB
          (try simp only [uA] at hA); have hF := hA.facts; (try simp only [fA, and_true, true_and] at hF)
          cases rf
          · go_wp2_with (first | ((with_reducible refine gst ?_); refine wS hA ?_; clear hF hA; intro w1 hA; (try simp only [uA] at hA); have hF := hA.facts; (try simp only [fA, and_true, true_and] at hF)) | ((with_reducible refine gbx ?_); refine wB hA ?_; clear hF hA; intro b1 w1 hA hb1; (try simp only [uA] at hA); have hF := hA.facts; (try simp only [fA, and_true, true_and] at hF)))
            go_ret
            exact ⟨rfl, hA.toExt⟩
          · cases t0
            · go_wp2_with (first | ((with_reducible refine gst ?_); refine wS hA ?_; clear hF hA; intro w1 hA; (try simp only [uA] at hA); have hF := hA.facts; (try simp only [fA, and_true, true_and] at hF)) | ((with_reducible refine gbx ?_); refine wB hA ?_; clear hF hA; intro b1 w1 hA hb1; (try simp only [uA] at hA); have hF := hA.facts; (try simp only [fA, and_true, true_and] at hF)))
              go_ret
              exact ⟨rfl, hA.toExt⟩
            · cases t1
              · go_wp2_with (first | ((with_reducible refine gst ?_); refine wS hA ?_; clear hF hA; intro w1 hA; (try simp only [uA] at hA); have hF := hA.facts; (try simp only [fA, and_true, true_and] at hF)) | ((with_reducible refine gbx ?_); refine wB hA ?_; clear hF hA; intro b1 w1 hA hb1; (try simp only [uA] at hA); have hF := hA.facts; (try simp only [fA, and_true, true_and] at hF)))
                go_ret
                exact ⟨rfl, hA.toExt⟩
              · go_wp2_with (first | ((with_reducible refine gst ?_); refine wS hA ?_; clear hF hA; intro w1 hA; (try simp only [uA] at hA); have hF := hA.facts; (try simp only [fA, and_true, true_and] at hF)) | ((with_reducible refine gbx ?_); refine wB hA ?_; clear hF hA; intro b1 w1 hA hb1; (try simp only [uA] at hA); have hF := hA.facts; (try simp only [fA, and_true, true_and] at hF)))
                go_ret
                exact ⟨rfl, hA.toExt⟩
        · go_wp2_with (first | ((with_reducible refine gst ?_); refine wS hA ?_; clear hF hA; intro w1 hA; (try simp only [uA] at hA); have hF := hA.facts; (try simp only [fA, and_true, true_and] at hF)) | ((with_reducible refine gbx ?_); refine wB hA ?_; clear hF hA; intro b1 w1 hA hb1; (try simp only [uA] at hA); have hF := hA.facts; (try simp only [fA, and_true, true_and] at hF)))
          go_ret
          exact ⟨rfl, hA.toExt⟩
      · go_wp2_with (first | ((with_reducible refine gst ?_); refine wS hA ?_; clear hF hA; intro w1 hA; (try simp only [uA] at hA); have hF := hA.facts; (try simp only [fA, and_true, true_and] at hF)) | ((with_reducible refine gbx ?_); refine wB hA ?_; clear hF hA; intro b1 w1 hA hb1; (try simp only [uA] at hA); have hF := hA.facts; (try simp only [fA, and_true, true_and] at hF)))
        go_ret
        exact ⟨rfl, hA.toExt⟩
    · simp only [if_true] at hnp
      go_wp2_with (first | ((with_reducible refine gst ?_); refine wS hA ?_; clear hF hA; intro w1 hA; (try simp only [uA] at hA); have hF := hA.facts; (try simp only [fA, and_true, true_and] at hF)) | ((with_reducible refine gbx ?_); refine wB hA ?_; clear hF hA; intro b1 w1 hA hb1; (try simp only [uA] at hA); have hF := hA.facts; (try simp only [fA, and_true, true_and] at hF)))
      go_ret
      exact ⟨rfl, hA.toExt⟩
  · go_wp2_with (first | ((with_reducible refine gst ?_); refine wS hA ?_; clear hF hA; intro w1 hA; (try simp only [uA] at hA); have hF := hA.facts; (try simp only [fA, and_true, true_and] at hF)) | ((with_reducible refine gbx ?_); refine wB hA ?_; clear hF hA; intro b1 w1 hA hb1; (try simp only [uA] at hA); have hF := hA.facts; (try simp only [fA, and_true, true_and] at hF)))
    go_ret
    exact ⟨rfl, hA.toExt⟩

end Go.Proofs.YtpebabaigakagaaGreatDoor.Cmd
end

section
namespace Go.Proofs.YtpebabaigakagaaGreatDoor.Tab
open Go.RowKit
open Path (bl rightB overB aboveB)
open Lease (Ses Ans fresh Turned)
open Lock (S3 Ent)
open Cmd (Cm rightC)
set_option linter.unusedSimpArgs false
set_option linter.unusedVariables false
attribute [-go_sem] run_eql_struct run_neq_struct run_eqGuard_agg

theorem below_old {w w' : World} {L F : List Part} (h : At [Part.old w] w L w') (s : Sel (Part.old w) L F) : Below w.heap.size w w' := by
  have ho : (Part.old w).holds w' := h.get s
  exact ⟨h.exc.os, h.exc.tape, h.exc.output, h.exc.size, fun b hb => ho b hb⟩

section
variable {w : World} {t p m : Nat} {ss : List Ses} {b : Lock.Bk} (h : Sep [TabP t p m ss b] w)
include h
theorem tinfo_any {n : Int} {f : ByteArray} (h0 : 0 ≤ n) (h1 : n < Lease.big64) (hf : f.size ≤ maxLen) :
    Calls Tryz.prog 14 #[.pointer (some ⟨p, 0, none⟩), .agg #[.int .u64 n, .string f]] w fun e w' => e = .returned ((Lease.look ss n f).info) ∧ At [TabP t p m ss b] w [TabP t p m ss b] w' := by
  have hA := tab_begin h
  refine (Lease.info_any (hA.sep1 (A := Lease.BookP p m ss) sZ) h0 h1 hf).mono ?_
  rintro e w1 ⟨rfl, hT⟩
  have hB := hA.call1 (A := Lease.BookP p m ss) sZ hT
  simp only [List.cons_append, List.nil_append] at hB
  exact ⟨rfl, tab_close (hB.pick pZ)⟩
theorem tlist_any {k : Nat} (hi : Lock.Inv b.st k) (hk : k ≤ 1000000) :
    Calls Tryz.prog 16 #[.pointer (some ⟨b.p, 0, none⟩)] w fun e w' => ∃ (v : Value) (l : List Ent), e = .returned v ∧ l.Perm b.es ∧ At [TabP t p m ss b] w [Lock.rowL v l, TabP t p m ss b] w' := by
  have hA := tab_begin h
  refine (Lock.list_any (hA.sep1 (A := Lock.BookP b) sZ) hi.sortable (Nat.le_trans hi.len hk) (fun x hx => Nat.le_trans (hi.path x hx) (by omega))).mono ?_
  rintro e w1 ⟨v, l, rfl, hp, _, hT⟩
  have hB := hA.call1 (A := Lock.BookP b) sZ hT
  simp only [List.cons_append, List.nil_append] at hB
  exact ⟨v, l, rfl, hp, (tab_in (ss := ss) hB sZ sZ sZ).pick pZ⟩
theorem tfind_any {q : ByteArray} {n : Int} {f : ByteArray} (hq : q.size ≤ maxLen) (h0 : 0 ≤ n) (h1 : n < Lock.big64) (hf : f.size ≤ maxLen) :
    Calls Tryz.prog 18 #[.pointer (some ⟨b.p, 0, none⟩), .string q, .agg #[.int .u64 n, .string f]] w fun e w' => e = .returned (.tuple #[((Lock.find b.es q n f).getD Lock.nullE).val, .bool (Lock.find b.es q n f).isSome]) ∧ At [TabP t p m ss b] w [TabP t p m ss b] w' := by
  have hA := tab_begin h
  have hc : Calls Tryz.prog 18 #[.pointer (some ⟨b.p, 0, none⟩), .string q, .agg #[.int .u64 n, .string f]] w fun e w' => e = .returned (.tuple #[((Lock.find b.es q n f).getD Lock.nullE).val, .bool (Lock.find b.es q n f).isSome]) ∧ At [Lock.BookP b] w [Lock.BookP b] w' := by
    cases hx : Lock.find b.es q n f with
    | none => exact Lock.find_no (hA.sep1 (A := Lock.BookP b) sZ) hq h0 h1 hf hx
    | some x => exact Lock.find_yes (hA.sep1 (A := Lock.BookP b) sZ) hq h0 h1 hf hx
  refine hc.mono ?_
  rintro e w1 ⟨rfl, hT⟩
  have hB := hA.call1 (A := Lock.BookP b) sZ hT
  simp only [List.cons_append, List.nil_append] at hB
  exact ⟨rfl, tab_close (hB.pick pZ)⟩
end
/-- a command, as any value of its type is -/
structure CmV (c : Cm) : Prop where
  num : 0 ≤ c.num ∧ c.num < Lease.big64
  foot : c.foot.size ≤ maxLen
  path : c.path.size ≤ maxLen
  req : 0 ≤ c.req ∧ c.req < Lease.big64
  n0 : 0 ≤ c.n
theorem small_in {l : List Cm} {k : Nat} (h : smallB l k = true) (hv : ∀ c ∈ l, CmV c) : l.length ≤ k ∧ ∀ c ∈ l, CmIn c := by
  unfold smallB at h
  rw [Bool.and_eq_true, List.all_eq_true, decide_eq_true_eq] at h
  refine ⟨by omega, fun c hc => ?_⟩
  have h1 := h.1 c hc
  simp only [okS, Bool.and_eq_true, Bool.not_eq_true', decide_eq_false_iff_not] at h1
  exact ⟨⟨(hv c hc).num, by omega, by omega⟩, (hv c hc).req.1, (hv c hc).req.2, (hv c hc).n0⟩
def expC (num : Int) (foot : ByteArray) (time : Int) : Cm := ⟨8, num, foot, 0, .empty, 0, 0, time⟩
def expR (foot : ByteArray) (time : Int) : Bool := rightB (bl foot) && (decide (0 ≤ time) && decide (time ≤ 1099511627776))
theorem exp_right (num : Int) (foot : ByteArray) (time : Int) : rightC (expC num foot time) = expR foot time := by
  unfold expR
  by_cases h0 : 0 ≤ time <;> by_cases h1 : time ≤ 1099511627776 <;> simp [rightC, expC, Cmd.hasOf, Cmd.rightH, Cmd.bareC, Bool.and_assoc, h0, h1]
theorem exp_apply {T : TS} {num : Int} {foot : ByteArray} {time : Int} (h : expR foot time = true) : applyT T (expC num foot time) = (endT T (expC num foot time) (Lease.expB (lookA T.S num foot) time), ansE (Lease.expB (lookA T.S num foot) time)) := by
  unfold applyT
  rw [exp_right, h, if_neg (by simp [expC]), if_pos (show (expC num foot time).kind = 8 from rfl)]
  rfl
theorem right8_any (num : Int) (foot : ByteArray) (time : Int) (hf : foot.size ≤ 1000) (w : World) : Calls Tryz.prog 11 #[.agg #[.int .i64 8, .int .u64 num, .string foot, .int .u64 0, .string .empty, .int .i64 0, .int .u64 0, .int .i64 time]] w fun e w' => e = .returned (.bool (expR foot time)) ∧ Ext w w' :=
  (Cmd.rightR_8 num foot 0 .empty 0 0 time w (nr := false) (np := false) (nm := false) (nn := false) rfl (by simp only [Bool.false_eq_true, if_false]; first | rfl | decide | kernel_rfl | simp) rfl rfl hf rfl rfl rfl).mono fun e w' ⟨he, hx⟩ => ⟨he, hx⟩
end Go.Proofs.YtpebabaigakagaaGreatDoor.Tab
end

section
namespace Go.Proofs.YtpebabaigakagaaGreatDoor
open Go.RowKit
set_option linter.unusedVariables false
set_option linter.unnecessarySimpa false
set_option linter.unusedSimpArgs false

theorem setL_mid : ∀ (vs p q r : List Value), q.length = vs.length → setL (p ++ (q ++ r)) p.length vs = p ++ (vs ++ r)
  | [], p, q, r, h => by
    have : q = [] := List.eq_nil_of_length_eq_zero (by simpa using h)
    subst this
    rfl
  | v :: vs, p, [], r, h => by simp at h
  | v :: vs, p, y :: q, r, h => by
    rw [setL]
    have e : (p ++ (y :: q ++ r)).set p.length v = (p ++ [v]) ++ (q ++ r) := by
      rw [List.set_append_right _ _ (Nat.le_refl _)]
      simp
    have := setL_mid vs (p ++ [v]) q r (by simpa using h)
    rw [List.length_append] at this
    rw [e]
    simp only [List.length_cons, List.length_nil, Nat.zero_add] at this
    rw [this]
    simp
theorem flat_set {α : Type} (enc : α → List Value) (size : Nat) (hs : ∀ x, (enc x).length = size) (l : List α) (i : Nat) (hi : i < l.length) (x : α) : setL (l.flatMap enc) (i * size) (enc x) = (l.set i x).flatMap enc := by
  have e1 : l = l.take i ++ l[i] :: l.drop (i + 1) := by rw [← List.drop_eq_getElem_cons hi, List.take_append_drop]
  have hl : (l.take i).length = i := by rw [List.length_take]; omega
  have e2 : l.set i x = l.take i ++ x :: l.drop (i + 1) := by
    rw [List.set_eq_take_append_cons_drop, if_pos hi]
  have e3 : l.flatMap enc = (l.take i).flatMap enc ++ (enc l[i] ++ (l.drop (i + 1)).flatMap enc) := by
    have := congrArg (fun m => m.flatMap enc) e1
    simp only [List.flatMap_append, List.flatMap_cons] at this
    exact this
  have hf : ((l.take i).flatMap enc).length = i * size := by rw [flat_len enc size hs, hl]
  rw [e2, e3, ← hf, setL_mid _ _ _ _ (by rw [hs, hs])]
  simp
theorem take_setL : ∀ (vs c : List Value) (o m : Nat), (setL c o vs).take m = setL (c.take m) o vs
  | [], _, _, _ => rfl
  | v :: vs, c, o, m => by rw [setL, setL, take_setL vs, List.take_set]
theorem take_setL_low : ∀ (vs c : List Value) (o m : Nat), m ≤ o → (setL c o vs).take m = c.take m
  | [], _, _, _, _ => rfl
  | v :: vs, c, o, m, h => by rw [setL, take_setL_low vs _ _ _ (by omega), List.take_set_of_le h]
/-- an element is written -/
theorem write_row {α : Type} {enc : α → List Value} {size : Nat} (hs : ∀ x, (enc x).length = size) {c : List Value} {l : List α} (ht : c.take (l.length * size) = l.flatMap enc) {i : Nat} (hi : i < l.length) (x : α) :
    (setL c (i * size) (enc x)).take ((l.set i x).length * size) = (l.set i x).flatMap enc := by
  rw [List.length_set, take_setL, ht, flat_set enc size hs l i hi]

section
variable {P : Program} {ops : Array Oper} {rest : List Oper} {o : Oper} {a : Act} {Q : Exit → Act → World → Prop} {L0 L F : List Part} {w0 w : World} {e : TypeId}
theorem run_clear_many (w : World) (t e ty : TypeId) (z : Value) (ht : P.underlying t = some (.slice e)) (hv : ∀ w, (zeroValue e).run P w = .ok z w) (m : Nat) (hm : 0 < m) (h1 : ∀ v ∈ (Builtin.zeroCells z.cells m).toList, v.oneCell' = true) (b o c : Nat)
    (hc : ∀ j, j < m * z.cells.size → (w.cell? ⟨b, o + j, none⟩).isSome = true) (hf : ∀ j, j < m * z.cells.size → w.frozen? ⟨b, o + j, none⟩ = false) :
    (Builtin.clear_ #[t] ty #[.slice (some ⟨b, o, none⟩) m c]).run P w = .ok (.tuple #[]) (w.setCells b o (Builtin.zeroCells z.cells m).toList) := by
  have hl : (Builtin.zeroCells z.cells m).toList.length = m * z.cells.size := by simp [Builtin.zeroCells]
  have hst := run_storeCells_cells (P := P) b o (Builtin.zeroCells z.cells m).toList 0 w (by intro j hj; simpa using hc j (by omega)) (by intro j hj; simpa using hf j (by omega)) h1
  simp only [Nat.add_zero] at hst
  obtain ⟨m, rfl⟩ : ∃ m', m = m' + 1 := ⟨m - 1, by omega⟩
  simp [Builtin.clear_, run_underlying ht, hv, hst]
theorem zero_ones (z : Value) (h : ∀ u ∈ z.cells.toList, u.oneCell' = true) (h0 : 0 < z.cells.size) (m : Nat) : ∀ v ∈ (Builtin.zeroCells z.cells m).toList, v.oneCell' = true := by
  intro v hv
  simp only [Builtin.zeroCells, Array.toList_map, List.mem_map] at hv
  obtain ⟨j, _, rfl⟩ := hv
  have hj : j % z.cells.size < z.cells.size := Nat.mod_lt _ h0
  rw [getElem!_pos z.cells (j % z.cells.size) hj]
  exact h _ (by rw [Array.mem_toList_iff]; exact Array.getElem_mem hj)
/-- the end of a row is cleared -/
theorem wpList_clear_at {t : TypeId} {x : Operand} {z : Value} {b off m cp : Nat} {c : List Value} {T : TypeId} (hg : o.guard = none) (hop : o.op = .call { callee := .builtin .clear, args := #[x], argTypes := #[t] }) (ht : P.underlying t = some (.slice e)) (hv : ∀ w, (zeroValue e).run P w = .ok z w)
    (h1 : ∀ u ∈ z.cells.toList, u.oneCell' = true) (h0 : 0 < z.cells.size) (hx : a.eval x = .slice (some ⟨b, off, none⟩) m cp) (hm : 0 < m) (h : At L0 w0 L w) (s : Sel (Part.cells b c T) L F) (hl : off + m * z.cells.size ≤ c.length)
    (hK : ∀ c' w', c'.length = c.length → c'.take off = c.take off → At L0 w0 (Part.cells b c' T :: F) w' → wpList P ops Q rest (a.put o.dst (.tuple #[])) w') : wpList P ops Q (o :: rest) a w := by
  have hb : BlockIs w b c T := h.get s
  have hrun := run_clear_many (P := P) w t e o.type z ht hv m hm (zero_ones z h1 h0 m) b off cp (fun j hj => by rw [hb.cell, List.getElem?_eq_getElem (by omega)]; rfl) (fun j hj => hb.free _)
  refine wpList_val hg ?_ (hK _ _ (setL_length _ _ _) (take_setL_low _ _ _ _ (Nat.le_refl _)) (h.stores s off (Builtin.zeroCells z.cells m).toList))
  simp [execOp, hop, resolve, invoke, builtin, hx, hrun, Result.andThen]
end
end Go.Proofs.YtpebabaigakagaaGreatDoor
end

section
namespace Go
open _root_.Go.Proofs.YtpebabaigakagaaGreatDoor
open Go.RowKit
set_option linter.unusedVariables false
set_option linter.unusedSimpArgs false

section
variable {P : Program} {ops : Array Oper} {rest : List Oper} {o : Oper} {a : Act} {Q : Exit → Act → World → Prop} {L0 L F : List Part} {w0 w : World}
/-- a row of no element is laid -/
theorem wpList_zero_at {t : TypeId} {e : TypeId} (size : Nat) (hg : o.guard = none) (hop : o.op = .buildSlice t 0 #[])
    (hrun : ∀ w, (Instr.buildSlice t 0 #[]).run P w = .ok (.slice (some ⟨w.heap.size, 0, none⟩) 0 0) (w.alloc (.cells #[] e))) (h : At L0 w0 L w)
    (hK : ∀ b w', At L0 w0 (Part.row e size (.slice (some ⟨b, 0, none⟩) 0 0) 0 [] :: L) w' → wpList P ops Q rest (a.put o.dst (.slice (some ⟨b, 0, none⟩) 0 0)) w') : wpList P ops Q (o :: rest) a w := by
  refine wpList_val hg (v := .slice (some ⟨w.heap.size, 0, none⟩) 0 0) (w' := w.alloc (.cells #[] e)) (by simp [execOp, hop, hrun, Result.andThen]) (hK _ _ ?_)
  refine h.new ((Ext.refl w).alloc _) _ ⟨by simp, .inr ⟨w.heap.size, 0, #[], rfl, Nat.zero_le _, heap_alloc_new w _, Nat.le_refl _, Nat.zero_le _, by simp, by simp⟩⟩ (fun b hb => ?_)
  have hb2 : (Value.slice (some ⟨w.heap.size, 0, none⟩) 0 0).ownBlock = some b := hb
  cases hb2
  exact Nat.le_refl _
/-- an element loaded whole -/
theorem opLoadRow_at {i : Nat} {d : Option Tmp} {o : Oper} {a : Act} {K : Act → World → Prop} (ho : ops[i]? = some o) (hd : o.dst = d) (hw : Region.wanted o (yielded ops a.tmps) = true) {ty : TypeId} {x : Operand} (hop : o.op = .load ty x) {b j : Nat} (hx : a.eval x = .pointer (some ⟨b, j, none⟩)) {c : List Value} {T : TypeId} (h : At L0 w0 L w) (s : Sel (Part.cells b c T) L F)
    (hu : (P.underlying ty).map (·.isRow) = some true) {n : Nat} (hi : (P.info? ty).map (·.size) = some n) {vs : List Value} (hv : (c.drop j).take n = vs) (hl : vs.length = n)
    (hK : K (a.put d (.agg vs.toArray)) w) : wpOp P ops Q i K a w := by
  subst hd
  have hr := run_load_row (P := P) (o := o) (a := a) hop hx (h.get s) hu hi hv hl
  exact wpOp_val ho hw (v := .agg vs.toArray) (w' := w) hr hK
end
end Go
namespace Go.Proofs.YtpebabaigakagaaGreatDoor
open Go.RowKit
theorem through1 {L0 L F : List Part} {w0 w : World} {A : Part} {P : Program} {f : FuncId} {args : Array Value} {v : Value} (s : Sel A L F) (h : At L0 w0 L w) (hc : ∀ w1, Sep [A] w1 → Calls P f args w1 fun e w' => e = .returned v ∧ At [A] w1 [A] w') :
    Calls P f args w fun e w' => e = .returned v ∧ At L0 w0 L w' := h.through (Eqv.perm s.perm) (hc w)
/-- the same, behind the call -/
theorem thr1 {L0 L F : List Part} {w0 w w' : World} {A : Part} (s : Sel A L F) (h : At L0 w0 L w) (hT : At [A] w [A] w') : At L0 w0 L w' :=
  ((h.to (Eqv.perm s.perm)).frame (K := [A]) hT).to (Eqv.perm s.perm).symm
end Go.Proofs.YtpebabaigakagaaGreatDoor
end

section
namespace Go.Proofs.YtpebabaigakagaaGreatDoor.Tab
open Go.RowKit
open Path (bl rightB overB aboveB)
open Lease (Ses Ans fresh Turned)
open Lock (S3 Ent)
open Cmd (Cm rightC)
set_option linter.unusedSimpArgs false
set_option linter.unusedVariables false
attribute [-go_sem] run_eql_struct run_neq_struct run_eqGuard_agg

theorem guardAn (op : BinOp) (x y : Operand) (c1 c2 c3 d1 d2 d3 : Value) (w : World) : (eqGuard op 48 x y (.agg #[c1, c2, c3]) (.agg #[d1, d2, d3])).run Tryz.prog w = .ok () w := run_eqGuard_agg _ _ _ _ _ _ _ (by kernel_rfl)
theorem sameAn (a b : Int) (c : Bool) (w : World) : (Op.equalIn 10000 48 (.agg #[.int .i64 a, .int .u64 b, .bool c]) (.agg #[.int .i64 a, .int .u64 b, .bool c])).run Tryz.prog w = .ok true w := by
  rw [run_equalIn_agg _ 9999 _ _ _ (by kernel_rfl) (by kernel_rfl)]
  simp [go_sem, Op.eqFields]
theorem neqAn (a b : Int) (c : Bool) (w : World) : (binOp .neq 48 (.agg #[.int .i64 a, .int .u64 b, .bool c]) (.agg #[.int .i64 a, .int .u64 b, .bool c])).run Tryz.prog w = .ok (.bool false) w := by
  rw [run_neq_struct, sameAn]; rfl
theorem eqlAn (a b : Int) (c : Bool) (w : World) : (binOp .eql 48 (.agg #[.int .i64 a, .int .u64 b, .bool c]) (.agg #[.int .i64 a, .int .u64 b, .bool c])).run Tryz.prog w = .ok (.bool true) w := by
  rw [run_eql_struct, sameAn]; rfl
theorem guardSe (op : BinOp) (x y : Operand) (a c : Int) (f g : ByteArray) (w : World) : (eqGuard op 25 x y (.agg #[.int .u64 a, .string f]) (.agg #[.int .u64 c, .string g])).run Tryz.prog w = .ok () w := run_eqGuard_agg _ _ _ _ _ _ _ (by kernel_rfl)
theorem neqSe (a c : Int) (f g : ByteArray) (w : World) : (binOp .neq 25 (.agg #[.int .u64 a, .string f]) (.agg #[.int .u64 c, .string g])).run Tryz.prog w = .ok (.bool (!decide (a = c ∧ f = g))) w := by
  rw [run_neq_struct, Lock.sameS]; rfl
theorem eqlSe (a c : Int) (f g : ByteArray) (w : World) : (binOp .eql 25 (.agg #[.int .u64 a, .string f]) (.agg #[.int .u64 c, .string g])).run Tryz.prog w = .ok (.bool (decide (a = c ∧ f = g))) w := by
  rw [run_eql_struct, Lock.sameS]; rfl
theorem row_at {α : Type} {enc : α → List Value} {size : Nat} (hs : ∀ x, (enc x).length = size) (h0 : 0 < size) {E : TypeId} {v : Value} {l : List α} {w : World} (h : (Part.row E size v l.length (l.flatMap enc)).holds w) {i : Nat} {x : α} (hx : l[i]? = some x) :
    ∃ b0 o0 cap, v = .slice (some ⟨b0, o0, none⟩) l.length cap ∧ ∀ (k : Nat) u, (enc x)[k]? = some u → w.cell? ⟨b0, o0 + i * size + k, none⟩ = some u := by
  obtain ⟨ax, c, e, _, hr⟩ := own_reads h
  have hf : ∀ k, k < size → ∀ u, (enc x)[k]? = some u → ∃ b off, ax = some ⟨b, off, none⟩ ∧ w.cell? ⟨b, off + (i * size + k), none⟩ = some u := fun k hk u hu => by
    have := flat_at enc size hs l i x hx k hk
    rw [hu] at this
    exact hr (i * size + k) u this
  have hlt : ∀ {k : Nat} {u}, (enc x)[k]? = some u → k < size := fun hu => by
    have := (List.getElem?_eq_some_iff.1 hu).1
    rwa [hs] at this
  obtain ⟨u0, hu0⟩ : ∃ u, (enc x)[0]? = some u := ⟨_, List.getElem?_eq_getElem (by rw [hs]; exact h0)⟩
  obtain ⟨b, off, e2, _⟩ := hf 0 h0 u0 hu0
  subst e2
  refine ⟨b, off, c, e, fun k u hu => ?_⟩
  obtain ⟨b', off', e3, hc⟩ := hf k (hlt hu) u hu
  cases e3
  rw [Nat.add_assoc]
  exact hc
end Go.Proofs.YtpebabaigakagaaGreatDoor.Tab
end
