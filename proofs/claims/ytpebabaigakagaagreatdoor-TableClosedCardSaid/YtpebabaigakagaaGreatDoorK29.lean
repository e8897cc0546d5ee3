/- ClashC, TabR, TabO, joined. -/
import Derived.Test.YtpebabaigakagaaGreatDoorK28
import Derived.Test.YtpebabaigakagaaGreatDoorK26
import Derived.Deep.Slices
import Derived.DataReads
import Derived.OpenShut
import Derived.Lib.SmallJoins
section
namespace Go.Proofs.YtpebabaigakagaaGreatDoor.Cmd
open Go.RowKit
open Path (bl rightB overB)
set_option linter.unusedSimpArgs false
set_option linter.unusedVariables false
attribute [-go_sem] run_eql_struct run_neq_struct run_eqGuard_agg

def clashB (a b : Cm) : Bool := (footC a).2 && (footC b).2 && ((a.num == b.num) || overB (bl (footC a).1) (bl (footC b).1))
set_option maxRecDepth 100000 in
set_option maxHeartbeats 1000000 in
theorem clashC_any (a b : Cm) (w : World) (ha : a.foot.size ≤ 1000) (hap : a.path.size ≤ 1000) (hb : b.foot.size ≤ 1000) (hbp : b.path.size ≤ 1000) : Calls Tryz.prog 26 #[a.val, b.val] w fun e w' => e = .returned (.bool (clashB a b)) ∧ Ext w w' := by
  have hA : At [] w [] w := At.start (L0 := []) trivial
  have hF := hA.facts
  have hoa := fun w => of_any a w ha hap
  have hob := fun w => of_any b w hb hbp
  have sa := foot_size a ha hap
  have sb := foot_size b hb hbp
  unfold clashB
  generalize footC a = fa at *
  generalize footC b = fb at *
  obtain ⟨f, x⟩ := fa
  obtain ⟨g, y⟩ := fb
  simp only at sa sb
  have hcl := fun w => clash_any f a.num g b.num w sa sb
  obtain ⟨kind, num, foot, req, path, mode, n, time⟩ := a
  obtain ⟨kind2, num2, foot2, req2, path2, mode2, n2, time2⟩ := b
  simp only [Cm.val] at *
  generalize ((num == num2) || overB (bl f) (bl g)) = cb at *
  (try simp only [uA] at hA); have hF := hA.facts; (try simp only [fA, and_true, true_and] at hF)
  cases x
  · simp only [Bool.false_and]
    cases y
    · go_enter Tryz.func26, Tryz.ntmps26
      go_wp2_with (first | ((with_reducible show wpList _ _ _ ({ dst := some 2, op := Op.box _ _, type := _, pos := _, after := _, guard := _ } :: _) _ _); ((with_reducible refine gbx ?_); refine wX 29 (.agg #[.int .i64 kind, .int .u64 num, .string foot, .int .u64 req, .string path, .int .i64 mode, .int .u64 n, .int .i64 time]) [.int .i64 kind, .int .u64 num, .string foot, .int .u64 req, .string path, .int .i64 mode, .int .u64 n, .int .i64 time] hA ?_; clear hF hA; intro bA w1 hA hbA; (try simp only [uA] at hA); have hF := hA.facts; (try simp only [fA, and_true, true_and] at hF))) | ((with_reducible show wpList _ _ _ ({ dst := some 3, op := Op.box _ _, type := _, pos := _, after := _, guard := _ } :: _) _ _); ((with_reducible refine gbx ?_); refine wX 29 (.agg #[.int .i64 kind2, .int .u64 num2, .string foot2, .int .u64 req2, .string path2, .int .i64 mode2, .int .u64 n2, .int .i64 time2]) [.int .i64 kind2, .int .u64 num2, .string foot2, .int .u64 req2, .string path2, .int .i64 mode2, .int .u64 n2, .int .i64 time2] hA ?_; clear hF hA; intro bB w1 hA hbB; (try simp only [uA] at hA); have hF := hA.facts; (try simp only [fA, and_true, true_and] at hF))) | ((with_reducible refine gst ?_); refine wS hA ?_; clear hF hA; intro w1 hA; (try simp only [uA] at hA); have hF := hA.facts; (try simp only [fA, and_true, true_and] at hF)) | ((with_reducible refine gbx ?_); refine wB hA ?_; clear hF hA; intro b1 w1 hA hb1; (try simp only [uA] at hA); have hF := hA.facts; (try simp only [fA, and_true, true_and] at hF)))
      refine (hoa _).mono ?_
      clear hoa
      rintro e w1 ⟨rfl, hx⟩
      have hB := hA.ext hx
      clear hF hA hx; have hA := hB; clear hB
      (try simp only [uA] at hA); have hF := hA.facts; (try simp only [fA, and_true, true_and] at hF)
      go_wp2_with (first | ((with_reducible refine gal ?_); refine wA 116 (.agg #[.string .empty, .int .u64 0]) [.string .empty, .int .u64 0] hA ?_; clear hF hA; intro bK w1 hA hbK; (try simp only [uA] at hA); have hF := hA.facts; (try simp only [fA, and_true, true_and] at hF)) | ((with_reducible refine gst ?_); refine wS hA ?_; clear hF hA; intro w1 hA; (try simp only [uA] at hA); have hF := hA.facts; (try simp only [fA, and_true, true_and] at hF)) | ((with_reducible refine gbx ?_); refine wB hA ?_; clear hF hA; intro b1 w1 hA hb1; (try simp only [uA] at hA); have hF := hA.facts; (try simp only [fA, and_true, true_and] at hF)))
      refine (hob _).mono ?_
      clear hob
      rintro e w1 ⟨rfl, hx⟩
      have hB := hA.ext hx
      clear hF hA hx; have hA := hB; clear hB
      (try simp only [uA] at hA); have hF := hA.facts; (try simp only [fA, and_true, true_and] at hF)
      go_wp2_with (first | ((with_reducible refine gal ?_); refine wA 116 (.agg #[.string .empty, .int .u64 0]) [.string .empty, .int .u64 0] hA ?_; clear hF hA; intro bL w1 hA hbL; (try simp only [uA] at hA); have hF := hA.facts; (try simp only [fA, and_true, true_and] at hF)) | ((with_reducible refine gst ?_); refine wS hA ?_; clear hF hA; intro w1 hA; (try simp only [uA] at hA); have hF := hA.facts; (try simp only [fA, and_true, true_and] at hF)) | ((with_reducible refine gbx ?_); refine wB hA ?_; clear hF hA; intro b1 w1 hA hb1; (try simp only [uA] at hA); have hF := hA.facts; (try simp only [fA, and_true, true_and] at hF)))
      go_ret
      exact ⟨rfl, hA.toExt⟩
    · go_enter Tryz.func26, Tryz.ntmps26
      go_wp2_with (first | ((with_reducible show wpList _ _ _ ({ dst := some 2, op := Op.box _ _, type := _, pos := _, after := _, guard := _ } :: _) _ _); ((with_reducible refine gbx ?_); refine wX 29 (.agg #[.int .i64 kind, .int .u64 num, .string foot, .int .u64 req, .string path, .int .i64 mode, .int .u64 n, .int .i64 time]) [.int .i64 kind, .int .u64 num, .string foot, .int .u64 req, .string path, .int .i64 mode, .int .u64 n, .int .i64 time] hA ?_; clear hF hA; intro bA w1 hA hbA; (try simp only [uA] at hA); have hF := hA.facts; (try simp only [fA, and_true, true_and] at hF))) | ((with_reducible show wpList _ _ _ ({ dst := some 3, op := Op.box _ _, type := _, pos := _, after := _, guard := _ } :: _) _ _); ((with_reducible refine gbx ?_); refine wX 29 (.agg #[.int .i64 kind2, .int .u64 num2, .string foot2, .int .u64 req2, .string path2, .int .i64 mode2, .int .u64 n2, .int .i64 time2]) [.int .i64 kind2, .int .u64 num2, .string foot2, .int .u64 req2, .string path2, .int .i64 mode2, .int .u64 n2, .int .i64 time2] hA ?_; clear hF hA; intro bB w1 hA hbB; (try simp only [uA] at hA); have hF := hA.facts; (try simp only [fA, and_true, true_and] at hF))) | ((with_reducible refine gst ?_); refine wS hA ?_; clear hF hA; intro w1 hA; (try simp only [uA] at hA); have hF := hA.facts; (try simp only [fA, and_true, true_and] at hF)) | ((with_reducible refine gbx ?_); refine wB hA ?_; clear hF hA; intro b1 w1 hA hb1; (try simp only [uA] at hA); have hF := hA.facts; (try simp only [fA, and_true, true_and] at hF)))
      refine (hoa _).mono ?_
      clear hoa
      rintro e w1 ⟨rfl, hx⟩
      have hB := hA.ext hx
      clear hF hA hx; have hA := hB; clear hB
      (try simp only [uA] at hA); have hF := hA.facts; (try simp only [fA, and_true, true_and] at hF)
      go_wp2_with (first | ((with_reducible refine gal ?_); refine wA 116 (.agg #[.string .empty, .int .u64 0]) [.string .empty, .int .u64 0] hA ?_; clear hF hA; intro bK w1 hA hbK; (try simp only [uA] at hA); have hF := hA.facts; (try simp only [fA, and_true, true_and] at hF)) | ((with_reducible refine gst ?_); refine wS hA ?_; clear hF hA; intro w1 hA; (try simp only [uA] at hA); have hF := hA.facts; (try simp only [fA, and_true, true_and] at hF)) | ((with_reducible refine gbx ?_); refine wB hA ?_; clear hF hA; intro b1 w1 hA hb1; (try simp only [uA] at hA); have hF := hA.facts; (try simp only [fA, and_true, true_and] at hF)))
      refine (hob _).mono ?_
      clear hob
      rintro e w1 ⟨rfl, hx⟩
      have hB := hA.ext hx
      clear hF hA hx; have hA := hB; clear hB
      (try simp only [uA] at hA); have hF := hA.facts; (try simp only [fA, and_true, true_and] at hF)
      go_wp2_with (first | ((with_reducible refine gal ?_); refine wA 116 (.agg #[.string .empty, .int .u64 0]) [.string .empty, .int .u64 0] hA ?_; clear hF hA; intro bL w1 hA hbL; (try simp only [uA] at hA); have hF := hA.facts; (try simp only [fA, and_true, true_and] at hF)) | ((with_reducible refine gst ?_); refine wS hA ?_; clear hF hA; intro w1 hA; (try simp only [uA] at hA); have hF := hA.facts; (try simp only [fA, and_true, true_and] at hF)) | ((with_reducible refine gbx ?_); refine wB hA ?_; clear hF hA; intro b1 w1 hA hb1; (try simp only [uA] at hA); have hF := hA.facts; (try simp only [fA, and_true, true_and] at hF)))
      go_ret
      exact ⟨rfl, hA.toExt⟩
  · cases y
    · simp only [Bool.and_false, Bool.false_and]
      go_enter Tryz.func26, Tryz.ntmps26
      go_wp2_with (first | ((with_reducible show wpList _ _ _ ({ dst := some 2, op := Op.box _ _, type := _, pos := _, after := _, guard := _ } :: _) _ _); ((with_reducible refine gbx ?_); refine wX 29 (.agg #[.int .i64 kind, .int .u64 num, .string foot, .int .u64 req, .string path, .int .i64 mode, .int .u64 n, .int .i64 time]) [.int .i64 kind, .int .u64 num, .string foot, .int .u64 req, .string path, .int .i64 mode, .int .u64 n, .int .i64 time] hA ?_; clear hF hA; intro bA w1 hA hbA; (try simp only [uA] at hA); have hF := hA.facts; (try simp only [fA, and_true, true_and] at hF))) | ((with_reducible show wpList _ _ _ ({ dst := some 3, op := Op.box _ _, type := _, pos := _, after := _, guard := _ } :: _) _ _); ((with_reducible refine gbx ?_); refine wX 29 (.agg #[.int .i64 kind2, .int .u64 num2, .string foot2, .int .u64 req2, .string path2, .int .i64 mode2, .int .u64 n2, .int .i64 time2]) [.int .i64 kind2, .int .u64 num2, .string foot2, .int .u64 req2, .string path2, .int .i64 mode2, .int .u64 n2, .int .i64 time2] hA ?_; clear hF hA; intro bB w1 hA hbB; (try simp only [uA] at hA); have hF := hA.facts; (try simp only [fA, and_true, true_and] at hF))) | ((with_reducible refine gst ?_); refine wS hA ?_; clear hF hA; intro w1 hA; (try simp only [uA] at hA); have hF := hA.facts; (try simp only [fA, and_true, true_and] at hF)) | ((with_reducible refine gbx ?_); refine wB hA ?_; clear hF hA; intro b1 w1 hA hb1; (try simp only [uA] at hA); have hF := hA.facts; (try simp only [fA, and_true, true_and] at hF)))
      refine (hoa _).mono ?_
      clear hoa
      rintro e w1 ⟨rfl, hx⟩
      have hB := hA.ext hx
      clear hF hA hx; have hA := hB; clear hB
      (try simp only [uA] at hA); have hF := hA.facts; (try simp only [fA, and_true, true_and] at hF)
      go_wp2_with (first | ((with_reducible refine gal ?_); refine wA 116 (.agg #[.string .empty, .int .u64 0]) [.string .empty, .int .u64 0] hA ?_; clear hF hA; intro bK w1 hA hbK; (try simp only [uA] at hA); have hF := hA.facts; (try simp only [fA, and_true, true_and] at hF)) | ((with_reducible refine gst ?_); refine wS hA ?_; clear hF hA; intro w1 hA; (try simp only [uA] at hA); have hF := hA.facts; (try simp only [fA, and_true, true_and] at hF)) | ((with_reducible refine gbx ?_); refine wB hA ?_; clear hF hA; intro b1 w1 hA hb1; (try simp only [uA] at hA); have hF := hA.facts; (try simp only [fA, and_true, true_and] at hF)))
      refine (hob _).mono ?_
      clear hob
      rintro e w1 ⟨rfl, hx⟩
      have hB := hA.ext hx
      clear hF hA hx; have hA := hB; clear hB
      (try simp only [uA] at hA); have hF := hA.facts; (try simp only [fA, and_true, true_and] at hF)
      go_wp2_with (first | ((with_reducible refine gal ?_); refine wA 116 (.agg #[.string .empty, .int .u64 0]) [.string .empty, .int .u64 0] hA ?_; clear hF hA; intro bL w1 hA hbL; (try simp only [uA] at hA); have hF := hA.facts; (try simp only [fA, and_true, true_and] at hF)) | ((with_reducible refine gst ?_); refine wS hA ?_; clear hF hA; intro w1 hA; (try simp only [uA] at hA); have hF := hA.facts; (try simp only [fA, and_true, true_and] at hF)) | ((with_reducible refine gbx ?_); refine wB hA ?_; clear hF hA; intro b1 w1 hA hb1; (try simp only [uA] at hA); have hF := hA.facts; (try simp only [fA, and_true, true_and] at hF)))
      go_ret
      exact ⟨rfl, hA.toExt⟩
    · simp only [Bool.and_true, Bool.true_and, if_true] at *
      go_enter Tryz.func26, Tryz.ntmps26
      go_wp2_with (first | ((with_reducible show wpList _ _ _ ({ dst := some 2, op := Op.box _ _, type := _, pos := _, after := _, guard := _ } :: _) _ _); ((with_reducible refine gbx ?_); refine wX 29 (.agg #[.int .i64 kind, .int .u64 num, .string foot, .int .u64 req, .string path, .int .i64 mode, .int .u64 n, .int .i64 time]) [.int .i64 kind, .int .u64 num, .string foot, .int .u64 req, .string path, .int .i64 mode, .int .u64 n, .int .i64 time] hA ?_; clear hF hA; intro bA w1 hA hbA; (try simp only [uA] at hA); have hF := hA.facts; (try simp only [fA, and_true, true_and] at hF))) | ((with_reducible show wpList _ _ _ ({ dst := some 3, op := Op.box _ _, type := _, pos := _, after := _, guard := _ } :: _) _ _); ((with_reducible refine gbx ?_); refine wX 29 (.agg #[.int .i64 kind2, .int .u64 num2, .string foot2, .int .u64 req2, .string path2, .int .i64 mode2, .int .u64 n2, .int .i64 time2]) [.int .i64 kind2, .int .u64 num2, .string foot2, .int .u64 req2, .string path2, .int .i64 mode2, .int .u64 n2, .int .i64 time2] hA ?_; clear hF hA; intro bB w1 hA hbB; (try simp only [uA] at hA); have hF := hA.facts; (try simp only [fA, and_true, true_and] at hF))) | ((with_reducible refine gst ?_); refine wS hA ?_; clear hF hA; intro w1 hA; (try simp only [uA] at hA); have hF := hA.facts; (try simp only [fA, and_true, true_and] at hF)) | ((with_reducible refine gbx ?_); refine wB hA ?_; clear hF hA; intro b1 w1 hA hb1; (try simp only [uA] at hA); have hF := hA.facts; (try simp only [fA, and_true, true_and] at hF)))
      refine (hoa _).mono ?_
      clear hoa
      rintro e w1 ⟨rfl, hx⟩
      have hB := hA.ext hx
      clear hF hA hx; have hA := hB; clear hB
      (try simp only [uA] at hA); have hF := hA.facts; (try simp only [fA, and_true, true_and] at hF)
      go_wp2_with (first | ((with_reducible refine gal ?_); refine wA 116 (.agg #[.string .empty, .int .u64 0]) [.string .empty, .int .u64 0] hA ?_; clear hF hA; intro bK w1 hA hbK; (try simp only [uA] at hA); have hF := hA.facts; (try simp only [fA, and_true, true_and] at hF)) | ((with_reducible refine gst ?_); refine wS hA ?_; clear hF hA; intro w1 hA; (try simp only [uA] at hA); have hF := hA.facts; (try simp only [fA, and_true, true_and] at hF)) | ((with_reducible refine gbx ?_); refine wB hA ?_; clear hF hA; intro b1 w1 hA hb1; (try simp only [uA] at hA); have hF := hA.facts; (try simp only [fA, and_true, true_and] at hF)))
      refine (hob _).mono ?_
      clear hob
      rintro e w1 ⟨rfl, hx⟩
      have hB := hA.ext hx
      clear hF hA hx; have hA := hB; clear hB
      (try simp only [uA] at hA); have hF := hA.facts; (try simp only [fA, and_true, true_and] at hF)
      go_wp2_with (first | ((with_reducible refine gal ?_); refine wA 116 (.agg #[.string .empty, .int .u64 0]) [.string .empty, .int .u64 0] hA ?_; clear hF hA; intro bL w1 hA hbL; (try simp only [uA] at hA); have hF := hA.facts; (try simp only [fA, and_true, true_and] at hF)) | ((with_reducible refine gst ?_); refine wS hA ?_; clear hF hA; intro w1 hA; (try simp only [uA] at hA); have hF := hA.facts; (try simp only [fA, and_true, true_and] at hF)) | ((with_reducible refine gbx ?_); refine wB hA ?_; clear hF hA; intro b1 w1 hA hb1; (try simp only [uA] at hA); have hF := hA.facts; (try simp only [fA, and_true, true_and] at hF)))
      refine (hcl _).mono ?_
      clear hcl
      rintro e w1 ⟨rfl, hx⟩
      have hB := hA.ext hx
      clear hF hA hx; have hA := hB; clear hB
      (try simp only [uA] at hA); have hF := hA.facts; (try simp only [fA, and_true, true_and] at hF)
      go_wp2_with (first | ((with_reducible refine gst ?_); refine wS hA ?_; clear hF hA; intro w1 hA; (try simp only [uA] at hA); have hF := hA.facts; (try simp only [fA, and_true, true_and] at hF)) | ((with_reducible refine gbx ?_); refine wB hA ?_; clear hF hA; intro b1 w1 hA hb1; (try simp only [uA] at hA); have hF := hA.facts; (try simp only [fA, and_true, true_and] at hF)))
      go_ret
      exact ⟨rfl, hA.toExt⟩
end Go.Proofs.YtpebabaigakagaaGreatDoor.Cmd
end

section
namespace Go.Proofs.YtpebabaigakagaaGreatDoor.Tab
open Go.RowKit
open Path (bl rightB overB aboveB)
open Lease (Ses Ans fresh Turned)
open Lock (S3 Ent)
open Cmd (Cm rightC)
set_option linter.unusedSimpArgs false
set_option linter.unusedVariables false
attribute [-go_sem] run_eql_struct run_neq_struct run_eqGuard_agg

def iC (n : Nat) : List Value := [.int .i64 (n : Int)]
theorem iC_one (n : Nat) : ∀ u ∈ iC n, u.oneCell' = true := by
  intro u hu
  simp only [iC, List.mem_cons, List.not_mem_nil, or_false] at hu
  subst hu
  rfl
abbrev rowI (v : Value) (l : List Nat) : Part := Part.row 3 1 v l.length (l.flatMap iC)
theorem rowI_snoc (v : Value) (l : List Nat) (a : Nat) : Part.row 3 1 v (l.length + 1) (l.flatMap iC ++ iC a) = rowI v (l ++ [a]) := by
  unfold rowI
  rw [List.length_append]
  simp
theorem infoI : (Tryz.prog.info? 3).map (fun i => (i.zero, i.size, i.bytes)) = some (some (.int .i64 0), 1, 8) := by kernel_rfl
def AmRel (w : World) (R : Part) (b3 : Nat) (c3 : List Value) (l : List Cm) (c : Cm) (k : Nat) (u1 u2 : Value) (wr : World) : Prop :=
  ∃ (i : Nat) (ks : List Nat), u1 = .int .i64 i ∧ i + k = l.length ∧ ks.length ≤ i ∧ (∀ j x, j < i → l[j]? = some x → Cmd.clashB x c = true → j ∈ ks) ∧ (∀ j ∈ ks, j < i) ∧ At [R] w [rowI u2 ks, Part.cells b3 c3 29, R] wr
def AmP (w : World) (R : Part) (l : List Cm) (c : Cm) (e : Ending) (w' : World) : Prop :=
  ∃ (v : Value) (ks : List Nat), e = .returned v ∧ ks.length ≤ l.length ∧ (∀ j x, l[j]? = some x → Cmd.clashB x c = true → j ∈ ks) ∧ (∀ j ∈ ks, j < l.length) ∧ At [R] w [rowI v ks, R] w'
set_option maxHeartbeats 4000000 in
theorem among_any {w : World} {R : Part} (h : Sep [R] w) {v : Value} {l : List Cm} (hr : ReadsC R v l) (hl : l.length ≤ 1000) (hsz : ∀ x ∈ l, x.path.size ≤ 1000 ∧ x.foot.size ≤ 1000) (kind num : Int) (foot : ByteArray) (req : Int) (path : ByteArray) (mode n time : Int) (hf : foot.size ≤ 1000) (hp : path.size ≤ 1000) :
    Calls Tryz.prog 43 #[v, .agg #[.int .i64 kind, .int .u64 num, .string foot, .int .u64 req, .string path, .int .i64 mode, .int .u64 n, .int .i64 time]] w (AmP w R l ⟨kind, num, foot, req, path, mode, n, time⟩) := by
  obtain ⟨i0, hi0, hz0, hz1, hz2⟩ := info_parts infoI
  have hA := At.start h
  obtain ⟨ax, cap, rfl, _, _⟩ := hr w (hA.get .here)
  have hr' := Lib.hid hr
  have hcl' := Lib.hid (fun (x : Cm) (hx : x ∈ l) (w1 : World) => Cmd.clashC_any x ⟨kind, num, foot, req, path, mode, n, time⟩ w1 (hsz x hx).2 (hsz x hx).1 hf hp)
  clear h hr hsz hf hp
  (try simp only [uA] at hA); have hF := hA.facts; (try simp only [fZ] at hF)
  go_enter Tryz.func43, Tryz.ntmps43
  go_wp2_with (first | ((with_reducible refine gbx ?_); refine wX 29 (.agg #[.int .i64 kind, .int .u64 num, .string foot, .int .u64 req, .string path, .int .i64 mode, .int .u64 n, .int .i64 time]) [.int .i64 kind, .int .u64 num, .string foot, .int .u64 req, .string path, .int .i64 mode, .int .u64 n, .int .i64 time] hA ?_; clear hF hA; intro b3 w1 hA hb3; (try simp only [uA] at hA); have hF := hA.facts; (try simp only [fZ] at hF)) | ((with_reducible refine gst ?_); refine wS hA ?_; clear hF hA; intro w1 hA; (try simp only [uA] at hA); have hF := hA.facts; (try simp only [fZ] at hF)) | ((with_reducible refine gbx ?_); refine wB hA ?_; clear hF hA; intro b1 w1 hA hb1; (try simp only [uA] at hA); have hF := hA.facts; (try simp only [fZ] at hF)))
  try go_frame
  have hB := hA.row_nil 3 1
  clear hF hA
  go_loopg [10, 5] l.length (AmRel w R b3 [.int .i64 kind, .int .u64 num, .string foot, .int .u64 req, .string path, .int .i64 mode, .int .u64 n, .int .i64 time] l ⟨kind, num, foot, req, path, mode, n, time⟩)
  case atStart => exact ⟨0, [], rfl, by omega, by simp, fun j x hj => by omega, nofun, hB.pick pZ⟩
  case round =>
    obtain ⟨i, ks, rfl, hik, hkl, hin, hlt, hA⟩ := hrel
    clear hB
    have hin' := Lib.hid hin
    have hlt' := Lib.hid hlt
    clear hin hlt
    obtain ⟨axa, capa, hva, _, hcpa, _⟩ := hA.row_form (e := 3) (size := 1) (n := ks.length) (xs := ks.flatMap iC) .here
    subst hva
    by_cases hi : i < l.length
    · obtain ⟨x, hx⟩ : ∃ x, l[i]? = some x := ⟨_, List.getElem?_eq_getElem hi⟩
      have hcc := hcl'.out x (List.mem_of_getElem? hx)
      obtain ⟨bl0, ofl, hax⟩ : ∃ b0 o0, ax = some ⟨b0, o0, none⟩ := by
        obtain ⟨ax2, c2, e2, _, hr2⟩ := hr'.out _ (hA.get (A := R) sZ)
        cases e2
        have hf := flat_at Cm.cells 8 (fun _ => rfl) l i x hx 0 (by omega)
        obtain ⟨b0, o0, e3, _⟩ := hr2 (i * 8 + 0) _ hf
        exact ⟨b0, o0, e3⟩
      subst hax
      have hrc := reads_cm hr'.out hx _ (hA.get (A := R) sZ)
      obtain ⟨cb, hcb⟩ : ∃ z, Cmd.clashB x ⟨kind, num, foot, req, path, mode, n, time⟩ = z := ⟨_, rfl⟩
      simp only [hcb] at hcc
      have hnext : ∀ ks' : List Nat, (∀ j ∈ ks, j ∈ ks') → (cb = true → i ∈ ks') → ∀ j x, j < i + 1 → l[j]? = some x → Cmd.clashB x ⟨kind, num, foot, req, path, mode, n, time⟩ = true → j ∈ ks' := fun ks' h1 h2 j y hj hy hc => by
        by_cases q : j < i
        · exact h1 j (hin'.out j y q hy hc)
        · obtain rfl : j = i := by omega
          rw [hx] at hy
          cases hy
          exact h2 (hcb.symm.trans hc)
      have hnext' := Lib.hid hnext
      clear hnext hin' hcb hx
      obtain ⟨k2, n2, f2, r2, p2, m2, nn2, t2⟩ := x
      simp only [Cmd.Cm.val] at hcc
      have hcc' := Lib.hid hcc
      have hrc' := Lib.hid (show ∀ (k : Nat) u, ([.int .i64 k2, .int .u64 n2, .string f2, .int .u64 r2, .string p2, .int .i64 m2, .int .u64 nn2, .int .i64 t2] : List Value)[k]? = some u → wr.cell? ⟨bl0, ofl + i * 8 + k, none⟩ = some u from hrc)
      clear hcc hrc
      (try simp only [uA] at hA); have hF := hA.facts; (try simp only [fZ] at hF)
      go_wp2_with (first | (((with_reducible show wpList _ _ _ ({ dst := some 7, op := Op.alloc _, type := _, pos := _, after := _, guard := _ } :: _) _ _)); ((with_reducible refine gal ?_); refine wA 29 (.agg #[.int .i64 0, .int .u64 0, .string .empty, .int .u64 0, .string .empty, .int .i64 0, .int .u64 0, .int .i64 0]) [.int .i64 0, .int .u64 0, .string .empty, .int .u64 0, .string .empty, .int .i64 0, .int .u64 0, .int .i64 0] hA ?_; clear hF hA; intro b7 w1 hA hb7; (try simp only [uA] at hA); have hF := hA.facts; (try simp only [fZ] at hF))) | ((with_reducible show wpList _ _ _ ({ dst := some 14, op := Op.load _ _, type := _, pos := _, after := _, guard := _ } :: _) _ _); refine wpList_loadRow_at (vs := [.int .i64 k2, .int .u64 n2, .string f2, .int .u64 r2, .string p2, .int .i64 m2, .int .u64 nn2, .int .i64 t2]) rfl rfl (by (try simp only [Act.eval, eV]) <;> exact rfl) hrc'.out (by kernel_rfl) (by kernel_rfl) ?_) | ((with_reducible show wpList _ _ _ ({ dst := some 15, op := Op.load 29 _, type := _, pos := _, after := _, guard := _ } :: _) _ _); refine wpList_loadRow_at (vs := [.int .i64 k2, .int .u64 n2, .string f2, .int .u64 r2, .string p2, .int .i64 m2, .int .u64 nn2, .int .i64 t2]) rfl rfl (by (try simp only [Act.eval, eV]) <;> exact rfl) (fun k u hk => by rw [Nat.zero_add]; exact ((hA.get (A := Part.cells b7 [.int .i64 k2, .int .u64 n2, .string f2, .int .u64 r2, .string p2, .int .i64 m2, .int .u64 nn2, .int .i64 t2] 29) sZ : BlockIs _ _ _ _).cell k).trans hk) (by kernel_rfl) (by kernel_rfl) ?_) | ((with_reducible show wpList _ _ _ ({ dst := some 16, op := Op.load 29 _, type := _, pos := _, after := _, guard := _ } :: _) _ _); refine wpList_loadRow_at (vs := [.int .i64 kind, .int .u64 num, .string foot, .int .u64 req, .string path, .int .i64 mode, .int .u64 n, .int .i64 time]) rfl rfl (by (try simp only [Act.eval, eV]) <;> exact rfl) (fun k u hk => by rw [Nat.zero_add]; exact ((hA.get (A := Part.cells b3 [.int .i64 kind, .int .u64 num, .string foot, .int .u64 req, .string path, .int .i64 mode, .int .u64 n, .int .i64 time] 29) sZ : BlockIs _ _ _ _).cell k).trans hk) (by kernel_rfl) (by kernel_rfl) ?_) | ((with_reducible refine gst ?_); refine wS hA ?_; clear hF hA; intro w1 hA; (try simp only [uA] at hA); have hF := hA.facts; (try simp only [fZ] at hF)) | ((with_reducible refine gbx ?_); refine wB hA ?_; clear hF hA; intro b1 w1 hA hb1; (try simp only [uA] at hA); have hF := hA.facts; (try simp only [fZ] at hF)))
      refine (hcc'.out _).mono ?_
      rintro e w1 ⟨rfl, hx⟩
      have hB := hA.ext hx
      clear hx
      clear hF hA; have hA := hB; clear hB
      try simp only [List.cons_append, List.nil_append] at hA
      (try simp only [uA] at hA); have hF := hA.facts; (try simp only [fZ] at hF)
      cases cb
      · go_wp2_with (first | ((with_reducible refine gst ?_); refine wS hA ?_; clear hF hA; intro w1 hA; (try simp only [uA] at hA); have hF := hA.facts; (try simp only [fZ] at hF)) | ((with_reducible refine gbx ?_); refine wB hA ?_; clear hF hA; intro b1 w1 hA hb1; (try simp only [uA] at hA); have hF := hA.facts; (try simp only [fZ] at hF)))
        go_roundg (gk - 1)
        case measure => omega
        case rel => exact ⟨i + 1, ks, by simp, by omega, by omega, hnext'.out ks (fun _ h => h) (fun h => by cases h), fun j hj => Nat.lt_succ_of_lt (hlt'.out j hj), hA.pick pZ⟩
      · go_wp2_with (first | ((with_reducible show wpList _ _ _ ({ dst := _, op := Op.buildSlice _ _ _, type := _, pos := _, after := _, guard := _ } :: _) _ _); refine wpList_one_at (e := 3) (vs := iC i) rfl rfl (by (try simp only [Act.eval, eV]) <;> exact rfl) (fun _ => by kernel_rfl) hA ?_; intro b22 w1 hB hb22; clear hF hA; have hA := hB; clear hB; (try simp only [uA] at hA); have hF := hA.facts; (try simp only [fZ] at hF)) | ((with_reducible show wpList _ _ _ ({ dst := _, op := Op.call { callee := Callee.builtin Builtin.append, args := _, argTypes := _ }, type := _, pos := _, after := _, guard := _ } :: _) _ _); refine wpList_append_at (e := 3) (size := 1) (v := .slice axa ks.length capa) (xs := ks.flatMap iC) (n := ks.length) (m := 1) (news := iC i) rfl _ _ 57 rfl Tryz.underlying57 hi0 hz0 hz1 hz2 rfl (by omega) hA sZ (by (try simp only [Act.eval, eV]) <;> exact rfl) (by (try simp only [Act.eval, eV]) <;> exact rfl) rfl (hA.cells_reads sZ _ _) (iC_one _) (by unfold maxLen; omega) (by omega) ?_; intro v23 w1 hB; rw [rowI_snoc] at hB; clear hF hA; have hA := hB; clear hB; (try simp only [uA] at hA); have hF := hA.facts; (try simp only [fZ] at hF)) | ((with_reducible refine gst ?_); refine wS hA ?_; clear hF hA; intro w1 hA; (try simp only [uA] at hA); have hF := hA.facts; (try simp only [fZ] at hF)) | ((with_reducible refine gbx ?_); refine wB hA ?_; clear hF hA; intro b1 w1 hA hb1; (try simp only [uA] at hA); have hF := hA.facts; (try simp only [fZ] at hF)))
        go_roundg (gk - 1)
        case measure => omega
        case rel => exact ⟨i + 1, ks ++ [i], by simp, by omega, by simp; omega, hnext'.out _ (fun j h => List.mem_append_left _ h) (fun _ => by simp), fun j hj => by
          rcases List.mem_append.1 hj with hj | hj
          · exact Nat.lt_succ_of_lt (hlt'.out j hj)
          · rw [List.mem_singleton.1 hj]; omega, hA.pick pZ⟩
    · have hi2 : i = l.length := by omega
      subst hi2
      (try simp only [uA] at hA); have hF := hA.facts; (try simp only [fZ] at hF)
      go_wp2_with (first | ((with_reducible refine gst ?_); refine wS hA ?_; clear hF hA; intro w1 hA; (try simp only [uA] at hA); have hF := hA.facts; (try simp only [fZ] at hF)) | ((with_reducible refine gbx ?_); refine wB hA ?_; clear hF hA; intro b1 w1 hA hb1; (try simp only [uA] at hA); have hF := hA.facts; (try simp only [fZ] at hF)))
      go_ret
      refine ⟨_, ks, rfl, hkl, fun j x hx hc => hin'.out j x (List.getElem?_eq_some_iff.1 hx).1 hx hc, hlt'.out, hA.pick pZ⟩
/-- is the i-th one of them? -/
def hasB (ins : List Bool) (i : Nat) : Bool := (ins[i]?).getD false
def bC (b : Bool) : List Value := [.bool b]
abbrev ReadsB (R : Part) (v : Value) (l : List Bool) : Prop := ∀ w, R.holds w → Reads w v l.length (l.flatMap bC)
theorem reads_b {R : Part} {b0 off0 cap i : Nat} {l : List Bool} {x : Bool} (h : ReadsB R (.slice (some ⟨b0, off0, none⟩) l.length cap) l) (hx : l[i]? = some x) : ∀ w, R.holds w → w.cell? ⟨b0, off0 + i, none⟩ = some (.bool x) := by
  intro w hw
  obtain ⟨ax, c, e, _, hr⟩ := h w hw
  cases e
  have hf := flat_at bC 1 (fun _ => rfl) l i x hx 0 (by omega)
  obtain ⟨b, off, e2, hc⟩ := hr (i * 1 + 0) _ hf
  cases e2
  simpa using hc
set_option maxHeartbeats 2000000 in
theorem has_any {w : World} {R : Part} {b3 : Nat} {v : Value} (h : Sep [Part.cells b3 [v] 55, R] w) {ins : List Bool} (hr : ReadsB R v ins) (i : Nat) (hi : i ≤ 1000000) :
    Calls Tryz.prog 42 #[.int .i64 i, .pointer (some ⟨b3, 0, none⟩)] w fun e w' => e = .returned (.bool (hasB ins i)) ∧ At [Part.cells b3 [v] 55, R] w [Part.cells b3 [v] 55, R] w' := by
  have hA := At.start h
  obtain ⟨ax, cap, rfl, _, _⟩ := hr w (hA.get (A := R) sZ)
  clear h
  by_cases hlt : i < ins.length
  · obtain ⟨x, hx⟩ : ∃ x, ins[i]? = some x := ⟨_, List.getElem?_eq_getElem hlt⟩
    have hh : hasB ins i = x := by unfold hasB; rw [hx]; rfl
    rw [hh]
    obtain ⟨b0, o0, hax⟩ : ∃ b0 o0, ax = some ⟨b0, o0, none⟩ := by
      obtain ⟨ax2, c2, e2, _, hr2⟩ := hr _ (hA.get (A := R) sZ)
      cases e2
      have hf := flat_at bC 1 (fun _ => rfl) ins i x hx 0 (by omega)
      obtain ⟨b0, o0, e3, _⟩ := hr2 (i * 1 + 0) _ hf
      exact ⟨b0, o0, e3⟩
    subst hax
    have hc := reads_b hr hx _ (hA.get (A := R) sZ)
    have hd : decide ((i : Int) < (ins.length : Int)) = true := decide_eq_true (by omega)
    have hd2 : decide (i < ins.length) = true := decide_eq_true hlt
    clear hx hh hr
    have hc0 : w.cell? ⟨b3, 0, none⟩ = some (.slice (some ⟨b0, o0, none⟩) ins.length cap) := (hA.get (A := Part.cells b3 [.slice (some ⟨b0, o0, none⟩) ins.length cap] 55) sZ : BlockIs _ _ _ _).cell 0
    (try simp only [uA] at hA); have hF := hA.facts; (try simp only [fZ] at hF)
    go_enter Tryz.func42, Tryz.ntmps42
    go_wp2_with (first | ((with_reducible refine gst ?_); refine wS hA ?_; clear hF hA; intro w1 hA; (try simp only [uA] at hA); have hF := hA.facts; (try simp only [fZ] at hF)) | ((with_reducible refine gbx ?_); refine wB hA ?_; clear hF hA; intro b1 w1 hA hb1; (try simp only [uA] at hA); have hF := hA.facts; (try simp only [fZ] at hF)))
    refine bodyPost_ret (v := .bool x) (by simp [results, Tryz.results42, go_sem, hF]) rfl ?_
    exact ⟨rfl, hA.pick pZ⟩
  · have hh : hasB ins i = false := by unfold hasB; rw [List.getElem?_eq_none (by omega)]; rfl
    rw [hh]
    have hd : decide ((i : Int) < (ins.length : Int)) = false := decide_eq_false (by omega)
    have hd2 : decide (i < ins.length) = false := decide_eq_false hlt
    clear hh hr
    have hc0 : w.cell? ⟨b3, 0, none⟩ = some (.slice ax ins.length cap) := (hA.get (A := Part.cells b3 [.slice ax ins.length cap] 55) sZ : BlockIs _ _ _ _).cell 0
    (try simp only [uA] at hA); have hF := hA.facts; (try simp only [fZ] at hF)
    go_enter Tryz.func42, Tryz.ntmps42
    go_wp2_with (first | ((with_reducible refine gst ?_); refine wS hA ?_; clear hF hA; intro w1 hA; (try simp only [uA] at hA); have hF := hA.facts; (try simp only [fZ] at hF)) | ((with_reducible refine gbx ?_); refine wB hA ?_; clear hF hA; intro b1 w1 hA hb1; (try simp only [uA] at hA); have hF := hA.facts; (try simp only [fZ] at hF)))
    refine bodyPost_ret (v := .bool false) (by simp [results, Tryz.results42, go_sem, hF]) rfl ?_
    exact ⟨rfl, hA.pick pZ⟩
end Go.Proofs.YtpebabaigakagaaGreatDoor.Tab
end

section
namespace Go.Proofs.YtpebabaigakagaaGreatDoor.Tab
open Go.RowKit Go.Joins Go.ChangeShapes Go.WideShapes
open Cmd (Cm)
set_option linter.unusedVariables false
set_option linter.unusedSimpArgs false

theorem cut_at {α : Type} (l : List α) (a s : Nat) {t : Nat} (h : a + s = t) : l.drop a = (l.drop a).take s ++ l.drop t := by
  subst h
  conv => lhs; rw [← List.take_append_drop s (l.drop a)]
  rw [List.drop_drop]
theorem cut_end {α : Type} (l : List α) {n : Nat} (h : l.length = n) : l.drop n = [] := List.drop_eq_nil_of_le (by omega)
theorem old_cell {W w : World} (h : (Part.old W).holds w) {b off : Nat} {u : Value} (hc : W.cell? ⟨b, off, none⟩ = some u) : w.cell? ⟨b, off, none⟩ = some u := by
  have hb : b < W.heap.size := by
    rcases Nat.lt_or_ge b W.heap.size with q | q
    · exact q
    · simp [World.cell?, Array.getElem?_eq_none q] at hc
  have := h b hb
  rw [← hc]
  simp [World.cell?, this]
theorem flat_ix {α : Type} {enc : α → List Value} {size : Nat} (hs : ∀ x, (enc x).length = size) (h0 : 0 < size) {l : List α} {j : Nat} {u : Value} (h : (l.flatMap enc)[j]? = some u) : ∃ x, l[j / size]? = some x ∧ (enc x)[j % size]? = some u := by
  have hlt := (List.getElem?_eq_some_iff.1 h).1
  rw [flat_len enc size hs] at hlt
  have hq : j / size < l.length := (Nat.div_lt_iff_lt_mul h0).2 hlt
  refine ⟨l[j / size], List.getElem?_eq_getElem hq, ?_⟩
  rw [← flat_at enc size hs l (j / size) _ (List.getElem?_eq_getElem hq) (j % size) (Nat.mod_lt _ h0), Nat.div_add_mod']
  exact h
/-- a row in the memory that came in -/
theorem reads_old {α : Type} {enc : α → List Value} {size : Nat} (hs : ∀ x, (enc x).length = size) (h0 : 0 < size) {W : World} {b off cap : Nat} {l : List α}
    (h : ∀ j x, l[j]? = some x → ∀ t u, (enc x)[t]? = some u → W.cell? ⟨b, off + j * size + t, none⟩ = some u) : ∀ w, (Part.old W).holds w → Reads w (.slice (some ⟨b, off, none⟩) l.length cap) l.length (l.flatMap enc) := by
  intro w hw
  refine ⟨_, cap, rfl, (fun q => by cases q), fun j u hj => ⟨b, off, rfl, ?_⟩⟩
  obtain ⟨x, hx, hu⟩ := flat_ix hs h0 hj
  have := h _ x hx _ u hu
  rw [Nat.add_assoc, Nat.div_add_mod'] at this
  exact old_cell hw this
theorem reads_nil {α : Type} (enc : α → List Value) (W : World) : ∀ w, (Part.old W).holds w → Reads w (.slice none 0 0) ([] : List α).length (([] : List α).flatMap enc) := fun w _ => ⟨none, 0, rfl, fun _ => rfl, fun j u hj => by simp at hj⟩
section
variable {H : Type} {enc : TypeId × Value → H} {W : World} {base : Nat} {spare : Nat → Bool} {held : Bool} {fuel : Nat}
theorem wf64 {n : Int} (h : (Lit.int .u64 n).wf = true) : 0 ≤ n ∧ n < Lease.big64 := by
  simp [Lit.wf, IntKind.min, IntKind.max, IntKind.signed, IntKind.bits] at h
  unfold Lease.big64
  omega
set_option maxRecDepth 100000 in
theorem open_sess {cs : List Value} {y : DataW H × List MemPlace} (h : DataW.trod enc Tryz.prog W base spare held fuel 25 cs = some y) : ∃ n f, cs = [.int .u64 n, .string f] ∧ (0 ≤ n ∧ n < Lease.big64) ∧ f.size ≤ maxLen := by
  obtain ⟨xs, n, _, rfl, hl, hxl, hf⟩ := DataW.trod_struct Tryz.underlying25 h
  have hn : cs.length = 2 := hl.trans (by kernel_rfl)
  have hx : xs.length = 2 := hxl
  have hc_string : Tryz.prog.cellsOf 9 = 1 := by kernel_rfl
  have hc_uint64 : Tryz.prog.cellsOf 22 = 1 := by kernel_rfl
  match xs, hx with
  | [y0, y1], _ =>
    have f0 : DataW.trod enc Tryz.prog W base spare held n 22 ((cs.drop 0).take (Tryz.prog.cellsOf 22)) = some y0 := hf 0 _ rfl
    rw [hc_uint64] at f0
    have f1 : DataW.trod enc Tryz.prog W base spare held n 9 ((cs.drop 1).take (Tryz.prog.cellsOf 9)) = some y1 := hf 1 _ rfl
    rw [hc_string] at f1
    obtain ⟨k0, e0, _, w0⟩ := DataW.trod_int Tryz.underlying22 f0
    obtain ⟨k1, e1, _, w1⟩ := DataW.trod_string Tryz.underlying9 f1
    have hcs : cs.drop 0 = (cs.drop 0).take 1 ++ ((cs.drop 1).take 1 ++ []) := (cut_at cs 0 1 (t := 1) rfl).trans (congrArg (_ ++ ·) ((cut_at cs 1 1 (t := 2) rfl).trans (congrArg (_ ++ ·) (cut_end cs hn))))
    rw [e0, e1] at hcs
    exact ⟨k0, k1, hcs, wf64 w0, w1⟩
set_option maxRecDepth 100000 in
theorem open_cmd {cs : List Value} {y : DataW H × List MemPlace} (h : DataW.trod enc Tryz.prog W base spare held fuel 29 cs = some y) : ∃ c : Cm, cs = c.cells ∧ CmV c := by
  obtain ⟨xs, n, _, rfl, hl, hxl, hf⟩ := DataW.trod_struct Tryz.underlying29 h
  have hn : cs.length = 8 := hl.trans (by kernel_rfl)
  have hx : xs.length = 7 := hxl
  have hc_int : Tryz.prog.cellsOf 3 = 1 := by kernel_rfl
  have hc_moothillcmdSession : Tryz.prog.cellsOf 25 = 2 := by kernel_rfl
  have hc_string : Tryz.prog.cellsOf 9 = 1 := by kernel_rfl
  have hc_uint64 : Tryz.prog.cellsOf 22 = 1 := by kernel_rfl
  match xs, hx with
  | [y0, y1, y2, y3, y4, y5, y6], _ =>
    have f0 : DataW.trod enc Tryz.prog W base spare held n 3 ((cs.drop 0).take (Tryz.prog.cellsOf 3)) = some y0 := hf 0 _ rfl
    rw [hc_int] at f0
    have f1 : DataW.trod enc Tryz.prog W base spare held n 25 ((cs.drop 1).take (Tryz.prog.cellsOf 25)) = some y1 := hf 1 _ rfl
    rw [hc_moothillcmdSession] at f1
    have f2 : DataW.trod enc Tryz.prog W base spare held n 22 ((cs.drop 3).take (Tryz.prog.cellsOf 22)) = some y2 := hf 2 _ rfl
    rw [hc_uint64] at f2
    have f3 : DataW.trod enc Tryz.prog W base spare held n 9 ((cs.drop 4).take (Tryz.prog.cellsOf 9)) = some y3 := hf 3 _ rfl
    rw [hc_string] at f3
    have f4 : DataW.trod enc Tryz.prog W base spare held n 3 ((cs.drop 5).take (Tryz.prog.cellsOf 3)) = some y4 := hf 4 _ rfl
    rw [hc_int] at f4
    have f5 : DataW.trod enc Tryz.prog W base spare held n 22 ((cs.drop 6).take (Tryz.prog.cellsOf 22)) = some y5 := hf 5 _ rfl
    rw [hc_uint64] at f5
    have f6 : DataW.trod enc Tryz.prog W base spare held n 3 ((cs.drop 7).take (Tryz.prog.cellsOf 3)) = some y6 := hf 6 _ rfl
    rw [hc_int] at f6
    obtain ⟨k0, e0, _, _⟩ := DataW.trod_int Tryz.underlying3 f0
    obtain ⟨k1, k2, e1, w1, v1⟩ := open_sess f1
    obtain ⟨k3, e2, _, w2⟩ := DataW.trod_int Tryz.underlying22 f2
    obtain ⟨k4, e3, _, w3⟩ := DataW.trod_string Tryz.underlying9 f3
    obtain ⟨k5, e4, _, _⟩ := DataW.trod_int Tryz.underlying3 f4
    obtain ⟨k6, e5, _, w5⟩ := DataW.trod_int Tryz.underlying22 f5
    obtain ⟨k7, e6, _, _⟩ := DataW.trod_int Tryz.underlying3 f6
    have hcs : cs.drop 0 = (cs.drop 0).take 1 ++ ((cs.drop 1).take 2 ++ ((cs.drop 3).take 1 ++ ((cs.drop 4).take 1 ++ ((cs.drop 5).take 1 ++ ((cs.drop 6).take 1 ++ ((cs.drop 7).take 1 ++ [])))))) := (cut_at cs 0 1 (t := 1) rfl).trans (congrArg (_ ++ ·) ((cut_at cs 1 2 (t := 3) rfl).trans (congrArg (_ ++ ·) ((cut_at cs 3 1 (t := 4) rfl).trans (congrArg (_ ++ ·) ((cut_at cs 4 1 (t := 5) rfl).trans (congrArg (_ ++ ·) ((cut_at cs 5 1 (t := 6) rfl).trans (congrArg (_ ++ ·) ((cut_at cs 6 1 (t := 7) rfl).trans (congrArg (_ ++ ·) ((cut_at cs 7 1 (t := 8) rfl).trans (congrArg (_ ++ ·) (cut_end cs hn))))))))))))))
    rw [e0, e1, e2, e3, e4, e5, e6] at hcs
    exact ⟨⟨k0, k1, k2, k3, k4, k5, k6, k7⟩, hcs, w1, v1, w3, wf64 w2, (wf64 w5).1⟩
theorem open_cmds {v : Value} {y : DataW H × List MemPlace} (hsp : ∀ b, spare b = true) (h : DataW.trod enc Tryz.prog W base spare held fuel 23 [v] = some y) : ∃ (l : List Cm) (ax : Option Addr) (cap : Nat), v = .slice ax l.length cap ∧ l.length ≤ cap ∧ cap ≤ maxLen ∧ ReadsC (Part.old W) v l ∧ ∀ c ∈ l, CmV c := by
  rcases Go.Deep.open_slice Tryz.underlying23 h with ⟨hcs, _⟩ | ⟨a, len, cap, m, n, D, Pl, hcs, _, hl, hm, hmm, _, hel⟩
  · simp at hcs
    subst hcs
    exact ⟨[], none, 0, rfl, by simp, by simp [maxLen], reads_nil Cm.cells W, nofun⟩
  · simp at hcs
    subst hcs
    have hco : Tryz.prog.cellsOf 29 = 8 := by kernel_rfl
    rw [hco] at hel
    have hall : ∀ i, i < len → ∃ c : Cm, W.cells? base (a.add (i * 8)) 8 = some c.cells ∧ CmV c := fun i hi => by
      obtain ⟨cs', h1, h2⟩ := hel i (by rw [hmm, hsp, if_pos rfl]; omega)
      obtain ⟨o, rfl, h3⟩ := open_cmd h2
      exact ⟨o, h1, h3⟩
    obtain ⟨f, hf⟩ := @Go.Deep.choose_lt Cm ⟨⟨0, 0, .empty, 0, .empty, 0, 0, 0⟩⟩ len _ hall
    have hlen : ((List.range len).map f).length = len := by simp
    have hget : ∀ j x, ((List.range len).map f)[j]? = some x → j < len ∧ x = f j := fun j x hx => by
      have hj := (List.getElem?_eq_some_iff.1 hx).1
      rw [hlen] at hj
      rw [List.getElem?_map, List.getElem?_range hj] at hx
      exact ⟨hj, (Option.some.inj hx).symm⟩
    have hmem : ∀ c ∈ (List.range len).map f, CmV c := fun c hc => by
      obtain ⟨j, hj, rfl⟩ := List.mem_map.1 hc
      exact (hf j (List.mem_range.1 hj)).2
    rcases Nat.eq_zero_or_pos len with rfl | hpos
    · refine ⟨[], some a, cap, rfl, by simp, hm, fun w hw => ⟨_, cap, rfl, (fun _ => rfl), fun j u hj => by simp at hj⟩, nofun⟩
    · have hz := (World.cells?_some (hf 0 hpos).1).2.2 0 (by omega)
      obtain ⟨b, off, sp⟩ := a
      have hsn : sp = none := by
        have := congrArg Addr.spot (spot_none hz)
        simpa [Addr.add] using this
      subst hsn
      refine ⟨(List.range len).map f, some ⟨b, off, none⟩, cap, by rw [hlen], by rw [hlen]; exact hl, hm, ?_, hmem⟩
      have hr := reads_old (enc := Cm.cells) (size := 8) (fun _ => rfl) (by omega) (W := W) (b := b) (off := off) (cap := cap) (l := (List.range len).map f) fun j x hx t u hu => by
        obtain ⟨hj, rfl⟩ := hget j x hx
        have ht : t < 8 := (List.getElem?_eq_some_iff.1 hu).1
        have h6 := (World.cells?_some (hf j hj).1).2.2 t ht
        rw [Addr.add_lit, Addr.add_lit, hu] at h6
        exact h6
      rw [hlen] at hr
      intro w hw
      rw [hlen]
      exact hr w hw
theorem open_bools {v : Value} {y : DataW H × List MemPlace} (hsp : ∀ b, spare b = true) (h : DataW.trod enc Tryz.prog W base spare held fuel 55 [v] = some y) : ∃ l : List Bool, l.length ≤ maxLen ∧ ReadsB (Part.old W) v l := by
  rcases Go.Deep.open_slice1 Tryz.underlying55 (by kernel_rfl) h with ⟨hcs, _⟩ | ⟨a, len, cap, m, n, V, D, Pl, hcs, _, hl, hm, hmm, _, hel⟩
  · simp at hcs
    subst hcs
    exact ⟨[], by simp [maxLen], reads_nil bC W⟩
  · simp at hcs
    subst hcs
    have hall : ∀ i, i < len → ∃ b : Bool, W.cell? (a.add i) = some (.bool b) := fun i hi => by
      obtain ⟨h1, h2⟩ := hel i (by rw [hmm, hsp, if_pos rfl]; omega)
      obtain ⟨b, e, _⟩ := DataW.trod_bool Tryz.underlying4 h2
      simp at e
      exact ⟨b, by rw [h1, e]⟩
    obtain ⟨f, hf⟩ := @Go.Deep.choose_lt Bool ⟨false⟩ len _ hall
    have hlen : ((List.range len).map f).length = len := by simp
    rcases Nat.eq_zero_or_pos len with rfl | hpos
    · refine ⟨[], by simp [maxLen], fun w hw => ⟨_, cap, rfl, (fun _ => rfl), fun j u hj => by simp at hj⟩⟩
    · have hz := hf 0 hpos
      obtain ⟨b, off, sp⟩ := a
      have hsn : sp = none := by
        have := congrArg Addr.spot (spot_none hz)
        simpa [Addr.add] using this
      subst hsn
      refine ⟨(List.range len).map f, by rw [hlen]; omega, ?_⟩
      have hr := reads_old (enc := bC) (size := 1) (fun _ => rfl) (by omega) (W := W) (b := b) (off := off) (cap := cap) (l := (List.range len).map f) fun j x hx t u hu => by
        have hj := (List.getElem?_eq_some_iff.1 hx).1
        rw [hlen] at hj
        rw [List.getElem?_map, List.getElem?_range hj] at hx
        cases hx
        have ht : t < 1 := (List.getElem?_eq_some_iff.1 hu).1
        obtain rfl : t = 0 := by omega
        cases hu
        have h6 := hf j hj
        rw [Addr.add_lit] at h6
        rw [Nat.mul_one]
        exact h6
      rw [hlen] at hr
      intro w hw
      rw [hlen]
      exact hr w hw
variable {d : DataW H} {ps : List MemPlace} {r : Reach} {b0 : Nat}
set_option maxRecDepth 100000 in
theorem openV_cmd {v : Value} (hv : Value.okWide Tryz.prog W r b0 29 v) (h : DataW.Trod enc Tryz.prog W base spare held 29 v d ps) : ∃ c : Cm, v = c.val ∧ CmV c := by
  obtain ⟨cs, rfl, _⟩ := okWide_struct Tryz.underlying29 hv
  obtain ⟨fuel, hf⟩ := h
  obtain ⟨c, hc, h0⟩ := open_cmd (cs := cs.toList) hf
  refine ⟨c, ?_, h0⟩
  rw [show cs = c.cells.toArray from by rw [← hc]]
  rfl
set_option maxRecDepth 100000 in
theorem openV_sess {v : Value} (hv : Value.okWide Tryz.prog W r b0 25 v) (h : DataW.Trod enc Tryz.prog W base spare held 25 v d ps) : ∃ n f, v = .agg #[.int .u64 n, .string f] ∧ (0 ≤ n ∧ n < Lease.big64) ∧ f.size ≤ maxLen := by
  obtain ⟨cs, rfl, _⟩ := okWide_struct Tryz.underlying25 hv
  obtain ⟨fuel, hf⟩ := h
  obtain ⟨n, f, hc, h0⟩ := open_sess (cs := cs.toList) hf
  refine ⟨n, f, ?_, h0⟩
  rw [show cs = [Value.int .u64 n, .string f].toArray from by rw [← hc]]
end
end Go.Proofs.YtpebabaigakagaaGreatDoor.Tab
end
