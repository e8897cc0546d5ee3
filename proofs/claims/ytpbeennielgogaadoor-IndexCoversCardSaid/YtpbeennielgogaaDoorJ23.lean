/- IndexK, joined. -/
import Derived.Test.YtpbeennielgogaaDoorJ22
section
namespace Go.Proofs.YtpbeennielgogaaDoor.Ix
open Go.RowKit
open Go.Maps (Keyed)
open Path (bl rightB overB)
open Attr (A8 rightI)
open Cmd (Cm keyC footC through0 clashB)
set_option linter.unusedSimpArgs false
set_option linter.unusedVariables false
attribute [-go_sem] run_eql_struct run_neq_struct run_eqGuard_agg

theorem fineL_note {es : List En} (h : FineL es) (a : Cm) (hf : a.foot.size ≤ 1000) (hp : a.path.size ≤ 1000) (r t q : Int) : FineL (noteE es (keyC a) r t q) := by
  unfold noteE keyC
  split
  · rename_i f n hk
    split at hk
    · simp only [Option.some.injEq, Prod.mk.injEq] at hk
      obtain ⟨rfl, rfl⟩ := hk
      split
      · rename_i hr
        exact fineL_merge (fine_note hr) (Cmd.foot_size _ hf hp) h
      · exact h
    · cases hk
  · exact h
theorem note_len (es : List En) (k : Option (ByteArray × Int)) (r t q : Int) : (noteE es k r t q).length ≤ es.length + 1 := by
  unfold noteE
  split
  · split
    · exact merge_len _ _ _ _
    · omega
  · omega
def CvRel2 (w : World) (p m b8 b9 b12 b13 b18 : Nat) (a b : Cm) (ir it kr kt : Int) (f : A8) (es0 : List En) (os : List Op12) (k : Nat) (u : Value) (wr : World) : Prop :=
  ∃ (i : Nat) (es : List En), u = .int .i64 i ∧ i + k = os.length ∧ Grow es0 es ∧ FineL es ∧ es.length ≤ es0.length + i ∧ At [Part.old w] w [IxP p m es, Part.cells b18 [.int .i64 f.s, .int .i64 f.d0, .int .i64 f.d1, .int .i64 f.d2, .int .i64 f.d3, .int .i64 f.d4, .int .i64 f.d5, .int .i64 f.d6] 40, Part.cells b8 [.int .i64 a.kind, .int .u64 a.num, .string a.foot, .int .u64 a.req, .string a.path, .int .i64 a.mode, .int .u64 a.n, .int .i64 a.time] 28, Part.cells b9 [.int .i64 ir, .int .i64 it] 30, Part.cells b12 [.int .i64 b.kind, .int .u64 b.num, .string b.foot, .int .u64 b.req, .string b.path, .int .i64 b.mode, .int .u64 b.n, .int .i64 b.time] 28, Part.cells b13 [.int .i64 kr, .int .i64 kt] 30, Part.old w] wr
set_option maxRecDepth 100000 in
set_option maxHeartbeats 4000000 in
theorem covers_law {w : World} {va vb : Value} {os ot : List Op12} (hops : OpsAt w va os) (hopt : OpsAt w vb ot) (hol : os.length ≤ 9223372036854775807) (hot : ot.length ≤ 9223372036854775807) (a b : Cm) (an0 : 0 ≤ a.num) (an1 : a.num < big64) (ir it seq kr kt : Int) :
    Calls Tryd.prog 4 #[va, a.val, .agg #[.int .i64 ir, .int .i64 it], .int .i64 seq, vb, b.val, .agg #[.int .i64 kr, .int .i64 kt]] w fun e w' => e = .returned (.bool true) ∧ Below w.heap.size w w' := by
  have hA : At [Part.old w] w [Part.old w] w := At.start ⟨fun _ _ => rfl, trivial, nofun⟩
  have hF := hA.facts
  have hf1 := fun (w1 : World) (q : Sep [Part.old w] w1) => fits_any q hops 30 hol
  have hf2 := fun (w1 : World) (q : Sep [Part.old w] w1) => fits_any q hopt 30 hot
  have hs1 := fun w => small_any a w
  have hs2 := fun w => small_any b w
  have hr1 := fun w => Attr.idRight_any ir it w
  have hr2 := fun w => Attr.idRight_any kr kt w
  have hcc0 := fun (ha : smallB a = true) (hb : smallB b = true) w => Cmd.clashC_any a b w (by unfold smallB at ha; simp at ha; omega) (by unfold smallB at ha; simp at ha; omega) (by unfold smallB at hb; simp at hb; omega) (by unfold smallB at hb; simp at hb; omega)
  obtain ⟨f1, hf1d⟩ : ∃ x, fitsB os 30 = x := ⟨_, rfl⟩
  obtain ⟨f2, hf2d⟩ : ∃ x, fitsB ot 30 = x := ⟨_, rfl⟩
  obtain ⟨s1, hs1d⟩ : ∃ x, smallB a = x := ⟨_, rfl⟩
  obtain ⟨s2, hs2d⟩ : ∃ x, smallB b = x := ⟨_, rfl⟩
  obtain ⟨r1, hr1d⟩ : ∃ x, rightI ir it = x := ⟨_, rfl⟩
  obtain ⟨r2, hr2d⟩ : ∃ x, rightI kr kt = x := ⟨_, rfl⟩
  obtain ⟨qe, hqe⟩ : ∃ x, (ir == kr) = x := ⟨_, rfl⟩
  obtain ⟨l0, hl0⟩ : ∃ x, decide (seq < 0) = x := ⟨_, rfl⟩
  obtain ⟨l1, hl1⟩ : ∃ x, decide (1073741824 ≤ seq) = x := ⟨_, rfl⟩
  obtain ⟨cb, hcbd⟩ : ∃ x, clashB a b = x := ⟨_, rfl⟩
  rw [hf1d] at hf1
  rw [hf2d] at hf2
  rw [hs1d] at hs1 hcc0
  rw [hs2d] at hs2 hcc0
  rw [hr1d] at hr1
  rw [hr2d] at hr2
  rw [hcbd] at hcc0
  have hall := Lib.hid (show fitsB os 30 = f1 ∧ fitsB ot 30 = f2 ∧ smallB a = s1 ∧ smallB b = s2 ∧ rightI ir it = r1 ∧ rightI kr kt = r2 ∧ clashB a b = cb from ⟨hf1d, hf2d, hs1d, hs2d, hr1d, hr2d, hcbd⟩)
  clear hf1d hf2d hs1d hs2d hr1d hr2d hcbd
  obtain ⟨sa, sc, rfl, hel⟩ := hops
  obtain ⟨ta, tc, rfl, het⟩ := hopt
  have hel' := Lib.hid hel
  have het' := Lib.hid het
  clear hel het
  have hcc' := Lib.hid hcc0
  clear hcc0
  simp only [Cm.val] at *
  (try simp only [uA] at hA); have hF := hA.facts; (try simp only [fA, facts_row, and_true, true_and] at hF)
  go_enter Tryd.func4, Tryd.ntmps4
  go_wp2_with (first | ((with_reducible show wpList _ _ _ ({ dst := some 8, op := Op.box _ _, type := _, pos := _, after := _, guard := _ } :: _) _ _); ((with_reducible refine gbx ?_); refine wX 28 (.agg #[.int .i64 a.kind, .int .u64 a.num, .string a.foot, .int .u64 a.req, .string a.path, .int .i64 a.mode, .int .u64 a.n, .int .i64 a.time]) [.int .i64 a.kind, .int .u64 a.num, .string a.foot, .int .u64 a.req, .string a.path, .int .i64 a.mode, .int .u64 a.n, .int .i64 a.time] hA ?_; clear hF hA; intro b8 w1 hA hb8; (try simp only [uA] at hA); have hF := hA.facts; (try simp only [fA, facts_row, and_true, true_and] at hF))) | ((with_reducible show wpList _ _ _ ({ dst := some 9, op := Op.box _ _, type := _, pos := _, after := _, guard := _ } :: _) _ _); ((with_reducible refine gbx ?_); refine wX 30 (.agg #[.int .i64 ir, .int .i64 it]) [.int .i64 ir, .int .i64 it] hA ?_; clear hF hA; intro b9 w1 hA hb9; (try simp only [uA] at hA); have hF := hA.facts; (try simp only [fA, facts_row, and_true, true_and] at hF))) | ((with_reducible show wpList _ _ _ ({ dst := some 12, op := Op.box _ _, type := _, pos := _, after := _, guard := _ } :: _) _ _); ((with_reducible refine gbx ?_); refine wX 28 (.agg #[.int .i64 b.kind, .int .u64 b.num, .string b.foot, .int .u64 b.req, .string b.path, .int .i64 b.mode, .int .u64 b.n, .int .i64 b.time]) [.int .i64 b.kind, .int .u64 b.num, .string b.foot, .int .u64 b.req, .string b.path, .int .i64 b.mode, .int .u64 b.n, .int .i64 b.time] hA ?_; clear hF hA; intro b12 w1 hA hb12; (try simp only [uA] at hA); have hF := hA.facts; (try simp only [fA, facts_row, and_true, true_and] at hF))) | ((with_reducible show wpList _ _ _ ({ dst := some 13, op := Op.box _ _, type := _, pos := _, after := _, guard := _ } :: _) _ _); ((with_reducible refine gbx ?_); refine wX 30 (.agg #[.int .i64 kr, .int .i64 kt]) [.int .i64 kr, .int .i64 kt] hA ?_; clear hF hA; intro b13 w1 hA hb13; (try simp only [uA] at hA); have hF := hA.facts; (try simp only [fA, facts_row, and_true, true_and] at hF))) | ((with_reducible refine gst ?_); refine wS hA ?_; clear hF hA; intro w1 hA; (try simp only [uA] at hA); have hF := hA.facts; (try simp only [fA, facts_row, and_true, true_and] at hF)) | ((with_reducible refine gbx ?_); refine wB hA ?_; clear hF hA; intro b1 w1 hA hb1; (try simp only [uA] at hA); have hF := hA.facts; (try simp only [fA, facts_row, and_true, true_and] at hF)))
  refine (anchor_any _).mono ?_
  rintro e w1 ⟨rfl, hx⟩
  have hB := hA.ext hx
  clear hF hA hx
  have hA := hB
  clear hB
  have hF := hA.facts
  (try simp only [uA] at hA); have hF := hA.facts; (try simp only [fA, facts_row, and_true, true_and] at hF)
  go_wp2_with (first | ((with_reducible refine gst ?_); refine wS hA ?_; clear hF hA; intro w1 hA; (try simp only [uA] at hA); have hF := hA.facts; (try simp only [fA, facts_row, and_true, true_and] at hF)) | ((with_reducible refine gbx ?_); refine wB hA ?_; clear hF hA; intro b1 w1 hA hb1; (try simp only [uA] at hA); have hF := hA.facts; (try simp only [fA, facts_row, and_true, true_and] at hF)))
  refine (hf1 _ (hA.sep1 (A := Part.old w) (by with_reducible repeat (first | exact Sel.here | apply Sel.there)))).mono ?_
  clear hf1
  rintro e w1 ⟨rfl, hT⟩; have hB := hA.call1 (by with_reducible repeat (first | exact Sel.here | apply Sel.there)) hT; clear hF hA hT; have hA := hB; clear hB; (try simp only [uA] at hA); have hF := hA.facts; (try simp only [fA, facts_row, and_true, true_and] at hF)
  cases f1
  · go_wp2_with (first | ((with_reducible refine gst ?_); refine wS hA ?_; clear hF hA; intro w1 hA; (try simp only [uA] at hA); have hF := hA.facts; (try simp only [fA, facts_row, and_true, true_and] at hF)) | ((with_reducible refine gbx ?_); refine wB hA ?_; clear hF hA; intro b1 w1 hA hb1; (try simp only [uA] at hA); have hF := hA.facts; (try simp only [fA, facts_row, and_true, true_and] at hF)))
    go_ret
    exact ⟨rfl, below_old hA (by with_reducible repeat (first | exact Sel.here | apply Sel.there))⟩
  · skip
    go_wp2_with (first | ((with_reducible refine gst ?_); refine wS hA ?_; clear hF hA; intro w1 hA; (try simp only [uA] at hA); have hF := hA.facts; (try simp only [fA, facts_row, and_true, true_and] at hF)) | ((with_reducible refine gbx ?_); refine wB hA ?_; clear hF hA; intro b1 w1 hA hb1; (try simp only [uA] at hA); have hF := hA.facts; (try simp only [fA, facts_row, and_true, true_and] at hF)))
    refine (hf2 _ (hA.sep1 (A := Part.old w) (by with_reducible repeat (first | exact Sel.here | apply Sel.there)))).mono ?_
    clear hf2
    rintro e w1 ⟨rfl, hT⟩; have hB := hA.call1 (by with_reducible repeat (first | exact Sel.here | apply Sel.there)) hT; clear hF hA hT; have hA := hB; clear hB; (try simp only [uA] at hA); have hF := hA.facts; (try simp only [fA, facts_row, and_true, true_and] at hF)
    cases f2
    · go_wp2_with (first | ((with_reducible refine gst ?_); refine wS hA ?_; clear hF hA; intro w1 hA; (try simp only [uA] at hA); have hF := hA.facts; (try simp only [fA, facts_row, and_true, true_and] at hF)) | ((with_reducible refine gbx ?_); refine wB hA ?_; clear hF hA; intro b1 w1 hA hb1; (try simp only [uA] at hA); have hF := hA.facts; (try simp only [fA, facts_row, and_true, true_and] at hF)))
      go_ret
      exact ⟨rfl, below_old hA (by with_reducible repeat (first | exact Sel.here | apply Sel.there))⟩
    · skip
      go_wp2_with (first | ((with_reducible refine gst ?_); refine wS hA ?_; clear hF hA; intro w1 hA; (try simp only [uA] at hA); have hF := hA.facts; (try simp only [fA, facts_row, and_true, true_and] at hF)) | ((with_reducible refine gbx ?_); refine wB hA ?_; clear hF hA; intro b1 w1 hA hb1; (try simp only [uA] at hA); have hF := hA.facts; (try simp only [fA, facts_row, and_true, true_and] at hF)))
      refine (hs1 _).mono ?_
      clear hs1
      rintro e w1 ⟨rfl, hx⟩
      have hB := hA.ext hx
      clear hF hA hx
      have hA := hB
      clear hB
      have hF := hA.facts
      (try simp only [uA] at hA); have hF := hA.facts; (try simp only [fA, facts_row, and_true, true_and] at hF)
      cases s1
      · go_wp2_with (first | ((with_reducible refine gst ?_); refine wS hA ?_; clear hF hA; intro w1 hA; (try simp only [uA] at hA); have hF := hA.facts; (try simp only [fA, facts_row, and_true, true_and] at hF)) | ((with_reducible refine gbx ?_); refine wB hA ?_; clear hF hA; intro b1 w1 hA hb1; (try simp only [uA] at hA); have hF := hA.facts; (try simp only [fA, facts_row, and_true, true_and] at hF)))
        go_ret
        exact ⟨rfl, below_old hA (by with_reducible repeat (first | exact Sel.here | apply Sel.there))⟩
      · skip
        go_wp2_with (first | ((with_reducible refine gst ?_); refine wS hA ?_; clear hF hA; intro w1 hA; (try simp only [uA] at hA); have hF := hA.facts; (try simp only [fA, facts_row, and_true, true_and] at hF)) | ((with_reducible refine gbx ?_); refine wB hA ?_; clear hF hA; intro b1 w1 hA hb1; (try simp only [uA] at hA); have hF := hA.facts; (try simp only [fA, facts_row, and_true, true_and] at hF)))
        refine (hs2 _).mono ?_
        clear hs2
        rintro e w1 ⟨rfl, hx⟩
        have hB := hA.ext hx
        clear hF hA hx
        have hA := hB
        clear hB
        have hF := hA.facts
        (try simp only [uA] at hA); have hF := hA.facts; (try simp only [fA, facts_row, and_true, true_and] at hF)
        cases s2
        · go_wp2_with (first | ((with_reducible refine gst ?_); refine wS hA ?_; clear hF hA; intro w1 hA; (try simp only [uA] at hA); have hF := hA.facts; (try simp only [fA, facts_row, and_true, true_and] at hF)) | ((with_reducible refine gbx ?_); refine wB hA ?_; clear hF hA; intro b1 w1 hA hb1; (try simp only [uA] at hA); have hF := hA.facts; (try simp only [fA, facts_row, and_true, true_and] at hF)))
          go_ret
          exact ⟨rfl, below_old hA (by with_reducible repeat (first | exact Sel.here | apply Sel.there))⟩
        · skip
          go_wp2_with (first | ((with_reducible refine gst ?_); refine wS hA ?_; clear hF hA; intro w1 hA; (try simp only [uA] at hA); have hF := hA.facts; (try simp only [fA, facts_row, and_true, true_and] at hF)) | ((with_reducible refine gbx ?_); refine wB hA ?_; clear hF hA; intro b1 w1 hA hb1; (try simp only [uA] at hA); have hF := hA.facts; (try simp only [fA, facts_row, and_true, true_and] at hF)))
          refine (hr1 _).mono ?_
          clear hr1
          rintro e w1 ⟨rfl, hx⟩
          have hB := hA.ext hx
          clear hF hA hx
          have hA := hB
          clear hB
          have hF := hA.facts
          (try simp only [uA] at hA); have hF := hA.facts; (try simp only [fA, facts_row, and_true, true_and] at hF)
          cases r1
          · go_wp2_with (first | ((with_reducible refine gst ?_); refine wS hA ?_; clear hF hA; intro w1 hA; (try simp only [uA] at hA); have hF := hA.facts; (try simp only [fA, facts_row, and_true, true_and] at hF)) | ((with_reducible refine gbx ?_); refine wB hA ?_; clear hF hA; intro b1 w1 hA hb1; (try simp only [uA] at hA); have hF := hA.facts; (try simp only [fA, facts_row, and_true, true_and] at hF)))
            go_ret
            exact ⟨rfl, below_old hA (by with_reducible repeat (first | exact Sel.here | apply Sel.there))⟩
          · skip
            go_wp2_with (first | ((with_reducible refine gst ?_); refine wS hA ?_; clear hF hA; intro w1 hA; (try simp only [uA] at hA); have hF := hA.facts; (try simp only [fA, facts_row, and_true, true_and] at hF)) | ((with_reducible refine gbx ?_); refine wB hA ?_; clear hF hA; intro b1 w1 hA hb1; (try simp only [uA] at hA); have hF := hA.facts; (try simp only [fA, facts_row, and_true, true_and] at hF)))
            refine (hr2 _).mono ?_
            clear hr2
            rintro e w1 ⟨rfl, hx⟩
            have hB := hA.ext hx
            clear hF hA hx
            have hA := hB
            clear hB
            have hF := hA.facts
            (try simp only [uA] at hA); have hF := hA.facts; (try simp only [fA, facts_row, and_true, true_and] at hF)
            cases r2
            · go_wp2_with (first | ((with_reducible refine gst ?_); refine wS hA ?_; clear hF hA; intro w1 hA; (try simp only [uA] at hA); have hF := hA.facts; (try simp only [fA, facts_row, and_true, true_and] at hF)) | ((with_reducible refine gbx ?_); refine wB hA ?_; clear hF hA; intro b1 w1 hA hb1; (try simp only [uA] at hA); have hF := hA.facts; (try simp only [fA, facts_row, and_true, true_and] at hF)))
              go_ret
              exact ⟨rfl, below_old hA (by with_reducible repeat (first | exact Sel.here | apply Sel.there))⟩
            · skip
              cases qe
              · skip
                cases l0
                · skip
                  cases l1
                  · skip
                    go_wp2_with (first | ((with_reducible refine gst ?_); refine wS hA ?_; clear hF hA; intro w1 hA; (try simp only [uA] at hA); have hF := hA.facts; (try simp only [fA, facts_row, and_true, true_and] at hF)) | ((with_reducible refine gbx ?_); refine wB hA ?_; clear hF hA; intro b1 w1 hA hb1; (try simp only [uA] at hA); have hF := hA.facts; (try simp only [fA, facts_row, and_true, true_and] at hF)))
                    refine (hcc'.out (by first | trivial | rfl) (by first | trivial | rfl) _).mono ?_
                    skip
                    rintro e w1 ⟨rfl, hx⟩
                    have hB := hA.ext hx
                    clear hF hA hx
                    have hA := hB
                    clear hB
                    have hF := hA.facts
                    (try simp only [uA] at hA); have hF := hA.facts; (try simp only [fA, facts_row, and_true, true_and] at hF)
                    cases cb
                    · go_wp2_with (first | ((with_reducible refine gst ?_); refine wS hA ?_; clear hF hA; intro w1 hA; (try simp only [uA] at hA); have hF := hA.facts; (try simp only [fA, facts_row, and_true, true_and] at hF)) | ((with_reducible refine gbx ?_); refine wB hA ?_; clear hF hA; intro b1 w1 hA hb1; (try simp only [uA] at hA); have hF := hA.facts; (try simp only [fA, facts_row, and_true, true_and] at hF)))
                      go_ret
                      exact ⟨rfl, below_old hA (by with_reducible repeat (first | exact Sel.here | apply Sel.there))⟩
                    · skip
                      have hab := Lib.hid (show smallB a = true ∧ smallB b = true from ⟨hall.out.2.2.1, hall.out.2.2.2.1⟩)
                      have haf : a.foot.size ≤ 1000 ∧ a.path.size ≤ 1000 := by have h := hab.out.1; unfold smallB at h; simp at h; omega
                      have hbf : b.foot.size ≤ 1000 ∧ b.path.size ≤ 1000 := by have h := hab.out.2; unfold smallB at h; simp at h; omega
                      have hos30 : os.length ≤ 30 ∧ (∀ o ∈ os, okB o = true) := by have h := hall.out.1; unfold fitsB at h; simp only [Bool.and_eq_true, List.all_eq_true, decide_eq_true_iff] at h; exact ⟨by omega, h.1⟩
                      have hot30 : ot.length ≤ 30 ∧ (∀ o ∈ ot, okB o = true) := by have h := hall.out.2.1; unfold fitsB at h; simp only [Bool.and_eq_true, List.all_eq_true, decide_eq_true_iff] at h; exact ⟨by omega, h.1⟩
                      have hosk := Lib.hid hos30.2
                      have hotk := Lib.hid hot30.2
                      obtain ⟨hos30, _⟩ := hos30
                      obtain ⟨hot30, _⟩ := hot30
                      go_wp2_with (first | ((with_reducible refine gst ?_); refine wS hA ?_; clear hF hA; intro w1 hA; (try simp only [uA] at hA); have hF := hA.facts; (try simp only [fA, facts_row, and_true, true_and] at hF)) | ((with_reducible refine gbx ?_); refine wB hA ?_; clear hF hA; intro b1 w1 hA hb1; (try simp only [uA] at hA); have hF := hA.facts; (try simp only [fA, facts_row, and_true, true_and] at hF)))
                      refine (new_any _).mono ?_
                      rintro e w2 ⟨p, m, rfl, hT⟩
                      have hB := hA.call0 hT
                      clear hF hA hT
                      have hA := hB
                      clear hB
                      simp only [List.cons_append, List.nil_append] at hA
                      have hF := hA.facts
                      (try simp only [uA] at hA); have hF := hA.facts; (try simp only [fA, facts_row, and_true, true_and] at hF)
                      go_wp2_with (first | ((with_reducible refine gst ?_); refine wS hA ?_; clear hF hA; intro w1 hA; (try simp only [uA] at hA); have hF := hA.facts; (try simp only [fA, facts_row, and_true, true_and] at hF)) | ((with_reducible refine gbx ?_); refine wB hA ?_; clear hF hA; intro b1 w1 hA hb1; (try simp only [uA] at hA); have hF := hA.facts; (try simp only [fA, facts_row, and_true, true_and] at hF)))
                      try go_frame
                      go_loopg [76] os.length (CvRel w p m b8 b9 b12 b13 a b ir it kr kt [] os)
                      case atStart => exact ⟨0, [], rfl, by simp, Grow.refl _, nofun, by simp, hA.pick (by repeat (first | exact Picks.nil | refine Picks.cons (by repeat (first | exact Sel.here | apply Sel.there)) ?_))⟩
                      case round =>
                        obtain ⟨i, es, rfl, hik, hgr, hfi, hln, hB⟩ := hrel
                        have hfi' := Lib.hid hfi
                        clear hF hA hgr hfi
                        have hA := hB
                        clear hB
                        by_cases hi : i < os.length
                        · obtain ⟨bk, off, rfl, hce, hnn⟩ := hel'.out i hi
                          have hoo := Lib.hid (okB_ok (hosk.out os[i] (List.getElem_mem hi)) hnn)
                          have hgs := Lib.hid (fineL_step hfi'.out hoo.out)
                          have hls := step_len es os[i]
                          obtain ⟨o, hoi⟩ : ∃ o, os[i] = o := ⟨_, rfl⟩
                          simp only [hoi] at hce hoo hgs hls
                          clear hoi hnn
                          have hst := fun (w1 : World) (q : Sep [IxP p m es] w1) => step_any q o hoo.out
                          generalize stepE es o = es' at *
                          obtain ⟨kd, ⟨kind, num, foot, req, path, mode, n, time⟩, r, t, q, ⟨ef, en, ⟨e0, e1, e2, e3, e4, e5, e6, e7⟩⟩⟩ := o
                          have hr22' := Lib.hid (show ∀ (k : Nat) u, ([.int .i64 kd, .int .i64 kind, .int .u64 num, .string foot, .int .u64 req, .string path, .int .i64 mode, .int .u64 n, .int .i64 time, .int .i64 r, .int .i64 t, .int .i64 q, .string ef, .int .u64 en, .int .i64 e0, .int .i64 e1, .int .i64 e2, .int .i64 e3, .int .i64 e4, .int .i64 e5, .int .i64 e6, .int .i64 e7] : List Value)[k]? = some u → wr.cell? ⟨bk, off + i * 22 + k, none⟩ = some u from fun k u hk => old_cell (hA.get (A := Part.old w) (by with_reducible repeat (first | exact Sel.here | apply Sel.there))) (hce k u hk))
                          clear hce hoo
                          have hF := hA.facts
                          (try simp only [uA] at hA); have hF := hA.facts; (try simp only [fA, facts_row, and_true, true_and] at hF)
                          go_wp2_with (first | ((with_reducible refine gal ?_); refine wA 44 (.agg #[.int .i64 0, .int .i64 0, .int .u64 0, .string .empty, .int .u64 0, .string .empty, .int .i64 0, .int .u64 0, .int .i64 0, .int .i64 0, .int .i64 0, .int .i64 0, .string .empty, .int .u64 0, .int .i64 0, .int .i64 0, .int .i64 0, .int .i64 0, .int .i64 0, .int .i64 0, .int .i64 0, .int .i64 0]) [.int .i64 0, .int .i64 0, .int .u64 0, .string .empty, .int .u64 0, .string .empty, .int .i64 0, .int .u64 0, .int .i64 0, .int .i64 0, .int .i64 0, .int .i64 0, .string .empty, .int .u64 0, .int .i64 0, .int .i64 0, .int .i64 0, .int .i64 0, .int .i64 0, .int .i64 0, .int .i64 0, .int .i64 0] hA ?_; clear hF hA; intro b17 w1 hA hb17; (try simp only [uA] at hA); have hF := hA.facts; (try simp only [fA, facts_row, and_true, true_and] at hF)) | ((with_reducible show wpList _ _ _ ({ dst := some 79, op := Op.load _ _, type := _, pos := _, after := _, guard := _ } :: _) _ _); refine wpList_loadRow_at (vs := [.int .i64 kd, .int .i64 kind, .int .u64 num, .string foot, .int .u64 req, .string path, .int .i64 mode, .int .u64 n, .int .i64 time, .int .i64 r, .int .i64 t, .int .i64 q, .string ef, .int .u64 en, .int .i64 e0, .int .i64 e1, .int .i64 e2, .int .i64 e3, .int .i64 e4, .int .i64 e5, .int .i64 e6, .int .i64 e7]) rfl rfl (by (try simp only [Act.eval, eV]) <;> exact rfl) hr22'.out (by kernel_rfl) (by kernel_rfl) ?_) | ((with_reducible show wpList _ _ _ ({ dst := _, op := Op.store _ _ _, type := _, pos := _, after := _, guard := _ } :: _) _ _); refine wpList_storeAll_at (b := b17) (vs := [.int .i64 kd, .int .i64 kind, .int .u64 num, .string foot, .int .u64 req, .string path, .int .i64 mode, .int .u64 n, .int .i64 time, .int .i64 r, .int .i64 t, .int .i64 q, .string ef, .int .u64 en, .int .i64 e0, .int .i64 e1, .int .i64 e2, .int .i64 e3, .int .i64 e4, .int .i64 e5, .int .i64 e6, .int .i64 e7]) rfl rfl (by (try simp only [Act.eval, eV]) <;> exact rfl) (by (try simp only [Act.eval, eV]) <;> exact rfl) (by kernel_rfl) hA (by with_reducible repeat (first | exact Sel.here | apply Sel.there)) (by kernel_rfl) rfl rfl ?_; intro w1 hB; clear hF hA; have hA := hB; clear hB; (try simp only [uA] at hA); have hF := hA.facts; (try simp only [fA, facts_row, and_true, true_and] at hF)) | ((with_reducible show wpList _ _ _ ({ dst := some 81, op := Op.load _ _, type := _, pos := _, after := _, guard := _ } :: _) _ _); refine wpList_loadPart_at (b := b17) (vs := [.int .i64 kd, .int .i64 kind, .int .u64 num, .string foot, .int .u64 req, .string path, .int .i64 mode, .int .u64 n, .int .i64 time, .int .i64 r, .int .i64 t, .int .i64 q, .string ef, .int .u64 en, .int .i64 e0, .int .i64 e1, .int .i64 e2, .int .i64 e3, .int .i64 e4, .int .i64 e5, .int .i64 e6, .int .i64 e7]) rfl rfl (by (try simp only [Act.eval, eV]) <;> exact rfl) hA (by with_reducible repeat (first | exact Sel.here | apply Sel.there)) (by kernel_rfl) (by kernel_rfl) ?_) | ((with_reducible refine gst ?_); refine wS hA ?_; clear hF hA; intro w1 hA; (try simp only [uA] at hA); have hF := hA.facts; (try simp only [fA, facts_row, and_true, true_and] at hF)) | ((with_reducible refine gbx ?_); refine wB hA ?_; clear hF hA; intro b1 w1 hA hb1; (try simp only [uA] at hA); have hF := hA.facts; (try simp only [fA, facts_row, and_true, true_and] at hF)))
                          refine (hst _ (hA.sep1 (A := IxP p m es) (by with_reducible repeat (first | exact Sel.here | apply Sel.there)))).mono ?_
                          clear hst
                          rintro e w3 ⟨v, bb, rfl, hT⟩
                          have hB := hA.call1 (A := IxP p m es) (by with_reducible repeat (first | exact Sel.here | apply Sel.there)) hT
                          clear hF hA hT
                          have hA := hB
                          clear hB
                          simp only [List.cons_append, List.nil_append] at hA
                          have hF := hA.facts
                          (try simp only [uA] at hA); have hF := hA.facts; (try simp only [fA, facts_row, and_true, true_and] at hF)
                          go_wp2_with (first | ((with_reducible refine gst ?_); refine wS hA ?_; clear hF hA; intro w1 hA; (try simp only [uA] at hA); have hF := hA.facts; (try simp only [fA, facts_row, and_true, true_and] at hF)) | ((with_reducible refine gbx ?_); refine wB hA ?_; clear hF hA; intro b1 w1 hA hb1; (try simp only [uA] at hA); have hF := hA.facts; (try simp only [fA, facts_row, and_true, true_and] at hF)))
                          go_roundg (gk - 1)
                          case measure => omega
                          case rel => exact ⟨i + 1, es', by simp, by omega, nofun, hgs.out, by simp at hln ⊢; omega, hA.pick (by repeat (first | exact Picks.nil | refine Picks.cons (by repeat (first | exact Sel.here | apply Sel.there)) ?_))⟩
                        · have hle1 : es.length ≤ 30 := by simp at hln; omega
                          have hn1 := note_len es (keyC a) ir it seq
                          have hfn := fineL_note hfi'.out a haf.1 haf.2 ir it seq
                          have hgd := Lib.hid (fun (es2 : List En) (hG : Grow (noteE es (keyC a) ir it seq) es2) (hF2 : FineL es2) => covers_good hfi'.out hfn hG hF2 hall.out.2.2.2.2.2.2 hall.out.2.2.2.2.1 hall.out.2.2.2.2.2.1 (by simpa using hqe) (by simpa using hl0) (by simpa using hl1))
                          have hnt := fun (w1 : World) (q : Sep [IxP p m es] w1) => note_any q a haf.1 haf.2 an0 an1 ir it seq
                          obtain ⟨es1, he1⟩ : ∃ x, noteE es (keyC a) ir it seq = x := ⟨_, rfl⟩
                          rw [he1] at hn1 hfn hgd hnt
                          clear he1
                          have hfn' := Lib.hid hfn
                          have hak := fun (w1 : World) (q : Sep [IxP p m es1] w1) => ask_any q b hbf.1 hbf.2 (fun e he => (hfn'.out e he).2) (by omega) kr kt
                          obtain ⟨⟨a0, a1, a2, a3, a4, a5, a6, a7⟩, hfd⟩ : ∃ x, askE es1 (keyC b) kr kt = x := ⟨_, rfl⟩
                          rw [hfd] at hak hgd
                          clear hfd hfn hik
                          simp only [Cm.val, A8.val] at hnt hak
                          have hF := hA.facts
                          (try simp only [uA] at hA); have hF := hA.facts; (try simp only [fA, facts_row, and_true, true_and] at hF)
                          go_wp2_with (first | ((with_reducible refine gst ?_); refine wS hA ?_; clear hF hA; intro w1 hA; (try simp only [uA] at hA); have hF := hA.facts; (try simp only [fA, facts_row, and_true, true_and] at hF)) | ((with_reducible refine gbx ?_); refine wB hA ?_; clear hF hA; intro b1 w1 hA hb1; (try simp only [uA] at hA); have hF := hA.facts; (try simp only [fA, facts_row, and_true, true_and] at hF)))
                          refine (hnt _ (hA.sep1 (A := IxP p m es) (by with_reducible repeat (first | exact Sel.here | apply Sel.there)))).mono ?_
                          clear hnt
                          rintro e w1 ⟨rfl, hT⟩; have hB := hA.call1 (by with_reducible repeat (first | exact Sel.here | apply Sel.there)) hT; clear hF hA hT; have hA := hB; clear hB; (try simp only [uA] at hA); have hF := hA.facts; (try simp only [fA, facts_row, and_true, true_and] at hF)
                          go_wp2_with (first | ((with_reducible refine gst ?_); refine wS hA ?_; clear hF hA; intro w1 hA; (try simp only [uA] at hA); have hF := hA.facts; (try simp only [fA, facts_row, and_true, true_and] at hF)) | ((with_reducible refine gbx ?_); refine wB hA ?_; clear hF hA; intro b1 w1 hA hb1; (try simp only [uA] at hA); have hF := hA.facts; (try simp only [fA, facts_row, and_true, true_and] at hF)))
                          refine (hak _ (hA.sep1 (A := IxP p m es1) (by with_reducible repeat (first | exact Sel.here | apply Sel.there)))).mono ?_
                          clear hak
                          rintro e w1 ⟨rfl, hT⟩; have hB := hA.call1 (by with_reducible repeat (first | exact Sel.here | apply Sel.there)) hT; clear hF hA hT; have hA := hB; clear hB; (try simp only [uA] at hA); have hF := hA.facts; (try simp only [fA, facts_row, and_true, true_and] at hF)
                          go_wp2_with (first | ((with_reducible refine gal ?_); refine wA 40 (.agg #[.int .i64 0, .int .i64 0, .int .i64 0, .int .i64 0, .int .i64 0, .int .i64 0, .int .i64 0, .int .i64 0]) [.int .i64 0, .int .i64 0, .int .i64 0, .int .i64 0, .int .i64 0, .int .i64 0, .int .i64 0, .int .i64 0] hA ?_; clear hF hA; intro b18 w1 hA hb18; (try simp only [uA] at hA); have hF := hA.facts; (try simp only [fA, facts_row, and_true, true_and] at hF)) | ((with_reducible refine gst ?_); refine wS hA ?_; clear hF hA; intro w1 hA; (try simp only [uA] at hA); have hF := hA.facts; (try simp only [fA, facts_row, and_true, true_and] at hF)) | ((with_reducible refine gbx ?_); refine wB hA ?_; clear hF hA; intro b1 w1 hA hb1; (try simp only [uA] at hA); have hF := hA.facts; (try simp only [fA, facts_row, and_true, true_and] at hF)))
                          try go_frame
                          go_loopg [95] ot.length (CvRel2 w p m b8 b9 b12 b13 b18 a b ir it kr kt ⟨a0, a1, a2, a3, a4, a5, a6, a7⟩ es1 ot)
                          case atStart => exact ⟨0, es1, rfl, by simp, Grow.refl _, hfn'.out, by simp, hA.pick (by repeat (first | exact Picks.nil | refine Picks.cons (by repeat (first | exact Sel.here | apply Sel.there)) ?_))⟩
                          case round =>
                            obtain ⟨i, es, rfl, hik, hgr, hfi, hln, hB⟩ := hrel
                            have hgr' := Lib.hid hgr
                            have hfi' := Lib.hid hfi
                            clear hF hA hgr hfi
                            have hA := hB
                            clear hB
                            by_cases hi : i < ot.length
                            · obtain ⟨bk, off, rfl, hce, hnn⟩ := het'.out i hi
                              have hoo := Lib.hid (okB_ok (hotk.out ot[i] (List.getElem_mem hi)) hnn)
                              have hgs := Lib.hid (fineL_step hfi'.out hoo.out)
                              have hgw := Lib.hid (hgr'.out.trans (grow_step es ot[i]))
                              have hls := step_len es ot[i]
                              obtain ⟨o, hoi⟩ : ∃ o, ot[i] = o := ⟨_, rfl⟩
                              simp only [hoi] at hce hoo hgs hgw hls
                              clear hoi hnn
                              have hst := fun (w1 : World) (q : Sep [IxP p m es] w1) => step_any q o hoo.out
                              generalize stepE es o = es' at *
                              obtain ⟨kd, ⟨kind, num, foot, req, path, mode, n, time⟩, r, t, q, ⟨ef, en, ⟨e0, e1, e2, e3, e4, e5, e6, e7⟩⟩⟩ := o
                              have hr22' := Lib.hid (show ∀ (k : Nat) u, ([.int .i64 kd, .int .i64 kind, .int .u64 num, .string foot, .int .u64 req, .string path, .int .i64 mode, .int .u64 n, .int .i64 time, .int .i64 r, .int .i64 t, .int .i64 q, .string ef, .int .u64 en, .int .i64 e0, .int .i64 e1, .int .i64 e2, .int .i64 e3, .int .i64 e4, .int .i64 e5, .int .i64 e6, .int .i64 e7] : List Value)[k]? = some u → wr.cell? ⟨bk, off + i * 22 + k, none⟩ = some u from fun k u hk => old_cell (hA.get (A := Part.old w) (by with_reducible repeat (first | exact Sel.here | apply Sel.there))) (hce k u hk))
                              clear hce hoo
                              have hF := hA.facts
                              (try simp only [uA] at hA); have hF := hA.facts; (try simp only [fA, facts_row, and_true, true_and] at hF)
                              go_wp2_with (first | ((with_reducible refine gal ?_); refine wA 44 (.agg #[.int .i64 0, .int .i64 0, .int .u64 0, .string .empty, .int .u64 0, .string .empty, .int .i64 0, .int .u64 0, .int .i64 0, .int .i64 0, .int .i64 0, .int .i64 0, .string .empty, .int .u64 0, .int .i64 0, .int .i64 0, .int .i64 0, .int .i64 0, .int .i64 0, .int .i64 0, .int .i64 0, .int .i64 0]) [.int .i64 0, .int .i64 0, .int .u64 0, .string .empty, .int .u64 0, .string .empty, .int .i64 0, .int .u64 0, .int .i64 0, .int .i64 0, .int .i64 0, .int .i64 0, .string .empty, .int .u64 0, .int .i64 0, .int .i64 0, .int .i64 0, .int .i64 0, .int .i64 0, .int .i64 0, .int .i64 0, .int .i64 0] hA ?_; clear hF hA; intro b17 w1 hA hb17; (try simp only [uA] at hA); have hF := hA.facts; (try simp only [fA, facts_row, and_true, true_and] at hF)) | ((with_reducible show wpList _ _ _ ({ dst := some 98, op := Op.load _ _, type := _, pos := _, after := _, guard := _ } :: _) _ _); refine wpList_loadRow_at (vs := [.int .i64 kd, .int .i64 kind, .int .u64 num, .string foot, .int .u64 req, .string path, .int .i64 mode, .int .u64 n, .int .i64 time, .int .i64 r, .int .i64 t, .int .i64 q, .string ef, .int .u64 en, .int .i64 e0, .int .i64 e1, .int .i64 e2, .int .i64 e3, .int .i64 e4, .int .i64 e5, .int .i64 e6, .int .i64 e7]) rfl rfl (by (try simp only [Act.eval, eV]) <;> exact rfl) hr22'.out (by kernel_rfl) (by kernel_rfl) ?_) | ((with_reducible show wpList _ _ _ ({ dst := _, op := Op.store _ _ _, type := _, pos := _, after := _, guard := _ } :: _) _ _); refine wpList_storeAll_at (b := b17) (vs := [.int .i64 kd, .int .i64 kind, .int .u64 num, .string foot, .int .u64 req, .string path, .int .i64 mode, .int .u64 n, .int .i64 time, .int .i64 r, .int .i64 t, .int .i64 q, .string ef, .int .u64 en, .int .i64 e0, .int .i64 e1, .int .i64 e2, .int .i64 e3, .int .i64 e4, .int .i64 e5, .int .i64 e6, .int .i64 e7]) rfl rfl (by (try simp only [Act.eval, eV]) <;> exact rfl) (by (try simp only [Act.eval, eV]) <;> exact rfl) (by kernel_rfl) hA (by with_reducible repeat (first | exact Sel.here | apply Sel.there)) (by kernel_rfl) rfl rfl ?_; intro w1 hB; clear hF hA; have hA := hB; clear hB; (try simp only [uA] at hA); have hF := hA.facts; (try simp only [fA, facts_row, and_true, true_and] at hF)) | ((with_reducible show wpList _ _ _ ({ dst := some 100, op := Op.load _ _, type := _, pos := _, after := _, guard := _ } :: _) _ _); refine wpList_loadPart_at (b := b17) (vs := [.int .i64 kd, .int .i64 kind, .int .u64 num, .string foot, .int .u64 req, .string path, .int .i64 mode, .int .u64 n, .int .i64 time, .int .i64 r, .int .i64 t, .int .i64 q, .string ef, .int .u64 en, .int .i64 e0, .int .i64 e1, .int .i64 e2, .int .i64 e3, .int .i64 e4, .int .i64 e5, .int .i64 e6, .int .i64 e7]) rfl rfl (by (try simp only [Act.eval, eV]) <;> exact rfl) hA (by with_reducible repeat (first | exact Sel.here | apply Sel.there)) (by kernel_rfl) (by kernel_rfl) ?_) | ((with_reducible refine gst ?_); refine wS hA ?_; clear hF hA; intro w1 hA; (try simp only [uA] at hA); have hF := hA.facts; (try simp only [fA, facts_row, and_true, true_and] at hF)) | ((with_reducible refine gbx ?_); refine wB hA ?_; clear hF hA; intro b1 w1 hA hb1; (try simp only [uA] at hA); have hF := hA.facts; (try simp only [fA, facts_row, and_true, true_and] at hF)))
                              refine (hst _ (hA.sep1 (A := IxP p m es) (by with_reducible repeat (first | exact Sel.here | apply Sel.there)))).mono ?_
                              clear hst
                              rintro e w3 ⟨v, bb, rfl, hT⟩
                              have hB := hA.call1 (A := IxP p m es) (by with_reducible repeat (first | exact Sel.here | apply Sel.there)) hT
                              clear hF hA hT
                              have hA := hB
                              clear hB
                              simp only [List.cons_append, List.nil_append] at hA
                              have hF := hA.facts
                              (try simp only [uA] at hA); have hF := hA.facts; (try simp only [fA, facts_row, and_true, true_and] at hF)
                              go_wp2_with (first | ((with_reducible refine gst ?_); refine wS hA ?_; clear hF hA; intro w1 hA; (try simp only [uA] at hA); have hF := hA.facts; (try simp only [fA, facts_row, and_true, true_and] at hF)) | ((with_reducible refine gbx ?_); refine wB hA ?_; clear hF hA; intro b1 w1 hA hb1; (try simp only [uA] at hA); have hF := hA.facts; (try simp only [fA, facts_row, and_true, true_and] at hF)))
                              go_roundg (gk - 1)
                              case measure => omega
                              case rel => exact ⟨i + 1, es', by simp, by omega, hgw.out, hgs.out, by omega, hA.pick (by repeat (first | exact Picks.nil | refine Picks.cons (by repeat (first | exact Sel.here | apply Sel.there)) ?_))⟩
                            · have hl2 : es.length ≤ 100 := by omega
                              have hgd2 := hgd.out es hgr'.out hfi'.out
                              have hak := fun (w1 : World) (q : Sep [IxP p m es] w1) => ask_any q b hbf.1 hbf.2 (fun e he => (hfi'.out e he).2) (by omega) kr kt
                              obtain ⟨⟨c0, c1, c2, c3, c4, c5, c6, c7⟩, hfd⟩ : ∃ x, askE es (keyC b) kr kt = x := ⟨_, rfl⟩
                              rw [hfd] at hak hgd2
                              clear hfd hik hgd
                              have hcv := fun w => Attr.covers_yes ⟨a0, a1, a2, a3, a4, a5, a6, a7⟩ ir it hall.out.2.2.2.2.1 hgd2.cov w
                              have hwi := fun w => Attr.within_yes ⟨a0, a1, a2, a3, a4, a5, a6, a7⟩ ⟨c0, c1, c2, c3, c4, c5, c6, c7⟩ hgd2.win w
                              have how := fun w => Attr.owns_yes ⟨c0, c1, c2, c3, c4, c5, c6, c7⟩ kr kt hall.out.2.2.2.2.2.1 hgd2.right hgd2.own w
                              have hsq : decide (seq < a0) = true := decide_eq_true hgd2.seq
                              clear hgd2
                              simp only [Cm.val, A8.val] at hak hcv hwi how
                              have hF := hA.facts
                              (try simp only [uA] at hA); have hF := hA.facts; (try simp only [fA, facts_row, and_true, true_and] at hF)
                              go_wp2_with (first | ((with_reducible refine gst ?_); refine wS hA ?_; clear hF hA; intro w1 hA; (try simp only [uA] at hA); have hF := hA.facts; (try simp only [fA, facts_row, and_true, true_and] at hF)) | ((with_reducible refine gbx ?_); refine wB hA ?_; clear hF hA; intro b1 w1 hA hb1; (try simp only [uA] at hA); have hF := hA.facts; (try simp only [fA, facts_row, and_true, true_and] at hF)))
                              refine (hak _ (hA.sep1 (A := IxP p m es) (by with_reducible repeat (first | exact Sel.here | apply Sel.there)))).mono ?_
                              clear hak
                              rintro e w1 ⟨rfl, hT⟩; have hB := hA.call1 (by with_reducible repeat (first | exact Sel.here | apply Sel.there)) hT; clear hF hA hT; have hA := hB; clear hB; (try simp only [uA] at hA); have hF := hA.facts; (try simp only [fA, facts_row, and_true, true_and] at hF)
                              go_wp2_with (first | ((with_reducible refine gal ?_); refine wA 40 (.agg #[.int .i64 0, .int .i64 0, .int .i64 0, .int .i64 0, .int .i64 0, .int .i64 0, .int .i64 0, .int .i64 0]) [.int .i64 0, .int .i64 0, .int .i64 0, .int .i64 0, .int .i64 0, .int .i64 0, .int .i64 0, .int .i64 0] hA ?_; clear hF hA; intro b21 w1 hA hb21; (try simp only [uA] at hA); have hF := hA.facts; (try simp only [fA, facts_row, and_true, true_and] at hF)) | ((with_reducible refine gst ?_); refine wS hA ?_; clear hF hA; intro w1 hA; (try simp only [uA] at hA); have hF := hA.facts; (try simp only [fA, facts_row, and_true, true_and] at hF)) | ((with_reducible refine gbx ?_); refine wB hA ?_; clear hF hA; intro b1 w1 hA hb1; (try simp only [uA] at hA); have hF := hA.facts; (try simp only [fA, facts_row, and_true, true_and] at hF)))
                              refine (hcv _).mono ?_
                              clear hcv
                              rintro e w1 ⟨rfl, hx⟩
                              have hB := hA.ext hx
                              clear hF hA hx
                              have hA := hB
                              clear hB
                              have hF := hA.facts
                              (try simp only [uA] at hA); have hF := hA.facts; (try simp only [fA, facts_row, and_true, true_and] at hF)
                              go_wp2_with (first | ((with_reducible refine gst ?_); refine wS hA ?_; clear hF hA; intro w1 hA; (try simp only [uA] at hA); have hF := hA.facts; (try simp only [fA, facts_row, and_true, true_and] at hF)) | ((with_reducible refine gbx ?_); refine wB hA ?_; clear hF hA; intro b1 w1 hA hb1; (try simp only [uA] at hA); have hF := hA.facts; (try simp only [fA, facts_row, and_true, true_and] at hF)))
                              refine (hwi _).mono ?_
                              clear hwi
                              rintro e w1 ⟨rfl, hx⟩
                              have hB := hA.ext hx
                              clear hF hA hx
                              have hA := hB
                              clear hB
                              have hF := hA.facts
                              (try simp only [uA] at hA); have hF := hA.facts; (try simp only [fA, facts_row, and_true, true_and] at hF)
                              go_wp2_with (first | ((with_reducible refine gst ?_); refine wS hA ?_; clear hF hA; intro w1 hA; (try simp only [uA] at hA); have hF := hA.facts; (try simp only [fA, facts_row, and_true, true_and] at hF)) | ((with_reducible refine gbx ?_); refine wB hA ?_; clear hF hA; intro b1 w1 hA hb1; (try simp only [uA] at hA); have hF := hA.facts; (try simp only [fA, facts_row, and_true, true_and] at hF)))
                              refine (how _).mono ?_
                              clear how
                              rintro e w1 ⟨rfl, hx⟩
                              have hB := hA.ext hx
                              clear hF hA hx
                              have hA := hB
                              clear hB
                              have hF := hA.facts
                              (try simp only [uA] at hA); have hF := hA.facts; (try simp only [fA, facts_row, and_true, true_and] at hF)
                              go_wp2_with (first | ((with_reducible refine gst ?_); refine wS hA ?_; clear hF hA; intro w1 hA; (try simp only [uA] at hA); have hF := hA.facts; (try simp only [fA, facts_row, and_true, true_and] at hF)) | ((with_reducible refine gbx ?_); refine wB hA ?_; clear hF hA; intro b1 w1 hA hb1; (try simp only [uA] at hA); have hF := hA.facts; (try simp only [fA, facts_row, and_true, true_and] at hF)))
                              go_ret
                              exact ⟨rfl, below_old hA (by with_reducible repeat (first | exact Sel.here | apply Sel.there))⟩
                  · go_wp2_with (first | ((with_reducible refine gst ?_); refine wS hA ?_; clear hF hA; intro w1 hA; (try simp only [uA] at hA); have hF := hA.facts; (try simp only [fA, facts_row, and_true, true_and] at hF)) | ((with_reducible refine gbx ?_); refine wB hA ?_; clear hF hA; intro b1 w1 hA hb1; (try simp only [uA] at hA); have hF := hA.facts; (try simp only [fA, facts_row, and_true, true_and] at hF)))
                    go_ret
                    exact ⟨rfl, below_old hA (by with_reducible repeat (first | exact Sel.here | apply Sel.there))⟩
                · go_wp2_with (first | ((with_reducible refine gst ?_); refine wS hA ?_; clear hF hA; intro w1 hA; (try simp only [uA] at hA); have hF := hA.facts; (try simp only [fA, facts_row, and_true, true_and] at hF)) | ((with_reducible refine gbx ?_); refine wB hA ?_; clear hF hA; intro b1 w1 hA hb1; (try simp only [uA] at hA); have hF := hA.facts; (try simp only [fA, facts_row, and_true, true_and] at hF)))
                  go_ret
                  exact ⟨rfl, below_old hA (by with_reducible repeat (first | exact Sel.here | apply Sel.there))⟩
              · go_wp2_with (first | ((with_reducible refine gst ?_); refine wS hA ?_; clear hF hA; intro w1 hA; (try simp only [uA] at hA); have hF := hA.facts; (try simp only [fA, facts_row, and_true, true_and] at hF)) | ((with_reducible refine gbx ?_); refine wB hA ?_; clear hF hA; intro b1 w1 hA hb1; (try simp only [uA] at hA); have hF := hA.facts; (try simp only [fA, facts_row, and_true, true_and] at hF)))
                go_ret
                exact ⟨rfl, below_old hA (by with_reducible repeat (first | exact Sel.here | apply Sel.there))⟩
end Go.Proofs.YtpbeennielgogaaDoor.Ix
end
