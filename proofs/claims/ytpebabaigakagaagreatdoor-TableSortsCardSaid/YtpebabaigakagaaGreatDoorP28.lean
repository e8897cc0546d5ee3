/- WireB, WireC, joined. -/
import Derived.Test.YtpebabaigakagaaGreatDoorP27
import Derived.Test.YtpebabaigakagaaGreatDoorP21
import Derived.Lib.AppendStr
import Derived.Deep.QuietTactic
import Derived.BigQuiet
set_option linter.unusedSimpArgs false
set_option linter.unusedVariables false
set_option maxRecDepth 100000
set_option maxHeartbeats 16000000
section
namespace Go.Proofs.YtpebabaigakagaaGreatDoor.Wire
open Go.RowKit
abbrev outC (b : Nat) (u : Value) : Part := .cells b [u] 113
def OutPost (w : World) (b : Nat) (u : Value) (l m : List Int) (e : Ending) (w' : World) : Prop := ∃ u', e = .returned (.pointer (some ⟨b, 0, none⟩)) ∧ At [outC b u, rowY u l] w [outC b u', rowY u' (l ++ m)] w'
theorem oneY (y : Int) (w : World) : (Instr.buildSlice 62 1 #[(0, .int .u8 y)]).run Tryz.prog w = .ok (.slice (some ⟨w.heap.size, 0, none⟩) 1 1) (w.alloc (.cells (encY y).toArray 5)) := by kernel_rfl
theorem outByte {w : World} {b : Nat} {u : Value} {l : List Int} (h : Sep [outC b u, rowY u l] w) (y : Int) (hl : l.length ≤ 100000000000000) :
 Calls Tryz.prog 77 #[.pointer (some ⟨b, 0, none⟩), .int .u8 y] w (OutPost w b u l [y]) := by
 obtain ⟨i0, hi0, hz0, hz1, hz2⟩ := info_parts infoY
 have hA := At.start h
 have hF := hA.facts
 clear h
 obtain ⟨ax, cap, rfl, hax, hcap, _⟩ := hA.row_form (v := u) (n := l.length) (xs := flatY l) sR
 have hone := oneY y
 have hF := hA.facts; (try simp only [uZ] at hA hF)
 go_enter Tryz.func77, Tryz.ntmps77
 go_wp2_with (first
  | ((with_reducible show wpList _ _ _ ({ dst := _, op := Op.buildSlice _ _ _, type := _, pos := _, after := _, guard := _ } :: _) _ _); refine wpList_one_at (e := 5) (vs := encY y) rfl rfl (by (try simp only [Act.eval, eV]) <;> exact rfl) hone hA ?_; intro b2 w5 hB hb2; clear hF hA; have hA := hB; clear hB; have hF := hA.facts; (try simp only [uZ] at hA hF))
  | ((with_reducible show wpList _ _ _ ({ dst := _, op := Op.call { callee := Callee.builtin Builtin.append, args := _, argTypes := _ }, type := _, pos := _, after := _, guard := _ } :: _) _ _); refine wpList_append_at (e := 5) (size := 1) (v := .slice ax l.length cap) (xs := flatY l) (n := l.length) (m := 1) (news := encY y) rfl _ _ 62 rfl Tryz.underlying62 hi0 hz0 hz1 hz2 rfl (by omega) hA sR (by (try simp only [Act.eval, eV]) <;> exact rfl) (by (try simp only [Act.eval, eV]) <;> exact rfl) rfl (hA.cells_reads sR _ _) (encY_one _) (by unfold maxLen; omega) (by omega) ?_; intro v2 w7 hB; rw [rowY_snoc] at hB; obtain ⟨cx, cn, ccap, hcv, hcn⟩ := hB.row_hid (v := v2) (n := (l ++ [y]).length) (xs := flatY (l ++ [y])) sR; subst hcv; clear hF hA; have hA := hB; clear hB; have hF := hA.facts; (try simp only [uZ] at hA hF))
  | ((with_reducible refine gst ?_); refine wT hA ?_; clear hF hA; intro w1 hA hF; (try simp only [uZ] at hA hF)) | ((with_reducible refine gbx ?_); refine wC hA ?_; clear hF hA; intro b1 w1 hA hb1 hF; (try simp only [uZ] at hA hF)))
 go_ret
 exact ⟨.slice cx cn ccap, rfl, hA.only2 (A := outC b (.slice cx cn ccap)) (B := rowY (.slice cx cn ccap) (l ++ [y])) sR sR⟩
theorem outTruth {w : World} {b : Nat} {u : Value} {l : List Int} (h : Sep [outC b u, rowY u l] w) (t : Bool) (hl : l.length ≤ 100000000000000) :
 Calls Tryz.prog 75 #[.pointer (some ⟨b, 0, none⟩), .bool t] w (OutPost w b u l [if t then 1 else 0]) := by
 cases t
 · go_enter Tryz.func75, Tryz.ntmps75
   go_wp2_with fail
   refine (outByte h 0 hl).mono ?_
   rintro e w' ⟨u', rfl, hT⟩
   go_wp2_with fail
   go_ret
   exact ⟨u', rfl, hT⟩
 · go_enter Tryz.func75, Tryz.ntmps75
   go_wp2_with fail
   refine (outByte h 1 hl).mono ?_
   rintro e w' ⟨u', rfl, hT⟩
   go_wp2_with fail
   go_ret
   exact ⟨u', rfl, hT⟩
theorem outShort {w : World} {b : Nat} {u : Value} {l : List Int} (h : Sep [outC b u, rowY u l] w) (v : Nat) (hv : v < 18446744073709551616) (hl : l.length ≤ 100000000000000) :
 Calls Tryz.prog 72 #[.pointer (some ⟨b, 0, none⟩), .int .u64 v] w (OutPost w b u l (shortN v)) := by
 obtain ⟨i0, hi0, hz0, hz1, hz2⟩ := info_parts infoY
 have hA := At.start h
 have hF := hA.facts
 clear h
 have hnl : (shortN v).length ≤ 10 := short_len 9 v (by omega)
 obtain ⟨ax, cap, rfl, hax, hcap, _⟩ := hA.row_form (v := u) (n := l.length) (xs := flatY l) sR
 have hF := hA.facts; (try simp only [uZ] at hA hF)
 go_enter Tryz.func72, Tryz.ntmps72
 go_wp2_with fail
 have hm : Tryz.prog.follows .mixedOrders = true := by kernel_rfl
 have hA := hA.drew
 refine wp_region_held (S := fun _ => True) hm ?_
 change wpAnyH _ _ _ _ _ 11 _ _ w.drew
 generalize w.drew = w2 at *
 refine tZ 0 5 ((.pointer (some ⟨b, 0, none⟩))) (r := (fun w' hS => by simp [execOp, go_sem, Act.eval, Act.put])) (s := trivial) (h := ?_)
 go_frame
 refine tZ 1 6 ((.pointer (some ⟨b, 0, none⟩))) (r := (fun w' hS => by simp [execOp, go_sem, Act.eval, Act.put])) (s := trivial) (h := ?_)
 go_frame
 refine tZ 2 7 ((.pointer (some ⟨b, 0, none⟩))) (r := (fun w' hS => by simp [execOp, go_sem, Act.eval, Act.put])) (s := trivial) (h := ?_)
 go_frame
 refine tZ 3 8 ((.pointer (some ⟨b, 0, none⟩))) (r := (fun w' hS => by kernel_rfl)) (s := trivial) (h := ?_)
 go_frame
 refine tZ 5 10 ((.int .u64 v)) (r := (fun w' hS => by simp [execOp, go_sem, Act.eval, Act.put])) (s := trivial) (h := ?_)
 go_frame
 refine wpAnyH_two (i := 4) (j := 6) (by kernel_rfl) ?_ ?_
 · skip
   refine wpOp_val (i := 4) (v := .slice ax l.length cap) rfl rfl (run_load_one (b := b) (j := 0) rfl (by exact rfl) (hA.get (A := outC b (.slice ax l.length cap)) sR) (by kernel_rfl) rfl) ?_
   refine ⟨trivial, ?_⟩
   change wpAnyH _ _ _ _ _ _ _ (Act.put _ (some 9) _) _
   go_frame
   refine wpAnyH_one (i := 6) (by kernel_rfl) ?_
   refine opCall_at (i := 6) (d := some 11) rfl rfl rfl (fn := 113) (args := #[.int .u64 v]) (by simp [execOp, go_sem, Act.eval, Act.put]) (short_any v w2 hv) ?_
   intro uu z1 hT
   have hB := hA.call0 hT
   simp only [uA] at hB
   obtain ⟨nx, nn, ncap, hnv, hnn⟩ := hB.row_hid (v := uu) (n := (shortN v).length) (xs := flatY (shortN v)) sR
   subst hnv
   have hnn2 := hnn.out
   subst hnn2
   refine ⟨trivial, ?_⟩
   go_frame
   refine wpAnyH_one (i := 7) (by kernel_rfl) ?_
   refine opAppend_at (k := 7) (d := some 12) (e := 5) (size := 1) (v := .slice ax l.length cap) (xs := flatY l) (n := l.length) (m := (shortN v).length) (news := flatY (shortN v)) rfl rfl rfl rfl (.tmp 9) (.tmp 11) 62 rfl Tryz.underlying62 hi0 hz0 hz1 hz2 rfl (by omega) hB sR (by (try simp only [Act.eval, eV]) <;> exact rfl) (by (try simp only [Act.eval, eV]) <;> exact rfl) (flat_len _ _ encY_len _) (hB.row_reads (v := .slice nx (shortN v).length ncap) (n := (shortN v).length) (xs := flatY (shortN v)) sR) (flat_one encY_one _) (by unfold maxLen; omega) (by omega) ?_
   intro v2 z2 hC
   rw [rowY_app] at hC
   obtain ⟨cx, cn, ccap, hcv, hcn⟩ := hC.row_hid (v := v2) (n := (l ++ shortN v).length) (xs := flatY (l ++ shortN v)) sR
   subst hcv
   have hcn2 := hcn.out
   clear hcn
   refine ⟨trivial, ?_⟩
   go_frame
   refine tZ 8 13 ((.pointer (some ⟨b, 0, none⟩))) (r := (fun w' hS => by simp [execOp, go_sem, Act.eval, Act.put])) (s := trivial) (h := ?_)
   go_frame
   refine tZ 9 14 ((.pointer (some ⟨b, 0, none⟩))) (r := (fun w' hS => by kernel_rfl)) (s := trivial) (h := ?_)
   go_frame
   refine wpAnyH_one (i := 10) (by kernel_rfl) ?_
   refine opStore_at (i := 10) (x := .tmp 14) (y := .tmp 12) (ty := 62) (b := b) (j := 0) (v := .slice cx cn ccap) (vs := [.slice cx cn ccap]) rfl rfl rfl rfl (by (try simp only [Act.eval, eV]) <;> exact rfl) (by (try simp only [Act.eval, eV]) <;> exact rfl) rfl hC (c := [.slice ax l.length cap]) sR (by kernel_rfl) rfl (by simp) ?_
   intro z3 hD
   simp only [setL, List.set_cons_zero] at hD
   refine ⟨trivial, ?_⟩
   refine wpAnyH_done (by kernel_rfl) ?_ _
   try go_frame
   go_wp2_with fail
   go_ret
   exact ⟨.slice cx cn ccap, rfl, hD.only2 (A := outC b (.slice cx cn ccap)) (B := rowY (.slice cx cn ccap) (l ++ shortN v)) sR sR⟩
 · skip
   refine opCall_at (i := 6) (d := some 11) rfl rfl rfl (fn := 113) (args := #[.int .u64 v]) (by simp [execOp, go_sem, Act.eval, Act.put]) (short_any v w2 hv) ?_
   intro uu z1 hT
   have hB := hA.call0 hT
   simp only [uA] at hB
   obtain ⟨nx, nn, ncap, hnv, hnn⟩ := hB.row_hid (v := uu) (n := (shortN v).length) (xs := flatY (shortN v)) sR
   subst hnv
   have hnn2 := hnn.out
   subst hnn2
   refine ⟨trivial, ?_⟩
   go_frame
   refine wpAnyH_one (i := 4) (by kernel_rfl) ?_
   refine wpOp_val (i := 4) (v := .slice ax l.length cap) rfl rfl (run_load_one (b := b) (j := 0) rfl (by exact rfl) (hB.get (A := outC b (.slice ax l.length cap)) sR) (by kernel_rfl) rfl) ?_
   refine ⟨trivial, ?_⟩
   change wpAnyH _ _ _ _ _ _ _ (Act.put _ (some 9) _) _
   go_frame
   refine wpAnyH_one (i := 7) (by kernel_rfl) ?_
   refine opAppend_at (k := 7) (d := some 12) (e := 5) (size := 1) (v := .slice ax l.length cap) (xs := flatY l) (n := l.length) (m := (shortN v).length) (news := flatY (shortN v)) rfl rfl rfl rfl (.tmp 9) (.tmp 11) 62 rfl Tryz.underlying62 hi0 hz0 hz1 hz2 rfl (by omega) hB sR (by (try simp only [Act.eval, eV]) <;> exact rfl) (by (try simp only [Act.eval, eV]) <;> exact rfl) (flat_len _ _ encY_len _) (hB.row_reads (v := .slice nx (shortN v).length ncap) (n := (shortN v).length) (xs := flatY (shortN v)) sR) (flat_one encY_one _) (by unfold maxLen; omega) (by omega) ?_
   intro v2 z2 hC
   rw [rowY_app] at hC
   obtain ⟨cx, cn, ccap, hcv, hcn⟩ := hC.row_hid (v := v2) (n := (l ++ shortN v).length) (xs := flatY (l ++ shortN v)) sR
   subst hcv
   have hcn2 := hcn.out
   clear hcn
   refine ⟨trivial, ?_⟩
   go_frame
   refine tZ 8 13 ((.pointer (some ⟨b, 0, none⟩))) (r := (fun w' hS => by simp [execOp, go_sem, Act.eval, Act.put])) (s := trivial) (h := ?_)
   go_frame
   refine tZ 9 14 ((.pointer (some ⟨b, 0, none⟩))) (r := (fun w' hS => by kernel_rfl)) (s := trivial) (h := ?_)
   go_frame
   refine wpAnyH_one (i := 10) (by kernel_rfl) ?_
   refine opStore_at (i := 10) (x := .tmp 14) (y := .tmp 12) (ty := 62) (b := b) (j := 0) (v := .slice cx cn ccap) (vs := [.slice cx cn ccap]) rfl rfl rfl rfl (by (try simp only [Act.eval, eV]) <;> exact rfl) (by (try simp only [Act.eval, eV]) <;> exact rfl) rfl hC (c := [.slice ax l.length cap]) sR (by kernel_rfl) rfl (by simp) ?_
   intro z3 hD
   simp only [setL, List.set_cons_zero] at hD
   refine ⟨trivial, ?_⟩
   refine wpAnyH_done (by kernel_rfl) ?_ _
   try go_frame
   go_wp2_with fail
   go_ret
   exact ⟨.slice cx cn ccap, rfl, hD.only2 (A := outC b (.slice cx cn ccap)) (B := rowY (.slice cx cn ccap) (l ++ shortN v)) sR sR⟩
theorem outFixed {w : World} {b : Nat} {u : Value} {l : List Int} (h : Sep [outC b u, rowY u l] w) (v : Nat) (hv : v < 18446744073709551616) (hl : l.length ≤ 100000000000000) :
 Calls Tryz.prog 73 #[.pointer (some ⟨b, 0, none⟩), .int .u64 v] w (OutPost w b u l (fixL v)) := by
 obtain ⟨i0, hi0, hz0, hz1, hz2⟩ := info_parts infoY
 have hA := At.start h
 have hF := hA.facts
 clear h
 have hnl : (fixL v).length ≤ 10 := by simp [fixL]
 obtain ⟨ax, cap, rfl, hax, hcap, _⟩ := hA.row_form (v := u) (n := l.length) (xs := flatY l) sR
 have hF := hA.facts; (try simp only [uZ] at hA hF)
 go_enter Tryz.func73, Tryz.ntmps73
 go_wp2_with fail
 have hm : Tryz.prog.follows .mixedOrders = true := by kernel_rfl
 have hA := hA.drew
 refine wp_region_held (S := fun _ => True) hm ?_
 change wpAnyH _ _ _ _ _ 11 _ _ w.drew
 generalize w.drew = w2 at *
 refine tZ 0 5 ((.pointer (some ⟨b, 0, none⟩))) (r := (fun w' hS => by simp [execOp, go_sem, Act.eval, Act.put])) (s := trivial) (h := ?_)
 go_frame
 refine tZ 1 6 ((.pointer (some ⟨b, 0, none⟩))) (r := (fun w' hS => by simp [execOp, go_sem, Act.eval, Act.put])) (s := trivial) (h := ?_)
 go_frame
 refine tZ 2 7 ((.pointer (some ⟨b, 0, none⟩))) (r := (fun w' hS => by simp [execOp, go_sem, Act.eval, Act.put])) (s := trivial) (h := ?_)
 go_frame
 refine tZ 3 8 ((.pointer (some ⟨b, 0, none⟩))) (r := (fun w' hS => by kernel_rfl)) (s := trivial) (h := ?_)
 go_frame
 refine tZ 5 10 ((.int .u64 v)) (r := (fun w' hS => by simp [execOp, go_sem, Act.eval, Act.put])) (s := trivial) (h := ?_)
 go_frame
 refine wpAnyH_two (i := 4) (j := 6) (by kernel_rfl) ?_ ?_
 · skip
   refine wpOp_val (i := 4) (v := .slice ax l.length cap) rfl rfl (run_load_one (b := b) (j := 0) rfl (by exact rfl) (hA.get (A := outC b (.slice ax l.length cap)) sR) (by kernel_rfl) rfl) ?_
   refine ⟨trivial, ?_⟩
   change wpAnyH _ _ _ _ _ _ _ (Act.put _ (some 9) _) _
   go_frame
   refine wpAnyH_one (i := 6) (by kernel_rfl) ?_
   refine opCall_at (i := 6) (d := some 11) rfl rfl rfl (fn := 114) (args := #[.int .u64 v, .int .i64 8]) (by simp [execOp, go_sem, Act.eval, Act.put]) (bytes8_any v w2 hv) ?_
   intro uu z1 hT
   have hB := hA.call0 hT
   simp only [uA] at hB
   obtain ⟨nx, nn, ncap, hnv, hnn⟩ := hB.row_hid (v := uu) (n := (fixL v).length) (xs := flatY (fixL v)) sR
   subst hnv
   have hnn2 := hnn.out
   subst hnn2
   refine ⟨trivial, ?_⟩
   go_frame
   refine wpAnyH_one (i := 7) (by kernel_rfl) ?_
   refine opAppend_at (k := 7) (d := some 12) (e := 5) (size := 1) (v := .slice ax l.length cap) (xs := flatY l) (n := l.length) (m := (fixL v).length) (news := flatY (fixL v)) rfl rfl rfl rfl (.tmp 9) (.tmp 11) 62 rfl Tryz.underlying62 hi0 hz0 hz1 hz2 rfl (by omega) hB sR (by (try simp only [Act.eval, eV]) <;> exact rfl) (by (try simp only [Act.eval, eV]) <;> exact rfl) (flat_len _ _ encY_len _) (hB.row_reads (v := .slice nx (fixL v).length ncap) (n := (fixL v).length) (xs := flatY (fixL v)) sR) (flat_one encY_one _) (by unfold maxLen; omega) (by omega) ?_
   intro v2 z2 hC
   rw [rowY_app] at hC
   obtain ⟨cx, cn, ccap, hcv, hcn⟩ := hC.row_hid (v := v2) (n := (l ++ fixL v).length) (xs := flatY (l ++ fixL v)) sR
   subst hcv
   have hcn2 := hcn.out
   clear hcn
   refine ⟨trivial, ?_⟩
   go_frame
   refine tZ 8 13 ((.pointer (some ⟨b, 0, none⟩))) (r := (fun w' hS => by simp [execOp, go_sem, Act.eval, Act.put])) (s := trivial) (h := ?_)
   go_frame
   refine tZ 9 14 ((.pointer (some ⟨b, 0, none⟩))) (r := (fun w' hS => by kernel_rfl)) (s := trivial) (h := ?_)
   go_frame
   refine wpAnyH_one (i := 10) (by kernel_rfl) ?_
   refine opStore_at (i := 10) (x := .tmp 14) (y := .tmp 12) (ty := 62) (b := b) (j := 0) (v := .slice cx cn ccap) (vs := [.slice cx cn ccap]) rfl rfl rfl rfl (by (try simp only [Act.eval, eV]) <;> exact rfl) (by (try simp only [Act.eval, eV]) <;> exact rfl) rfl hC (c := [.slice ax l.length cap]) sR (by kernel_rfl) rfl (by simp) ?_
   intro z3 hD
   simp only [setL, List.set_cons_zero] at hD
   refine ⟨trivial, ?_⟩
   refine wpAnyH_done (by kernel_rfl) ?_ _
   try go_frame
   go_wp2_with fail
   go_ret
   exact ⟨.slice cx cn ccap, rfl, hD.only2 (A := outC b (.slice cx cn ccap)) (B := rowY (.slice cx cn ccap) (l ++ fixL v)) sR sR⟩
 · skip
   refine opCall_at (i := 6) (d := some 11) rfl rfl rfl (fn := 114) (args := #[.int .u64 v, .int .i64 8]) (by simp [execOp, go_sem, Act.eval, Act.put]) (bytes8_any v w2 hv) ?_
   intro uu z1 hT
   have hB := hA.call0 hT
   simp only [uA] at hB
   obtain ⟨nx, nn, ncap, hnv, hnn⟩ := hB.row_hid (v := uu) (n := (fixL v).length) (xs := flatY (fixL v)) sR
   subst hnv
   have hnn2 := hnn.out
   subst hnn2
   refine ⟨trivial, ?_⟩
   go_frame
   refine wpAnyH_one (i := 4) (by kernel_rfl) ?_
   refine wpOp_val (i := 4) (v := .slice ax l.length cap) rfl rfl (run_load_one (b := b) (j := 0) rfl (by exact rfl) (hB.get (A := outC b (.slice ax l.length cap)) sR) (by kernel_rfl) rfl) ?_
   refine ⟨trivial, ?_⟩
   change wpAnyH _ _ _ _ _ _ _ (Act.put _ (some 9) _) _
   go_frame
   refine wpAnyH_one (i := 7) (by kernel_rfl) ?_
   refine opAppend_at (k := 7) (d := some 12) (e := 5) (size := 1) (v := .slice ax l.length cap) (xs := flatY l) (n := l.length) (m := (fixL v).length) (news := flatY (fixL v)) rfl rfl rfl rfl (.tmp 9) (.tmp 11) 62 rfl Tryz.underlying62 hi0 hz0 hz1 hz2 rfl (by omega) hB sR (by (try simp only [Act.eval, eV]) <;> exact rfl) (by (try simp only [Act.eval, eV]) <;> exact rfl) (flat_len _ _ encY_len _) (hB.row_reads (v := .slice nx (fixL v).length ncap) (n := (fixL v).length) (xs := flatY (fixL v)) sR) (flat_one encY_one _) (by unfold maxLen; omega) (by omega) ?_
   intro v2 z2 hC
   rw [rowY_app] at hC
   obtain ⟨cx, cn, ccap, hcv, hcn⟩ := hC.row_hid (v := v2) (n := (l ++ fixL v).length) (xs := flatY (l ++ fixL v)) sR
   subst hcv
   have hcn2 := hcn.out
   clear hcn
   refine ⟨trivial, ?_⟩
   go_frame
   refine tZ 8 13 ((.pointer (some ⟨b, 0, none⟩))) (r := (fun w' hS => by simp [execOp, go_sem, Act.eval, Act.put])) (s := trivial) (h := ?_)
   go_frame
   refine tZ 9 14 ((.pointer (some ⟨b, 0, none⟩))) (r := (fun w' hS => by kernel_rfl)) (s := trivial) (h := ?_)
   go_frame
   refine wpAnyH_one (i := 10) (by kernel_rfl) ?_
   refine opStore_at (i := 10) (x := .tmp 14) (y := .tmp 12) (ty := 62) (b := b) (j := 0) (v := .slice cx cn ccap) (vs := [.slice cx cn ccap]) rfl rfl rfl rfl (by (try simp only [Act.eval, eV]) <;> exact rfl) (by (try simp only [Act.eval, eV]) <;> exact rfl) rfl hC (c := [.slice ax l.length cap]) sR (by kernel_rfl) rfl (by simp) ?_
   intro z3 hD
   simp only [setL, List.set_cons_zero] at hD
   refine ⟨trivial, ?_⟩
   refine wpAnyH_done (by kernel_rfl) ?_ _
   try go_frame
   go_wp2_with fail
   go_ret
   exact ⟨.slice cx cn ccap, rfl, hD.only2 (A := outC b (.slice cx cn ccap)) (B := rowY (.slice cx cn ccap) (l ++ fixL v)) sR sR⟩
def textL (s : ByteArray) : List Int := s.data.toList.map (fun x => (x.toNat : Int))
theorem textL_len (s : ByteArray) : (textL s).length = s.size := by unfold textL; rw [List.length_map]; exact Array.length_toList
theorem str_flat (s : ByteArray) : Lib.strCells s = flatY (textL s) := by
 unfold Lib.strCells textL
 generalize s.data.toList = r
 show _ = (r.map _).flatMap encY
 induction r with
 | nil => rfl
 | cons c r ih => rw [List.map_cons, List.map_cons, List.flatMap_cons, ← ih]; rfl
theorem append_text (w : World) {t u ty e : TypeId} {i : TypeInfo} {P : Program} (ht : P.underlying t = some (.slice e)) (hu : P.underlying u = some .string) (hi : P.info? e = some i) (hz : i.zero = some (.int .u8 0)) (hsize : i.size = 1) (hby : i.bytes = 1)
 (v : Value) (n : Nat) (xs : List Value) (hown : w.ownsRow 0 e 1 v n xs) (s : ByteArray) (h63 : n + s.size ≤ 130000000000000) :
 ∃ v' w', (Builtin.append_ #[t, u] ty #[v, .string s]).run P w = .ok v' w' ∧ w'.ownsRow 0 e 1 v' (n + s.size) (xs ++ Lib.strCells s) ∧ w.grownBy w' v.ownBlock ∧ (v'.ownBlock = v.ownBlock ∨ v'.ownBlock = some w.heap.size) := by
 obtain ⟨v', w', h1, h2, h3, h4⟩ := Lib.run_append_own_string (P := P) w 0 t u ty e i ht hu hi hz hsize hby v n xs hown s (by unfold maxLen; omega) (by omega) (Nat.zero_le _)
 refine ⟨v', w', h1, h2, h3, ?_⟩
 have hxl : xs.length = n := by simpa using hown.1
 rcases hown.2 with ⟨rfl, rfl⟩ | ⟨g, cap, cur, rfl, hbg, hg, hnc, hcm, hcs, htake⟩
 · by_cases hm : s.size = 0
   · have := h4.2 ⟨rfl, hm⟩
     subst this
     exact .inl rfl
   · have hr := run_append_nil_string (P := P) w t u ty e i (.int .u8 0) ht hu hi hz s (by omega) (by omega) (by rw [hby]; omega)
     rw [h1] at hr
     cases hr
     exact .inr rfl
 · by_cases hroom : n + s.size ≤ cap
   · have hr := Lib.run_append_room_string (P := P) w t u ty e i ht hu hi hsize g n cap cur hg s hroom (by omega)
     rw [h1] at hr
     cases hr
     exact .inl rfl
   · have holds : ∀ j u, xs[j]? = some u → w.cell? ((⟨g, 0, none⟩ : Addr).add j) = some u := hown.cells (g := g) rfl
     have hr := Lib.run_append_grow_string (P := P) w t u ty e i (.int .u8 0) ht hu hi hz ⟨g, 0, none⟩ n cap xs (by rw [hsize]; simpa using hxl) holds s (by omega) (by omega) (by rw [hby]; exact growslice_fits (by omega) (by omega))
     rw [h1] at hr
     cases hr
     exact .inr rfl
theorem wpList_append_text_at {P : Program} {ops : Array Oper} {rest : List Oper} {o : Oper} {a : Act} {Q : Exit → Act → World → Prop} {L0 L F : List Part} {w0 w : World} {e : TypeId} {n : Nat} {v : Value} {xs : List Value} {i : TypeInfo} (hg : o.guard = none) (s' x : Operand) (t u : TypeId) (ho : o.op = .call { callee := .builtin .append, args := #[s', x], argTypes := #[t, u] })
 (ht : P.underlying t = some (.slice e)) (hu : P.underlying u = some .string) (hi : P.info? e = some i) (hz : i.zero = some (.int .u8 0)) (hsize : i.size = 1) (hby : i.bytes = 1)
 (h : At L0 w0 L w) (s : Sel (Part.row e 1 v n xs) L F) (hs : a.eval s' = v) {tx : ByteArray} (hx : a.eval x = .string tx) (h63 : n + tx.size ≤ 130000000000000)
 (hK : ∀ v' w', At L0 w0 (Part.row e 1 v' (n + tx.size) (xs ++ Lib.strCells tx) :: F) w' → wpList P ops Q rest (a.put o.dst v') w') : wpList P ops Q (o :: rest) a w := by
 obtain ⟨v', w', h1, h2, h3, h4⟩ := append_text (P := P) (ty := o.type) w ht hu hi hz hsize hby v n xs (h.get s) tx h63
 refine wpList_val hg ?_ (hK v' w' (h.turn s _ h2 (fun b hb => by
  rcases h4 with h4 | h4
  · exact .inl (show v.ownBlock = some b from by rw [← h4]; exact hb)
  · right
    have hb' : v'.ownBlock = some b := hb
    rw [h4] at hb'
    cases hb'
    exact Nat.le_refl _) (exc_grown h3)))
 simp [execOp, ho, resolve, invoke, builtin, hs, hx, h1, Result.andThen]
def textB (s : ByteArray) : List Int := shortN s.size ++ textL s
theorem outText {w : World} {b : Nat} {u : Value} {l : List Int} (h : Sep [outC b u, rowY u l] w) (s : ByteArray) (hsz : s.size ≤ 20000000000000) (hl : l.length ≤ 100000000000000) :
 Calls Tryz.prog 74 #[.pointer (some ⟨b, 0, none⟩), .string s] w (OutPost w b u l (textB s)) := by
 obtain ⟨i0, hi0, hz0, hz1, hz2⟩ := info_parts infoY
 have hA := At.start h
 have hF := hA.facts
 have hw : IntKind.u64.wrap (s.size : Int) = (s.size : Int) := by rw [IntKind.wrap_u64]; omega
 have hnl : (shortN s.size).length ≤ 10 := short_len 9 s.size (by omega)
 have hF := hA.facts; (try simp only [uZ] at hA hF)
 go_enter Tryz.func74, Tryz.ntmps74
 go_wp2_with fail
 refine (outShort h s.size (by omega) hl).mono ?_
 clear h hF hA
 rintro e w' ⟨u', rfl, hA⟩
 have hll : (l ++ shortN s.size).length ≤ 100000000000010 := by rw [List.length_append]; omega
 obtain ⟨l2, hl2⟩ : ∃ z, l ++ shortN s.size = z := ⟨_, rfl⟩
 rw [hl2] at hA hll
 obtain ⟨ax, an, cap, hav, han⟩ := hA.row_hid (v := u') (n := l2.length) (xs := flatY l2) sR
 subst hav
 have han2 := han.out
 subst han2
 clear han
 have hF := hA.facts; (try simp only [uZ] at hA hF)
 go_wp2_with (first
  | (with_reducible show wpList _ _ _ ({ dst := _, op := Op.call { callee := Callee.builtin Builtin.append, args := _, argTypes := _ }, type := _, pos := _, after := _, guard := _ } :: _) _ _; refine wpList_append_text_at (e := 5) (v := .slice ax l2.length cap) (xs := flatY l2) (n := l2.length) (tx := s) rfl _ _ 62 9 rfl Tryz.underlying62 Tryz.underlying9 hi0 hz0 hz1 hz2 hA sR (by (try simp only [Act.eval, eV]) <;> exact rfl) (by (try simp only [Act.eval, eV]) <;> exact rfl) (by omega) ?_; intro v2 w7 hB; rw [str_flat, ← textL_len, rowY_app] at hB; obtain ⟨cx, cn, ccap, hcv, hcn⟩ := hB.row_hid (v := v2) (n := (l2 ++ textL s).length) (xs := flatY (l2 ++ textL s)) sR; subst hcv; clear hF hA; have hA := hB; clear hB; have hF := hA.facts; (try simp only [uZ] at hA hF))
  | ((with_reducible refine gst ?_); refine wT hA ?_; clear hF hA; intro w1 hA hF; (try simp only [uZ] at hA hF)) | ((with_reducible refine gbx ?_); refine wC hA ?_; clear hF hA; intro b1 w1 hA hb1 hF; (try simp only [uZ] at hA hF)))
 go_ret
 refine ⟨.slice cx cn ccap, rfl, ?_⟩
 have hE := hA.only2 (A := outC b (.slice cx cn ccap)) (B := rowY (.slice cx cn ccap) (l2 ++ textL s)) sR sR
 rw [← hl2, List.append_assoc] at hE
 exact hE
end Go.Proofs.YtpebabaigakagaaGreatDoor.Wire
end
section
namespace Go.Proofs.YtpebabaigakagaaGreatDoor.Wire
open Go.RowKit
theorem flatY_map (l : List Int) : flatY l = l.map (Value.int .u8) := by
 induction l with
 | nil => rfl
 | cons x l ih => show encY x ++ flatY l = _; rw [ih]; rfl
theorem flatY_get (l : List Int) (i : Nat) (hi : i < l.length) : (flatY l)[i]? = some (.int .u8 l[i]) := by
 rw [flatY_map, List.getElem?_map, List.getElem?_eq_getElem hi]; rfl
theorem clone_row {L0 L F : List Part} {w0 w : World} {v : Value} {l : List Int} (hA : At L0 w0 L w) (s : Sel (rowY v l) L F) (hl : l.length ≤ 140000000000000) :
 Calls Tryz.prog 80 #[v] w fun e w' => ∃ v', e = .returned v' ∧ At L0 w0 (rowY v' l :: L) w' := by
 obtain ⟨ax, cap, rfl, hax, hcap, _⟩ := hA.row_form (v := v) (n := l.length) (xs := flatY l) s
 have hr := hA.row_reads (v := .slice ax l.length cap) (n := l.length) (xs := flatY l) s
 cases ax with
 | none =>
  have h0 : l = [] := List.eq_nil_of_length_eq_zero (hax rfl)
  subst h0
  refine (Tryz.bytes_Clone_nil _ cap w).mono fun e w' h => ?_
  obtain ⟨he, hw⟩ := h
  subst he; subst hw
  exact ⟨_, rfl, rowY_nil hA⟩
 | some a =>
  refine (Tryz.bytes_Clone_at a l.length cap l w rfl (by omega) ?_).mono fun e w' h => ?_
  · intro i hi
    obtain ⟨ax', c', hv', _, hc⟩ := hr
    cases hv'
    obtain ⟨b, off, h, hx⟩ := hc i _ (flatY_get l i hi)
    cases h
    rw [List.getD_eq_getElem?_getD, List.getElem?_eq_getElem hi]
    by_cases q : i = 0
    · subst q; simpa [Addr.add] using hx
    · simpa [Addr.add, q] using hx
  · obtain ⟨v', rfl, hown, _, hb⟩ := h
    refine ⟨v', rfl, ?_⟩
    have := hA.row_new (e := 5) (size := 1) (n := l.length) (xs := flatY l) (v := v') hb (by rw [flatY_map]; exact hown)
    exact this
theorem outBytes {w : World} {b : Nat} {u : Value} {l : List Int} (h : Sep [outC b u, rowY u l] w) (hl : l.length ≤ 140000000000000) :
 Calls Tryz.prog 50 #[.pointer (some ⟨b, 0, none⟩)] w fun e w' => ∃ v, e = .returned v ∧ At [outC b u, rowY u l] w [rowY v l, outC b u, rowY u l] w' := by
 have hA := At.start h
 have hF := hA.facts
 clear h
 obtain ⟨ax, cap, rfl, hax, hcap, _⟩ := hA.row_form (v := u) (n := l.length) (xs := flatY l) sR
 have hF := hA.facts; (try simp only [uZ] at hA hF)
 go_enter Tryz.func50, Tryz.ntmps50
 go_wp2_with fail
 refine (clone_row (v := .slice ax l.length cap) (l := l) hA sR hl).mono ?_
 rintro e w1 ⟨v, rfl, hB⟩
 go_wp2_with fail
 go_ret
 exact ⟨v, rfl, hB⟩
def SmRel (w : World) (u v : Value) (a c : List Int) (k : Nat) (x : Value) (wr : World) : Prop :=
 ∃ i : Nat, x = .int .i64 i ∧ i + k = a.length ∧ a.take i = c.take i ∧ At [rowY u a, rowY v c] w [rowY u a, rowY v c] wr
theorem same_any {w : World} {u v : Value} {a c : List Int} (h : Sep [rowY u a, rowY v c] w) (hl : a.length ≤ 140000000000000) :
 Calls Tryz.prog 25 #[u, v] w fun e w' => e = .returned (.bool (decide (a = c))) ∧ At [rowY u a, rowY v c] w [rowY u a, rowY v c] w' := by
 have hA := At.start h
 have hF := hA.facts
 clear h
 obtain ⟨ax, acap, rfl, hax, hacap, _⟩ := hA.row_form (v := u) (n := a.length) (xs := flatY a) sR
 obtain ⟨cx, ccap, rfl, hcx, hccap, _⟩ := hA.row_form (v := v) (n := c.length) (xs := flatY c) sR
 have hF := hA.facts; (try simp only [uZ] at hA hF)
 go_enter Tryz.func25, Tryz.ntmps25
 by_cases hn : a.length = c.length
 · have hn' : ((a.length : Int) != (c.length : Int)) = false := by simp [hn]
   go_wp2_with fail
   try go_frame
   clear hn'
   go_loopg [5] a.length (SmRel w (.slice ax a.length acap) (.slice cx c.length ccap) a c)
   case atStart => exact ⟨0, rfl, by simp, by simp, hA⟩
   case round =>
    obtain ⟨i, rfl, hik, htk, hB⟩ := hrel
    have htk' := Lib.hid htk
    clear hF hA htk; have hA := hB; clear hB
    have hnx := Lib.hid hn
    by_cases hi : i < a.length
    · have hic : i < c.length := by omega
      have hy := flatY_get a i hi
      have hz := flatY_get c i hic
      obtain ⟨ga, ca, rfl, ap1, am, al, atk, hB⟩ := hA.row_open (ax := ax) (cap := acap) (n := a.length) (xs := flatY a) sR (by omega)
      replace hA := hB
      clear hB
      obtain ⟨gc, cc, rfl, cp1, cm, cl, ct, hB⟩ := hA.row_open (ax := cx) (cap := ccap) (n := c.length) (xs := flatY c) sR (by omega)
      replace hA := hB
      clear hB
      have f1 : ca[i]? = some (.int .u8 a[i]) := by
       rw [← hy, ← atk, List.getElem?_take_of_lt (by omega)]
      have f2 : cc[i]? = some (.int .u8 c[i]) := by
       rw [← hz, ← ct, List.getElem?_take_of_lt (by omega)]
      have hstep := Lib.hid (show a[i] = c[i] → a.take (i + 1) = c.take (i + 1) from fun q => by
       rw [List.take_succ_eq_append_getElem hi, List.take_succ_eq_append_getElem hic, htk'.out, q])
      have hne := Lib.hid (show a[i] ≠ c[i] → a ≠ c from fun q e => q (by subst e; rfl))
      obtain ⟨y, hyy⟩ : ∃ y, a[i] = y := ⟨_, rfl⟩
      obtain ⟨z, hzz⟩ : ∃ z, c[i] = z := ⟨_, rfl⟩
      rw [hyy] at f1 hstep hne
      rw [hzz] at f2 hstep hne
      clear hy hz hyy hzz hn
      have hF := hA.facts; (try simp only [uZ] at hA hF)
      by_cases hq : y = z
      · subst hq
        have hs2 := Lib.hid (hstep.out rfl)
        clear hstep hne
        go_wp2_with fail
        try go_frame
        (refine cA hA ?_); (have hn1 := Cl.none hA); (have hn2 := Cl.none2 hA); (repeat (first | go_big_quiet_skip | (go_big_quiet_want; (first | (refine qL ?_; go_frame; go_big_quiet_on) | (go_big_quiet_op; (first | go_big_quiet_on | ((apply Exists.intro); (refine ⟨fun w1 hw => ?_, ?_⟩); (focus ((have hw := Cl.out hw); (fail))); (go_big_quiet_on))))))))
        (refine wpQuiet_nil ?_); (intro w1 hB); (clear hF hA hn1 hn2); (have hA := Cl.out hB); (clear hB); have hF := hA.facts; (try simp only [uZ] at hA hF)
        go_wp2_with fail
        go_roundg (gk - 1)
        case measure => omega
        case rel =>
         have hS1 := hA.row_shut (e := 5) (size := 1) (n := a.length) (cap := acap) (xs := flatY a) (g := ga) (c := ca) sR al ap1 am atk
         have hS2 := hS1.row_shut (e := 5) (size := 1) (n := c.length) (cap := ccap) (xs := flatY c) (g := gc) (c := cc) sR cl cp1 cm ct
         exact ⟨i + 1, by simp, by omega, hs2.out, hS2.pick pZ⟩
      · have hq' : (y != z) = true := by simp [hq]
        have hf : decide (a = c) = false := decide_eq_false (hne.out hq)
        clear hstep hne
        go_wp2_with fail
        try go_frame
        (refine cA hA ?_); (have hn1 := Cl.none hA); (have hn2 := Cl.none2 hA); (repeat (first | go_big_quiet_skip | (go_big_quiet_want; (first | (refine qL ?_; go_frame; go_big_quiet_on) | (go_big_quiet_op; (first | go_big_quiet_on | ((apply Exists.intro); (refine ⟨fun w1 hw => ?_, ?_⟩); (focus ((have hw := Cl.out hw); (fail))); (go_big_quiet_on))))))))
        (refine wpQuiet_nil ?_); (intro w1 hB); (clear hF hA hn1 hn2); (have hA := Cl.out hB); (clear hB); have hF := hA.facts; (try simp only [uZ] at hA hF)
        go_wp2_with fail
        go_ret
        have hS1 := hA.row_shut (e := 5) (size := 1) (n := a.length) (cap := acap) (xs := flatY a) (g := ga) (c := ca) sR al ap1 am atk
        have hS2 := hS1.row_shut (e := 5) (size := 1) (n := c.length) (cap := ccap) (xs := flatY c) (g := gc) (c := cc) sR cl cp1 cm ct
        exact ⟨by rw [hf]; rfl, hS2.pick pZ⟩
    · have hac : a = c := by
       have := htk'.out
       rwa [List.take_of_length_le (by omega), List.take_of_length_le (by omega)] at this
      have hf : decide (a = c) = true := decide_eq_true hac
      have hf' := Lib.hid hf
      clear hf hac hn
      have hF := hA.facts; (try simp only [uZ] at hA hF)
      go_wp2_with fail
      go_ret
      exact ⟨by rw [hf'.out]; rfl, hA⟩
 · have hn' : ((a.length : Int) != (c.length : Int)) = true := by simp; omega
   have hf : decide (a = c) = false := decide_eq_false (fun e => hn (by rw [e]))
   go_wp2_with fail
   go_ret
   exact ⟨by rw [hf]; rfl, hA⟩
end Go.Proofs.YtpebabaigakagaaGreatDoor.Wire
end
