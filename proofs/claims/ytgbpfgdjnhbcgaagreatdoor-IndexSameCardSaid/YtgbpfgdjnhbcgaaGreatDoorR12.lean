/- WireB, WireC, IxB, IxC, EncB, WinA, joined. -/
import Derived.Test.YtgbpfgdjnhbcgaaGreatDoorR11
import Derived.Deep.CutBlock
set_option linter.unusedSimpArgs false
set_option linter.unusedVariables false
set_option maxRecDepth 100000
set_option maxHeartbeats 16000000
section
namespace Go.Proofs.YtgbpfgdjnhbcgaaGreatDoor.Wire
open Go.RowKit
abbrev outC (b : Nat) (u : Value) : Part := .cells b [u] 64
def OutPost (w : World) (b : Nat) (u : Value) (l m : List Int) (e : Ending) (w' : World) : Prop := ∃ u', e = .returned (.pointer (some ⟨b, 0, none⟩)) ∧ At [outC b u, rowY u l] w [outC b u', rowY u' (l ++ m)] w'
theorem outShort {w : World} {b : Nat} {u : Value} {l : List Int} (h : Sep [outC b u, rowY u l] w) (v : Nat) (hv : v < 18446744073709551616) (hl : l.length ≤ 100000000000000) :
 Calls Tryz.prog 64 #[.pointer (some ⟨b, 0, none⟩), .int .u64 v] w (OutPost w b u l (shortN v)) := by
 obtain ⟨i0, hi0, hz0, hz1, hz2⟩ := info_parts infoY
 have hA := At.start h
 have hF := hA.facts
 clear h
 have hnl : (shortN v).length ≤ 10 := short_len 9 v (by omega)
 obtain ⟨ax, cap, rfl, hax, hcap, _⟩ := hA.row_form (v := u) (n := l.length) (xs := flatY l) sR
 have hF := hA.facts; (try simp only [uZ] at hA hF)
 go_enter Tryz.func64, Tryz.ntmps64
 go_wp2_with fail
 have hm : Tryz.prog.follows .mixedOrders = true := by kernel_rfl
 have hA := hA.drew
 refine wp_region_held (S := fun _ => True) hm ?_
 change wpAnyH _ _ _ _ _ 11 _ _ w.drew
 generalize w.drew = w2 at *
 refine tZ 0 5 ((.pointer (some ⟨b, 0, none⟩))) (r := (fun w' hS => by simp [execOp, go_sem, Act.eval, Act.put])) (s := trivial) (h := ?_)
 go_frame
 refine tZ 1 6 ((.pointer (some ⟨b, 0, none⟩))) (r := (fun w' hS => by simp [execOp, go_sem, Act.eval, Act.put])) (s := trivial) (h := ?_)
 go_frame
 refine tZ 2 7 ((.pointer (some ⟨b, 0, none⟩))) (r := (fun w' hS => by simp [execOp, go_sem, Act.eval, Act.put])) (s := trivial) (h := ?_)
 go_frame
 refine tZ 3 8 ((.pointer (some ⟨b, 0, none⟩))) (r := (fun w' hS => by kernel_rfl)) (s := trivial) (h := ?_)
 go_frame
 refine tZ 5 10 ((.int .u64 v)) (r := (fun w' hS => by simp [execOp, go_sem, Act.eval, Act.put])) (s := trivial) (h := ?_)
 go_frame
 refine wpAnyH_two (i := 4) (j := 6) (by kernel_rfl) ?_ ?_
 · skip
   refine wpOp_val (i := 4) (v := .slice ax l.length cap) rfl rfl (run_load_one (b := b) (j := 0) rfl (by exact rfl) (hA.get (A := outC b (.slice ax l.length cap)) sR) (by kernel_rfl) rfl) ?_
   refine ⟨trivial, ?_⟩
   change wpAnyH _ _ _ _ _ _ _ (Act.put _ (some 9) _) _
   go_frame
   refine wpAnyH_one (i := 6) (by kernel_rfl) ?_
   refine opCall_at (i := 6) (d := some 11) rfl rfl rfl (fn := 86) (args := #[.int .u64 v]) (by simp [execOp, go_sem, Act.eval, Act.put]) (short_any v w2 hv) ?_
   intro uu z1 hT
   have hB := hA.call0 hT
   simp only [uA] at hB
   obtain ⟨nx, nn, ncap, hnv, hnn⟩ := hB.row_hid (v := uu) (n := (shortN v).length) (xs := flatY (shortN v)) sR
   subst hnv
   have hnn2 := hnn.out
   subst hnn2
   refine ⟨trivial, ?_⟩
   go_frame
   refine wpAnyH_one (i := 7) (by kernel_rfl) ?_
   refine opAppend_at (k := 7) (d := some 12) (e := 5) (size := 1) (v := .slice ax l.length cap) (xs := flatY l) (n := l.length) (m := (shortN v).length) (news := flatY (shortN v)) rfl rfl rfl rfl (.tmp 9) (.tmp 11) 62 rfl Tryz.underlying62 hi0 hz0 hz1 hz2 rfl (by omega) hB sR (by (try simp only [Act.eval, eV]) <;> exact rfl) (by (try simp only [Act.eval, eV]) <;> exact rfl) (flat_len _ _ encY_len _) (hB.row_reads (v := .slice nx (shortN v).length ncap) (n := (shortN v).length) (xs := flatY (shortN v)) sR) (flat_one encY_one _) (by unfold maxLen; omega) (by omega) ?_
   intro v2 z2 hC
   rw [rowY_app] at hC
   obtain ⟨cx, cn, ccap, hcv, hcn⟩ := hC.row_hid (v := v2) (n := (l ++ shortN v).length) (xs := flatY (l ++ shortN v)) sR
   subst hcv
   have hcn2 := hcn.out
   clear hcn
   refine ⟨trivial, ?_⟩
   go_frame
   refine tZ 8 13 ((.pointer (some ⟨b, 0, none⟩))) (r := (fun w' hS => by simp [execOp, go_sem, Act.eval, Act.put])) (s := trivial) (h := ?_)
   go_frame
   refine tZ 9 14 ((.pointer (some ⟨b, 0, none⟩))) (r := (fun w' hS => by kernel_rfl)) (s := trivial) (h := ?_)
   go_frame
   refine wpAnyH_one (i := 10) (by kernel_rfl) ?_
   refine opStore_at (i := 10) (x := .tmp 14) (y := .tmp 12) (ty := 62) (b := b) (j := 0) (v := .slice cx cn ccap) (vs := [.slice cx cn ccap]) rfl rfl rfl rfl (by (try simp only [Act.eval, eV]) <;> exact rfl) (by (try simp only [Act.eval, eV]) <;> exact rfl) rfl hC (c := [.slice ax l.length cap]) sR (by kernel_rfl) rfl (by simp) ?_
   intro z3 hD
   simp only [setL, List.set_cons_zero] at hD
   refine ⟨trivial, ?_⟩
   refine wpAnyH_done (by kernel_rfl) ?_ _
   try go_frame
   go_wp2_with fail
   go_ret
   exact ⟨.slice cx cn ccap, rfl, hD.only2 (A := outC b (.slice cx cn ccap)) (B := rowY (.slice cx cn ccap) (l ++ shortN v)) sR sR⟩
 · skip
   refine opCall_at (i := 6) (d := some 11) rfl rfl rfl (fn := 86) (args := #[.int .u64 v]) (by simp [execOp, go_sem, Act.eval, Act.put]) (short_any v w2 hv) ?_
   intro uu z1 hT
   have hB := hA.call0 hT
   simp only [uA] at hB
   obtain ⟨nx, nn, ncap, hnv, hnn⟩ := hB.row_hid (v := uu) (n := (shortN v).length) (xs := flatY (shortN v)) sR
   subst hnv
   have hnn2 := hnn.out
   subst hnn2
   refine ⟨trivial, ?_⟩
   go_frame
   refine wpAnyH_one (i := 4) (by kernel_rfl) ?_
   refine wpOp_val (i := 4) (v := .slice ax l.length cap) rfl rfl (run_load_one (b := b) (j := 0) rfl (by exact rfl) (hB.get (A := outC b (.slice ax l.length cap)) sR) (by kernel_rfl) rfl) ?_
   refine ⟨trivial, ?_⟩
   change wpAnyH _ _ _ _ _ _ _ (Act.put _ (some 9) _) _
   go_frame
   refine wpAnyH_one (i := 7) (by kernel_rfl) ?_
   refine opAppend_at (k := 7) (d := some 12) (e := 5) (size := 1) (v := .slice ax l.length cap) (xs := flatY l) (n := l.length) (m := (shortN v).length) (news := flatY (shortN v)) rfl rfl rfl rfl (.tmp 9) (.tmp 11) 62 rfl Tryz.underlying62 hi0 hz0 hz1 hz2 rfl (by omega) hB sR (by (try simp only [Act.eval, eV]) <;> exact rfl) (by (try simp only [Act.eval, eV]) <;> exact rfl) (flat_len _ _ encY_len _) (hB.row_reads (v := .slice nx (shortN v).length ncap) (n := (shortN v).length) (xs := flatY (shortN v)) sR) (flat_one encY_one _) (by unfold maxLen; omega) (by omega) ?_
   intro v2 z2 hC
   rw [rowY_app] at hC
   obtain ⟨cx, cn, ccap, hcv, hcn⟩ := hC.row_hid (v := v2) (n := (l ++ shortN v).length) (xs := flatY (l ++ shortN v)) sR
   subst hcv
   have hcn2 := hcn.out
   clear hcn
   refine ⟨trivial, ?_⟩
   go_frame
   refine tZ 8 13 ((.pointer (some ⟨b, 0, none⟩))) (r := (fun w' hS => by simp [execOp, go_sem, Act.eval, Act.put])) (s := trivial) (h := ?_)
   go_frame
   refine tZ 9 14 ((.pointer (some ⟨b, 0, none⟩))) (r := (fun w' hS => by kernel_rfl)) (s := trivial) (h := ?_)
   go_frame
   refine wpAnyH_one (i := 10) (by kernel_rfl) ?_
   refine opStore_at (i := 10) (x := .tmp 14) (y := .tmp 12) (ty := 62) (b := b) (j := 0) (v := .slice cx cn ccap) (vs := [.slice cx cn ccap]) rfl rfl rfl rfl (by (try simp only [Act.eval, eV]) <;> exact rfl) (by (try simp only [Act.eval, eV]) <;> exact rfl) rfl hC (c := [.slice ax l.length cap]) sR (by kernel_rfl) rfl (by simp) ?_
   intro z3 hD
   simp only [setL, List.set_cons_zero] at hD
   refine ⟨trivial, ?_⟩
   refine wpAnyH_done (by kernel_rfl) ?_ _
   try go_frame
   go_wp2_with fail
   go_ret
   exact ⟨.slice cx cn ccap, rfl, hD.only2 (A := outC b (.slice cx cn ccap)) (B := rowY (.slice cx cn ccap) (l ++ shortN v)) sR sR⟩
theorem outFixed {w : World} {b : Nat} {u : Value} {l : List Int} (h : Sep [outC b u, rowY u l] w) (v : Nat) (hv : v < 18446744073709551616) (hl : l.length ≤ 100000000000000) :
 Calls Tryz.prog 43 #[.pointer (some ⟨b, 0, none⟩), .int .u64 v] w (OutPost w b u l (fixL v)) := by
 obtain ⟨i0, hi0, hz0, hz1, hz2⟩ := info_parts infoY
 have hA := At.start h
 have hF := hA.facts
 clear h
 have hnl : (fixL v).length ≤ 10 := by simp [fixL]
 obtain ⟨ax, cap, rfl, hax, hcap, _⟩ := hA.row_form (v := u) (n := l.length) (xs := flatY l) sR
 have hF := hA.facts; (try simp only [uZ] at hA hF)
 go_enter Tryz.func43, Tryz.ntmps43
 go_wp2_with fail
 have hm : Tryz.prog.follows .mixedOrders = true := by kernel_rfl
 have hA := hA.drew
 refine wp_region_held (S := fun _ => True) hm ?_
 change wpAnyH _ _ _ _ _ 11 _ _ w.drew
 generalize w.drew = w2 at *
 refine tZ 0 5 ((.pointer (some ⟨b, 0, none⟩))) (r := (fun w' hS => by simp [execOp, go_sem, Act.eval, Act.put])) (s := trivial) (h := ?_)
 go_frame
 refine tZ 1 6 ((.pointer (some ⟨b, 0, none⟩))) (r := (fun w' hS => by simp [execOp, go_sem, Act.eval, Act.put])) (s := trivial) (h := ?_)
 go_frame
 refine tZ 2 7 ((.pointer (some ⟨b, 0, none⟩))) (r := (fun w' hS => by simp [execOp, go_sem, Act.eval, Act.put])) (s := trivial) (h := ?_)
 go_frame
 refine tZ 3 8 ((.pointer (some ⟨b, 0, none⟩))) (r := (fun w' hS => by kernel_rfl)) (s := trivial) (h := ?_)
 go_frame
 refine tZ 5 10 ((.int .u64 v)) (r := (fun w' hS => by simp [execOp, go_sem, Act.eval, Act.put])) (s := trivial) (h := ?_)
 go_frame
 refine wpAnyH_two (i := 4) (j := 6) (by kernel_rfl) ?_ ?_
 · skip
   refine wpOp_val (i := 4) (v := .slice ax l.length cap) rfl rfl (run_load_one (b := b) (j := 0) rfl (by exact rfl) (hA.get (A := outC b (.slice ax l.length cap)) sR) (by kernel_rfl) rfl) ?_
   refine ⟨trivial, ?_⟩
   change wpAnyH _ _ _ _ _ _ _ (Act.put _ (some 9) _) _
   go_frame
   refine wpAnyH_one (i := 6) (by kernel_rfl) ?_
   refine opCall_at (i := 6) (d := some 11) rfl rfl rfl (fn := 65) (args := #[.int .u64 v, .int .i64 8]) (by simp [execOp, go_sem, Act.eval, Act.put]) (bytes8_any v w2 hv) ?_
   intro uu z1 hT
   have hB := hA.call0 hT
   simp only [uA] at hB
   obtain ⟨nx, nn, ncap, hnv, hnn⟩ := hB.row_hid (v := uu) (n := (fixL v).length) (xs := flatY (fixL v)) sR
   subst hnv
   have hnn2 := hnn.out
   subst hnn2
   refine ⟨trivial, ?_⟩
   go_frame
   refine wpAnyH_one (i := 7) (by kernel_rfl) ?_
   refine opAppend_at (k := 7) (d := some 12) (e := 5) (size := 1) (v := .slice ax l.length cap) (xs := flatY l) (n := l.length) (m := (fixL v).length) (news := flatY (fixL v)) rfl rfl rfl rfl (.tmp 9) (.tmp 11) 62 rfl Tryz.underlying62 hi0 hz0 hz1 hz2 rfl (by omega) hB sR (by (try simp only [Act.eval, eV]) <;> exact rfl) (by (try simp only [Act.eval, eV]) <;> exact rfl) (flat_len _ _ encY_len _) (hB.row_reads (v := .slice nx (fixL v).length ncap) (n := (fixL v).length) (xs := flatY (fixL v)) sR) (flat_one encY_one _) (by unfold maxLen; omega) (by omega) ?_
   intro v2 z2 hC
   rw [rowY_app] at hC
   obtain ⟨cx, cn, ccap, hcv, hcn⟩ := hC.row_hid (v := v2) (n := (l ++ fixL v).length) (xs := flatY (l ++ fixL v)) sR
   subst hcv
   have hcn2 := hcn.out
   clear hcn
   refine ⟨trivial, ?_⟩
   go_frame
   refine tZ 8 13 ((.pointer (some ⟨b, 0, none⟩))) (r := (fun w' hS => by simp [execOp, go_sem, Act.eval, Act.put])) (s := trivial) (h := ?_)
   go_frame
   refine tZ 9 14 ((.pointer (some ⟨b, 0, none⟩))) (r := (fun w' hS => by kernel_rfl)) (s := trivial) (h := ?_)
   go_frame
   refine wpAnyH_one (i := 10) (by kernel_rfl) ?_
   refine opStore_at (i := 10) (x := .tmp 14) (y := .tmp 12) (ty := 62) (b := b) (j := 0) (v := .slice cx cn ccap) (vs := [.slice cx cn ccap]) rfl rfl rfl rfl (by (try simp only [Act.eval, eV]) <;> exact rfl) (by (try simp only [Act.eval, eV]) <;> exact rfl) rfl hC (c := [.slice ax l.length cap]) sR (by kernel_rfl) rfl (by simp) ?_
   intro z3 hD
   simp only [setL, List.set_cons_zero] at hD
   refine ⟨trivial, ?_⟩
   refine wpAnyH_done (by kernel_rfl) ?_ _
   try go_frame
   go_wp2_with fail
   go_ret
   exact ⟨.slice cx cn ccap, rfl, hD.only2 (A := outC b (.slice cx cn ccap)) (B := rowY (.slice cx cn ccap) (l ++ fixL v)) sR sR⟩
 · skip
   refine opCall_at (i := 6) (d := some 11) rfl rfl rfl (fn := 65) (args := #[.int .u64 v, .int .i64 8]) (by simp [execOp, go_sem, Act.eval, Act.put]) (bytes8_any v w2 hv) ?_
   intro uu z1 hT
   have hB := hA.call0 hT
   simp only [uA] at hB
   obtain ⟨nx, nn, ncap, hnv, hnn⟩ := hB.row_hid (v := uu) (n := (fixL v).length) (xs := flatY (fixL v)) sR
   subst hnv
   have hnn2 := hnn.out
   subst hnn2
   refine ⟨trivial, ?_⟩
   go_frame
   refine wpAnyH_one (i := 4) (by kernel_rfl) ?_
   refine wpOp_val (i := 4) (v := .slice ax l.length cap) rfl rfl (run_load_one (b := b) (j := 0) rfl (by exact rfl) (hB.get (A := outC b (.slice ax l.length cap)) sR) (by kernel_rfl) rfl) ?_
   refine ⟨trivial, ?_⟩
   change wpAnyH _ _ _ _ _ _ _ (Act.put _ (some 9) _) _
   go_frame
   refine wpAnyH_one (i := 7) (by kernel_rfl) ?_
   refine opAppend_at (k := 7) (d := some 12) (e := 5) (size := 1) (v := .slice ax l.length cap) (xs := flatY l) (n := l.length) (m := (fixL v).length) (news := flatY (fixL v)) rfl rfl rfl rfl (.tmp 9) (.tmp 11) 62 rfl Tryz.underlying62 hi0 hz0 hz1 hz2 rfl (by omega) hB sR (by (try simp only [Act.eval, eV]) <;> exact rfl) (by (try simp only [Act.eval, eV]) <;> exact rfl) (flat_len _ _ encY_len _) (hB.row_reads (v := .slice nx (fixL v).length ncap) (n := (fixL v).length) (xs := flatY (fixL v)) sR) (flat_one encY_one _) (by unfold maxLen; omega) (by omega) ?_
   intro v2 z2 hC
   rw [rowY_app] at hC
   obtain ⟨cx, cn, ccap, hcv, hcn⟩ := hC.row_hid (v := v2) (n := (l ++ fixL v).length) (xs := flatY (l ++ fixL v)) sR
   subst hcv
   have hcn2 := hcn.out
   clear hcn
   refine ⟨trivial, ?_⟩
   go_frame
   refine tZ 8 13 ((.pointer (some ⟨b, 0, none⟩))) (r := (fun w' hS => by simp [execOp, go_sem, Act.eval, Act.put])) (s := trivial) (h := ?_)
   go_frame
   refine tZ 9 14 ((.pointer (some ⟨b, 0, none⟩))) (r := (fun w' hS => by kernel_rfl)) (s := trivial) (h := ?_)
   go_frame
   refine wpAnyH_one (i := 10) (by kernel_rfl) ?_
   refine opStore_at (i := 10) (x := .tmp 14) (y := .tmp 12) (ty := 62) (b := b) (j := 0) (v := .slice cx cn ccap) (vs := [.slice cx cn ccap]) rfl rfl rfl rfl (by (try simp only [Act.eval, eV]) <;> exact rfl) (by (try simp only [Act.eval, eV]) <;> exact rfl) rfl hC (c := [.slice ax l.length cap]) sR (by kernel_rfl) rfl (by simp) ?_
   intro z3 hD
   simp only [setL, List.set_cons_zero] at hD
   refine ⟨trivial, ?_⟩
   refine wpAnyH_done (by kernel_rfl) ?_ _
   try go_frame
   go_wp2_with fail
   go_ret
   exact ⟨.slice cx cn ccap, rfl, hD.only2 (A := outC b (.slice cx cn ccap)) (B := rowY (.slice cx cn ccap) (l ++ fixL v)) sR sR⟩
def textL (s : ByteArray) : List Int := s.data.toList.map (fun x => (x.toNat : Int))
theorem textL_len (s : ByteArray) : (textL s).length = s.size := by unfold textL; rw [List.length_map]; exact Array.length_toList
theorem str_flat (s : ByteArray) : Lib.strCells s = flatY (textL s) := by
 unfold Lib.strCells textL
 generalize s.data.toList = r
 show _ = (r.map _).flatMap encY
 induction r with
 | nil => rfl
 | cons c r ih => rw [List.map_cons, List.map_cons, List.flatMap_cons, ← ih]; rfl
theorem append_text (w : World) {t u ty e : TypeId} {i : TypeInfo} {P : Program} (ht : P.underlying t = some (.slice e)) (hu : P.underlying u = some .string) (hi : P.info? e = some i) (hz : i.zero = some (.int .u8 0)) (hsize : i.size = 1) (hby : i.bytes = 1)
 (v : Value) (n : Nat) (xs : List Value) (hown : w.ownsRow 0 e 1 v n xs) (s : ByteArray) (h63 : n + s.size ≤ 130000000000000) :
 ∃ v' w', (Builtin.append_ #[t, u] ty #[v, .string s]).run P w = .ok v' w' ∧ w'.ownsRow 0 e 1 v' (n + s.size) (xs ++ Lib.strCells s) ∧ w.grownBy w' v.ownBlock ∧ (v'.ownBlock = v.ownBlock ∨ v'.ownBlock = some w.heap.size) := by
 obtain ⟨v', w', h1, h2, h3, h4⟩ := Lib.run_append_own_string (P := P) w 0 t u ty e i ht hu hi hz hsize hby v n xs hown s (by unfold maxLen; omega) (by omega) (Nat.zero_le _)
 refine ⟨v', w', h1, h2, h3, ?_⟩
 have hxl : xs.length = n := by simpa using hown.1
 rcases hown.2 with ⟨rfl, rfl⟩ | ⟨g, cap, cur, rfl, hbg, hg, hnc, hcm, hcs, htake⟩
 · by_cases hm : s.size = 0
   · have := h4.2 ⟨rfl, hm⟩
     subst this
     exact .inl rfl
   · have hr := run_append_nil_string (P := P) w t u ty e i (.int .u8 0) ht hu hi hz s (by omega) (by omega) (by rw [hby]; omega)
     rw [h1] at hr
     cases hr
     exact .inr rfl
 · by_cases hroom : n + s.size ≤ cap
   · have hr := Lib.run_append_room_string (P := P) w t u ty e i ht hu hi hsize g n cap cur hg s hroom (by omega)
     rw [h1] at hr
     cases hr
     exact .inl rfl
   · have holds : ∀ j u, xs[j]? = some u → w.cell? ((⟨g, 0, none⟩ : Addr).add j) = some u := hown.cells (g := g) rfl
     have hr := Lib.run_append_grow_string (P := P) w t u ty e i (.int .u8 0) ht hu hi hz ⟨g, 0, none⟩ n cap xs (by rw [hsize]; simpa using hxl) holds s (by omega) (by omega) (by rw [hby]; exact growslice_fits (by omega) (by omega))
     rw [h1] at hr
     cases hr
     exact .inr rfl
theorem wpList_append_text_at {P : Program} {ops : Array Oper} {rest : List Oper} {o : Oper} {a : Act} {Q : Exit → Act → World → Prop} {L0 L F : List Part} {w0 w : World} {e : TypeId} {n : Nat} {v : Value} {xs : List Value} {i : TypeInfo} (hg : o.guard = none) (s' x : Operand) (t u : TypeId) (ho : o.op = .call { callee := .builtin .append, args := #[s', x], argTypes := #[t, u] })
 (ht : P.underlying t = some (.slice e)) (hu : P.underlying u = some .string) (hi : P.info? e = some i) (hz : i.zero = some (.int .u8 0)) (hsize : i.size = 1) (hby : i.bytes = 1)
 (h : At L0 w0 L w) (s : Sel (Part.row e 1 v n xs) L F) (hs : a.eval s' = v) {tx : ByteArray} (hx : a.eval x = .string tx) (h63 : n + tx.size ≤ 130000000000000)
 (hK : ∀ v' w', At L0 w0 (Part.row e 1 v' (n + tx.size) (xs ++ Lib.strCells tx) :: F) w' → wpList P ops Q rest (a.put o.dst v') w') : wpList P ops Q (o :: rest) a w := by
 obtain ⟨v', w', h1, h2, h3, h4⟩ := append_text (P := P) (ty := o.type) w ht hu hi hz hsize hby v n xs (h.get s) tx h63
 refine wpList_val hg ?_ (hK v' w' (h.turn s _ h2 (fun b hb => by
  rcases h4 with h4 | h4
  · exact .inl (show v.ownBlock = some b from by rw [← h4]; exact hb)
  · right
    have hb' : v'.ownBlock = some b := hb
    rw [h4] at hb'
    cases hb'
    exact Nat.le_refl _) (exc_grown h3)))
 simp [execOp, ho, resolve, invoke, builtin, hs, hx, h1, Result.andThen]
def textB (s : ByteArray) : List Int := shortN s.size ++ textL s
theorem outText {w : World} {b : Nat} {u : Value} {l : List Int} (h : Sep [outC b u, rowY u l] w) (s : ByteArray) (hsz : s.size ≤ 20000000000000) (hl : l.length ≤ 100000000000000) :
 Calls Tryz.prog 42 #[.pointer (some ⟨b, 0, none⟩), .string s] w (OutPost w b u l (textB s)) := by
 obtain ⟨i0, hi0, hz0, hz1, hz2⟩ := info_parts infoY
 have hA := At.start h
 have hF := hA.facts
 have hw : IntKind.u64.wrap (s.size : Int) = (s.size : Int) := by rw [IntKind.wrap_u64]; omega
 have hnl : (shortN s.size).length ≤ 10 := short_len 9 s.size (by omega)
 have hF := hA.facts; (try simp only [uZ] at hA hF)
 go_enter Tryz.func42, Tryz.ntmps42
 go_wp2_with fail
 refine (outShort h s.size (by omega) hl).mono ?_
 clear h hF hA
 rintro e w' ⟨u', rfl, hA⟩
 have hll : (l ++ shortN s.size).length ≤ 100000000000010 := by rw [List.length_append]; omega
 obtain ⟨l2, hl2⟩ : ∃ z, l ++ shortN s.size = z := ⟨_, rfl⟩
 rw [hl2] at hA hll
 obtain ⟨ax, an, cap, hav, han⟩ := hA.row_hid (v := u') (n := l2.length) (xs := flatY l2) sR
 subst hav
 have han2 := han.out
 subst han2
 clear han
 have hF := hA.facts; (try simp only [uZ] at hA hF)
 go_wp2_with (first
  | (with_reducible show wpList _ _ _ ({ dst := _, op := Op.call { callee := Callee.builtin Builtin.append, args := _, argTypes := _ }, type := _, pos := _, after := _, guard := _ } :: _) _ _; refine wpList_append_text_at (e := 5) (v := .slice ax l2.length cap) (xs := flatY l2) (n := l2.length) (tx := s) rfl _ _ 62 9 rfl Tryz.underlying62 Tryz.underlying9 hi0 hz0 hz1 hz2 hA sR (by (try simp only [Act.eval, eV]) <;> exact rfl) (by (try simp only [Act.eval, eV]) <;> exact rfl) (by omega) ?_; intro v2 w7 hB; rw [str_flat, ← textL_len, rowY_app] at hB; obtain ⟨cx, cn, ccap, hcv, hcn⟩ := hB.row_hid (v := v2) (n := (l2 ++ textL s).length) (xs := flatY (l2 ++ textL s)) sR; subst hcv; clear hF hA; have hA := hB; clear hB; have hF := hA.facts; (try simp only [uZ] at hA hF))
  | ((with_reducible refine gst ?_); refine wT hA ?_; clear hF hA; intro w1 hA hF; (try simp only [uZ] at hA hF)) | ((with_reducible refine gbx ?_); refine wC hA ?_; clear hF hA; intro b1 w1 hA hb1 hF; (try simp only [uZ] at hA hF)))
 go_ret
 refine ⟨.slice cx cn ccap, rfl, ?_⟩
 have hE := hA.only2 (A := outC b (.slice cx cn ccap)) (B := rowY (.slice cx cn ccap) (l2 ++ textL s)) sR sR
 rw [← hl2, List.append_assoc] at hE
 exact hE
end Go.Proofs.YtgbpfgdjnhbcgaaGreatDoor.Wire
end
section
namespace Go.Proofs.YtgbpfgdjnhbcgaaGreatDoor.Wire
open Go.RowKit
theorem flatY_map (l : List Int) : flatY l = l.map (Value.int .u8) := by
 induction l with
 | nil => rfl
 | cons x l ih => show encY x ++ flatY l = _; rw [ih]; rfl
theorem flatY_get (l : List Int) (i : Nat) (hi : i < l.length) : (flatY l)[i]? = some (.int .u8 l[i]) := by
 rw [flatY_map, List.getElem?_map, List.getElem?_eq_getElem hi]; rfl
theorem clone_row {L0 L F : List Part} {w0 w : World} {v : Value} {l : List Int} (hA : At L0 w0 L w) (s : Sel (rowY v l) L F) (hl : l.length ≤ 140000000000000) :
 Calls Tryz.prog 45 #[v] w fun e w' => ∃ v', e = .returned v' ∧ At L0 w0 (rowY v' l :: L) w' := by
 obtain ⟨ax, cap, rfl, hax, hcap, _⟩ := hA.row_form (v := v) (n := l.length) (xs := flatY l) s
 have hr := hA.row_reads (v := .slice ax l.length cap) (n := l.length) (xs := flatY l) s
 cases ax with
 | none =>
  have h0 : l = [] := List.eq_nil_of_length_eq_zero (hax rfl)
  subst h0
  refine (Tryz.bytes_Clone_nil _ cap w).mono fun e w' h => ?_
  obtain ⟨he, hw⟩ := h
  subst he; subst hw
  exact ⟨_, rfl, rowY_nil hA⟩
 | some a =>
  refine (Tryz.bytes_Clone_at a l.length cap l w rfl (by omega) ?_).mono fun e w' h => ?_
  · intro i hi
    obtain ⟨ax', c', hv', _, hc⟩ := hr
    cases hv'
    obtain ⟨b, off, h, hx⟩ := hc i _ (flatY_get l i hi)
    cases h
    rw [List.getD_eq_getElem?_getD, List.getElem?_eq_getElem hi]
    by_cases q : i = 0
    · subst q; simpa [Addr.add] using hx
    · simpa [Addr.add, q] using hx
  · obtain ⟨v', rfl, hown, _, hb⟩ := h
    refine ⟨v', rfl, ?_⟩
    have := hA.row_new (e := 5) (size := 1) (n := l.length) (xs := flatY l) (v := v') hb (by rw [flatY_map]; exact hown)
    exact this
theorem outBytes {w : World} {b : Nat} {u : Value} {l : List Int} (h : Sep [outC b u, rowY u l] w) (hl : l.length ≤ 140000000000000) :
 Calls Tryz.prog 18 #[.pointer (some ⟨b, 0, none⟩)] w fun e w' => ∃ v, e = .returned v ∧ At [outC b u, rowY u l] w [rowY v l, outC b u, rowY u l] w' := by
 have hA := At.start h
 have hF := hA.facts
 clear h
 obtain ⟨ax, cap, rfl, hax, hcap, _⟩ := hA.row_form (v := u) (n := l.length) (xs := flatY l) sR
 have hF := hA.facts; (try simp only [uZ] at hA hF)
 go_enter Tryz.func18, Tryz.ntmps18
 go_wp2_with fail
 refine (clone_row (v := .slice ax l.length cap) (l := l) hA sR hl).mono ?_
 rintro e w1 ⟨v, rfl, hB⟩
 go_wp2_with fail
 go_ret
 exact ⟨v, rfl, hB⟩
end Go.Proofs.YtgbpfgdjnhbcgaaGreatDoor.Wire
end
section
namespace Go.Proofs.YtgbpfgdjnhbcgaaGreatDoor.Ix
open Go.RowKit
open _root_.Go.Proofs.YtgbpfgdjnhbcgaaGreatDoor.Wire
open Attr (A8)
def encT (a : A8) : List Int := shortN a.s.toNat ++ shortN a.d0.toNat ++ shortN a.d1.toNat ++ shortN a.d2.toNat ++ shortN a.d3.toNat ++ shortN a.d4.toNat ++ shortN a.d5.toNat ++ shortN a.d6.toNat
def encX (e : En) : List Int := textB e.foot ++ fixL e.num.toNat ++ encT e.a
theorem right_bd {a : A8} (h : a.right = true) : (0 ≤ a.s ∧ a.s ≤ 1073741824) ∧ (0 ≤ a.d0 ∧ a.d0 ≤ 1024) ∧ (0 ≤ a.d1 ∧ a.d1 ≤ 1024) ∧ (0 ≤ a.d2 ∧ a.d2 ≤ 1024) ∧ (0 ≤ a.d3 ∧ a.d3 ≤ 1024) ∧ (0 ≤ a.d4 ∧ a.d4 ≤ 1024) ∧ (0 ≤ a.d5 ∧ a.d5 ≤ 1024) ∧ (0 ≤ a.d6 ∧ a.d6 ≤ 1024) := by
 unfold A8.right Attr.badD at h
 simp at h
 omega
def PutA (w : World) (b : Nat) (u : Value) (l m : List Int) (e : Ending) (w' : World) : Prop := ∃ u', e = .returned (.tuple #[]) ∧ At [outC b u, rowY u l] w [outC b u', rowY u' (l ++ m)] w'
set_option maxRecDepth 1000000 in
theorem putA_any {w : World} {b : Nat} {u0 : Value} {l0 : List Int} (h : Sep [outC b u0, rowY u0 l0] w) {a : A8} (ha : a.right = true) (hl : l0.length ≤ 100000000) :
 Calls Tryz.prog 44 #[a.val, .pointer (some ⟨b, 0, none⟩)] w (PutA w b u0 l0 (encT a)) := by
 have hA := At.start h
 have hrt := fun w1 => Attr.right_any a w1
 rw [ha] at hrt
 have hbd := right_bd ha
 clear h ha
 obtain ⟨s, d0, d1, d2, d3, d4, d5, d6⟩ := a
 simp only at hbd
 obtain ⟨s, rfl⟩ : ∃ k : Nat, s = k := ⟨s.toNat, by omega⟩
 obtain ⟨d0, rfl⟩ : ∃ k : Nat, d0 = k := ⟨d0.toNat, by omega⟩
 obtain ⟨d1, rfl⟩ : ∃ k : Nat, d1 = k := ⟨d1.toNat, by omega⟩
 obtain ⟨d2, rfl⟩ : ∃ k : Nat, d2 = k := ⟨d2.toNat, by omega⟩
 obtain ⟨d3, rfl⟩ : ∃ k : Nat, d3 = k := ⟨d3.toNat, by omega⟩
 obtain ⟨d4, rfl⟩ : ∃ k : Nat, d4 = k := ⟨d4.toNat, by omega⟩
 obtain ⟨d5, rfl⟩ : ∃ k : Nat, d5 = k := ⟨d5.toNat, by omega⟩
 obtain ⟨d6, rfl⟩ : ∃ k : Nat, d6 = k := ⟨d6.toNat, by omega⟩
 unfold encT
 simp only [Int.toNat_natCast, A8.val] at hrt ⊢
 have hws : IntKind.u64.wrap (s : Int) = (s : Int) := by rw [IntKind.wrap_u64]; omega
 have hwd0 : IntKind.u64.wrap (d0 : Int) = (d0 : Int) := by rw [IntKind.wrap_u64]; omega
 have hwd1 : IntKind.u64.wrap (d1 : Int) = (d1 : Int) := by rw [IntKind.wrap_u64]; omega
 have hwd2 : IntKind.u64.wrap (d2 : Int) = (d2 : Int) := by rw [IntKind.wrap_u64]; omega
 have hwd3 : IntKind.u64.wrap (d3 : Int) = (d3 : Int) := by rw [IntKind.wrap_u64]; omega
 have hwd4 : IntKind.u64.wrap (d4 : Int) = (d4 : Int) := by rw [IntKind.wrap_u64]; omega
 have hwd5 : IntKind.u64.wrap (d5 : Int) = (d5 : Int) := by rw [IntKind.wrap_u64]; omega
 have hwd6 : IntKind.u64.wrap (d6 : Int) = (d6 : Int) := by rw [IntKind.wrap_u64]; omega
 have hi0 : ∀ w, (Instr.index 38 (.agg #[.int .i64 (d0 : Int), .int .i64 (d1 : Int), .int .i64 (d2 : Int), .int .i64 (d3 : Int), .int .i64 (d4 : Int), .int .i64 (d5 : Int), .int .i64 (d6 : Int)]) (.int .i64 0)).run Tryz.prog w = .ok (.int .i64 (d0 : Int)) w := fun w => by kernel_rfl
 have hi1 : ∀ w, (Instr.index 38 (.agg #[.int .i64 (d0 : Int), .int .i64 (d1 : Int), .int .i64 (d2 : Int), .int .i64 (d3 : Int), .int .i64 (d4 : Int), .int .i64 (d5 : Int), .int .i64 (d6 : Int)]) (.int .i64 1)).run Tryz.prog w = .ok (.int .i64 (d1 : Int)) w := fun w => by kernel_rfl
 have hi2 : ∀ w, (Instr.index 38 (.agg #[.int .i64 (d0 : Int), .int .i64 (d1 : Int), .int .i64 (d2 : Int), .int .i64 (d3 : Int), .int .i64 (d4 : Int), .int .i64 (d5 : Int), .int .i64 (d6 : Int)]) (.int .i64 2)).run Tryz.prog w = .ok (.int .i64 (d2 : Int)) w := fun w => by kernel_rfl
 have hi3 : ∀ w, (Instr.index 38 (.agg #[.int .i64 (d0 : Int), .int .i64 (d1 : Int), .int .i64 (d2 : Int), .int .i64 (d3 : Int), .int .i64 (d4 : Int), .int .i64 (d5 : Int), .int .i64 (d6 : Int)]) (.int .i64 3)).run Tryz.prog w = .ok (.int .i64 (d3 : Int)) w := fun w => by kernel_rfl
 have hi4 : ∀ w, (Instr.index 38 (.agg #[.int .i64 (d0 : Int), .int .i64 (d1 : Int), .int .i64 (d2 : Int), .int .i64 (d3 : Int), .int .i64 (d4 : Int), .int .i64 (d5 : Int), .int .i64 (d6 : Int)]) (.int .i64 4)).run Tryz.prog w = .ok (.int .i64 (d4 : Int)) w := fun w => by kernel_rfl
 have hi5 : ∀ w, (Instr.index 38 (.agg #[.int .i64 (d0 : Int), .int .i64 (d1 : Int), .int .i64 (d2 : Int), .int .i64 (d3 : Int), .int .i64 (d4 : Int), .int .i64 (d5 : Int), .int .i64 (d6 : Int)]) (.int .i64 5)).run Tryz.prog w = .ok (.int .i64 (d5 : Int)) w := fun w => by kernel_rfl
 have hi6 : ∀ w, (Instr.index 38 (.agg #[.int .i64 (d0 : Int), .int .i64 (d1 : Int), .int .i64 (d2 : Int), .int .i64 (d3 : Int), .int .i64 (d4 : Int), .int .i64 (d5 : Int), .int .i64 (d6 : Int)]) (.int .i64 6)).run Tryz.prog w = .ok (.int .i64 (d6 : Int)) w := fun w => by kernel_rfl
 have hn0 := Lib.hid (show l0.length ≤ 100000000 + 0 from hl)
 have hrt' := Lib.hid hrt
 clear hrt hl
 have hF := hA.facts; (try simp only [uZ] at hA hF)
 go_enter Tryz.func44, Tryz.ntmps44
 go_wp2_with (first | ((with_reducible refine gbx ?_); refine wH 40 [.int .i64 s, .int .i64 d0, .int .i64 d1, .int .i64 d2, .int .i64 d3, .int .i64 d4, .int .i64 d5, .int .i64 d6] hA ?_; clear hF hA; intro bA w1 hA hbA hF; (try simp only [uZ] at hA hF)) | ((with_reducible refine gst ?_); refine wT hA ?_; clear hF hA; intro w1 hA hF; (try simp only [uZ] at hA hF)) | ((with_reducible refine gbx ?_); refine wC hA ?_; clear hF hA; intro b1 w1 hA hb1 hF; (try simp only [uZ] at hA hF)))
 refine (hrt'.out _).mono ?_
 rintro e wq ⟨rfl, hx⟩
 have hB := hA.ext hx
 clear hx hrt'
 clear hF hA; have hA := hB; clear hB
 try simp only [uA] at hA
 have hF := hA.facts; (try simp only [uZ] at hA hF)
 go_wp2_with (first | ((with_reducible refine gst ?_); refine wT hA ?_; clear hF hA; intro w1 hA hF; (try simp only [uZ] at hA hF)) | ((with_reducible refine gbx ?_); refine wC hA ?_; clear hF hA; intro b1 w1 hA hb1 hF; (try simp only [uZ] at hA hF)))
 refine (outShort (hA.sep2 (A := outC b u0) (B := rowY u0 l0) sZ sZ) s (by omega) (by have := hn0.out; omega)).mono ?_
 rintro e w1 ⟨u1, rfl, hT⟩
 have hB := hA.call2 (A := outC b u0) (B := rowY u0 l0) sZ sZ hT
 clear hT
 try simp only [uA] at hB
 obtain ⟨l1, hl1⟩ : ∃ z, l0 ++ shortN s = z := ⟨_, rfl⟩
 rw [hl1] at hB
 have hn1 := Lib.hid (show l1.length ≤ 100000000 + 10 from by rw [← hl1, List.length_append]; have h1 := short_len 9 s (by omega); have h2 := hn0.out; omega)
 have hl1' := Lib.hid hl1
 clear hl1
 clear hF hA; have hA := hB; clear hB
 try simp only [uA] at hA
 have hF := hA.facts; (try simp only [uZ] at hA hF)
 go_wp2_with (first | ((with_reducible refine gst ?_); refine wT hA ?_; clear hF hA; intro w1 hA hF; (try simp only [uZ] at hA hF)) | ((with_reducible refine gbx ?_); refine wC hA ?_; clear hF hA; intro b1 w1 hA hb1 hF; (try simp only [uZ] at hA hF)))
 refine wp_loop_rounds 8 ?_
 rw [rounds_succ]
 go_wp2_with (first | ((with_reducible refine gst ?_); refine wT hA ?_; clear hF hA; intro w1 hA hF; (try simp only [uZ] at hA hF)) | ((with_reducible refine gbx ?_); refine wC hA ?_; clear hF hA; intro b1 w1 hA hb1 hF; (try simp only [uZ] at hA hF)))
 refine (outShort (hA.sep2 (A := outC b u1) (B := rowY u1 l1) sZ sZ) d0 (by omega) (by have := hn1.out; omega)).mono ?_
 rintro e w2 ⟨u2, rfl, hT⟩
 have hB := hA.call2 (A := outC b u1) (B := rowY u1 l1) sZ sZ hT
 clear hT
 try simp only [uA] at hB
 obtain ⟨l2, hl2⟩ : ∃ z, l1 ++ shortN d0 = z := ⟨_, rfl⟩
 rw [hl2] at hB
 have hn2 := Lib.hid (show l2.length ≤ 100000000 + 20 from by rw [← hl2, List.length_append]; have h1 := short_len 9 d0 (by omega); have h2 := hn1.out; omega)
 have hl2' := Lib.hid hl2
 clear hl2
 clear hF hA; have hA := hB; clear hB
 try simp only [uA] at hA
 have hF := hA.facts; (try simp only [uZ] at hA hF)
 go_wp2_with (first | ((with_reducible refine gst ?_); refine wT hA ?_; clear hF hA; intro w1 hA hF; (try simp only [uZ] at hA hF)) | ((with_reducible refine gbx ?_); refine wC hA ?_; clear hF hA; intro b1 w1 hA hb1 hF; (try simp only [uZ] at hA hF)))
 rw [rounds_succ]
 go_wp2_with (first | ((with_reducible refine gst ?_); refine wT hA ?_; clear hF hA; intro w1 hA hF; (try simp only [uZ] at hA hF)) | ((with_reducible refine gbx ?_); refine wC hA ?_; clear hF hA; intro b1 w1 hA hb1 hF; (try simp only [uZ] at hA hF)))
 refine (outShort (hA.sep2 (A := outC b u2) (B := rowY u2 l2) sZ sZ) d1 (by omega) (by have := hn2.out; omega)).mono ?_
 rintro e w3 ⟨u3, rfl, hT⟩
 have hB := hA.call2 (A := outC b u2) (B := rowY u2 l2) sZ sZ hT
 clear hT
 try simp only [uA] at hB
 obtain ⟨l3, hl3⟩ : ∃ z, l2 ++ shortN d1 = z := ⟨_, rfl⟩
 rw [hl3] at hB
 have hn3 := Lib.hid (show l3.length ≤ 100000000 + 30 from by rw [← hl3, List.length_append]; have h1 := short_len 9 d1 (by omega); have h2 := hn2.out; omega)
 have hl3' := Lib.hid hl3
 clear hl3
 clear hF hA; have hA := hB; clear hB
 try simp only [uA] at hA
 have hF := hA.facts; (try simp only [uZ] at hA hF)
 go_wp2_with (first | ((with_reducible refine gst ?_); refine wT hA ?_; clear hF hA; intro w1 hA hF; (try simp only [uZ] at hA hF)) | ((with_reducible refine gbx ?_); refine wC hA ?_; clear hF hA; intro b1 w1 hA hb1 hF; (try simp only [uZ] at hA hF)))
 rw [rounds_succ]
 go_wp2_with (first | ((with_reducible refine gst ?_); refine wT hA ?_; clear hF hA; intro w1 hA hF; (try simp only [uZ] at hA hF)) | ((with_reducible refine gbx ?_); refine wC hA ?_; clear hF hA; intro b1 w1 hA hb1 hF; (try simp only [uZ] at hA hF)))
 refine (outShort (hA.sep2 (A := outC b u3) (B := rowY u3 l3) sZ sZ) d2 (by omega) (by have := hn3.out; omega)).mono ?_
 rintro e w4 ⟨u4, rfl, hT⟩
 have hB := hA.call2 (A := outC b u3) (B := rowY u3 l3) sZ sZ hT
 clear hT
 try simp only [uA] at hB
 obtain ⟨l4, hl4⟩ : ∃ z, l3 ++ shortN d2 = z := ⟨_, rfl⟩
 rw [hl4] at hB
 have hn4 := Lib.hid (show l4.length ≤ 100000000 + 40 from by rw [← hl4, List.length_append]; have h1 := short_len 9 d2 (by omega); have h2 := hn3.out; omega)
 have hl4' := Lib.hid hl4
 clear hl4
 clear hF hA; have hA := hB; clear hB
 try simp only [uA] at hA
 have hF := hA.facts; (try simp only [uZ] at hA hF)
 go_wp2_with (first | ((with_reducible refine gst ?_); refine wT hA ?_; clear hF hA; intro w1 hA hF; (try simp only [uZ] at hA hF)) | ((with_reducible refine gbx ?_); refine wC hA ?_; clear hF hA; intro b1 w1 hA hb1 hF; (try simp only [uZ] at hA hF)))
 rw [rounds_succ]
 go_wp2_with (first | ((with_reducible refine gst ?_); refine wT hA ?_; clear hF hA; intro w1 hA hF; (try simp only [uZ] at hA hF)) | ((with_reducible refine gbx ?_); refine wC hA ?_; clear hF hA; intro b1 w1 hA hb1 hF; (try simp only [uZ] at hA hF)))
 refine (outShort (hA.sep2 (A := outC b u4) (B := rowY u4 l4) sZ sZ) d3 (by omega) (by have := hn4.out; omega)).mono ?_
 rintro e w5 ⟨u5, rfl, hT⟩
 have hB := hA.call2 (A := outC b u4) (B := rowY u4 l4) sZ sZ hT
 clear hT
 try simp only [uA] at hB
 obtain ⟨l5, hl5⟩ : ∃ z, l4 ++ shortN d3 = z := ⟨_, rfl⟩
 rw [hl5] at hB
 have hn5 := Lib.hid (show l5.length ≤ 100000000 + 50 from by rw [← hl5, List.length_append]; have h1 := short_len 9 d3 (by omega); have h2 := hn4.out; omega)
 have hl5' := Lib.hid hl5
 clear hl5
 clear hF hA; have hA := hB; clear hB
 try simp only [uA] at hA
 have hF := hA.facts; (try simp only [uZ] at hA hF)
 go_wp2_with (first | ((with_reducible refine gst ?_); refine wT hA ?_; clear hF hA; intro w1 hA hF; (try simp only [uZ] at hA hF)) | ((with_reducible refine gbx ?_); refine wC hA ?_; clear hF hA; intro b1 w1 hA hb1 hF; (try simp only [uZ] at hA hF)))
 rw [rounds_succ]
 go_wp2_with (first | ((with_reducible refine gst ?_); refine wT hA ?_; clear hF hA; intro w1 hA hF; (try simp only [uZ] at hA hF)) | ((with_reducible refine gbx ?_); refine wC hA ?_; clear hF hA; intro b1 w1 hA hb1 hF; (try simp only [uZ] at hA hF)))
 refine (outShort (hA.sep2 (A := outC b u5) (B := rowY u5 l5) sZ sZ) d4 (by omega) (by have := hn5.out; omega)).mono ?_
 rintro e w6 ⟨u6, rfl, hT⟩
 have hB := hA.call2 (A := outC b u5) (B := rowY u5 l5) sZ sZ hT
 clear hT
 try simp only [uA] at hB
 obtain ⟨l6, hl6⟩ : ∃ z, l5 ++ shortN d4 = z := ⟨_, rfl⟩
 rw [hl6] at hB
 have hn6 := Lib.hid (show l6.length ≤ 100000000 + 60 from by rw [← hl6, List.length_append]; have h1 := short_len 9 d4 (by omega); have h2 := hn5.out; omega)
 have hl6' := Lib.hid hl6
 clear hl6
 clear hF hA; have hA := hB; clear hB
 try simp only [uA] at hA
 have hF := hA.facts; (try simp only [uZ] at hA hF)
 go_wp2_with (first | ((with_reducible refine gst ?_); refine wT hA ?_; clear hF hA; intro w1 hA hF; (try simp only [uZ] at hA hF)) | ((with_reducible refine gbx ?_); refine wC hA ?_; clear hF hA; intro b1 w1 hA hb1 hF; (try simp only [uZ] at hA hF)))
 rw [rounds_succ]
 go_wp2_with (first | ((with_reducible refine gst ?_); refine wT hA ?_; clear hF hA; intro w1 hA hF; (try simp only [uZ] at hA hF)) | ((with_reducible refine gbx ?_); refine wC hA ?_; clear hF hA; intro b1 w1 hA hb1 hF; (try simp only [uZ] at hA hF)))
 refine (outShort (hA.sep2 (A := outC b u6) (B := rowY u6 l6) sZ sZ) d5 (by omega) (by have := hn6.out; omega)).mono ?_
 rintro e w7 ⟨u7, rfl, hT⟩
 have hB := hA.call2 (A := outC b u6) (B := rowY u6 l6) sZ sZ hT
 clear hT
 try simp only [uA] at hB
 obtain ⟨l7, hl7⟩ : ∃ z, l6 ++ shortN d5 = z := ⟨_, rfl⟩
 rw [hl7] at hB
 have hn7 := Lib.hid (show l7.length ≤ 100000000 + 70 from by rw [← hl7, List.length_append]; have h1 := short_len 9 d5 (by omega); have h2 := hn6.out; omega)
 have hl7' := Lib.hid hl7
 clear hl7
 clear hF hA; have hA := hB; clear hB
 try simp only [uA] at hA
 have hF := hA.facts; (try simp only [uZ] at hA hF)
 go_wp2_with (first | ((with_reducible refine gst ?_); refine wT hA ?_; clear hF hA; intro w1 hA hF; (try simp only [uZ] at hA hF)) | ((with_reducible refine gbx ?_); refine wC hA ?_; clear hF hA; intro b1 w1 hA hb1 hF; (try simp only [uZ] at hA hF)))
 rw [rounds_succ]
 go_wp2_with (first | ((with_reducible refine gst ?_); refine wT hA ?_; clear hF hA; intro w1 hA hF; (try simp only [uZ] at hA hF)) | ((with_reducible refine gbx ?_); refine wC hA ?_; clear hF hA; intro b1 w1 hA hb1 hF; (try simp only [uZ] at hA hF)))
 refine (outShort (hA.sep2 (A := outC b u7) (B := rowY u7 l7) sZ sZ) d6 (by omega) (by have := hn7.out; omega)).mono ?_
 rintro e w8 ⟨u8, rfl, hT⟩
 have hB := hA.call2 (A := outC b u7) (B := rowY u7 l7) sZ sZ hT
 clear hT
 try simp only [uA] at hB
 obtain ⟨l8, hl8⟩ : ∃ z, l7 ++ shortN d6 = z := ⟨_, rfl⟩
 rw [hl8] at hB
 have hn8 := Lib.hid (show l8.length ≤ 100000000 + 80 from by rw [← hl8, List.length_append]; have h1 := short_len 9 d6 (by omega); have h2 := hn7.out; omega)
 have hl8' := Lib.hid hl8
 clear hl8
 clear hF hA; have hA := hB; clear hB
 try simp only [uA] at hA
 have hF := hA.facts; (try simp only [uZ] at hA hF)
 go_wp2_with (first | ((with_reducible refine gst ?_); refine wT hA ?_; clear hF hA; intro w1 hA hF; (try simp only [uZ] at hA hF)) | ((with_reducible refine gbx ?_); refine wC hA ?_; clear hF hA; intro b1 w1 hA hb1 hF; (try simp only [uZ] at hA hF)))
 rw [rounds_succ]
 go_wp2_with (first | ((with_reducible refine gst ?_); refine wT hA ?_; clear hF hA; intro w1 hA hF; (try simp only [uZ] at hA hF)) | ((with_reducible refine gbx ?_); refine wC hA ?_; clear hF hA; intro b1 w1 hA hb1 hF; (try simp only [uZ] at hA hF)))
 refine bodyPost_ret (v := .tuple #[]) (by simp [results, Tryz.results44, go_sem]) rfl ?_
 refine ⟨u8, rfl, ?_⟩
 have e8 : l8 = l0 ++ (shortN s ++ shortN d0 ++ shortN d1 ++ shortN d2 ++ shortN d3 ++ shortN d4 ++ shortN d5 ++ shortN d6) := by
  rw [← hl8'.out, ← hl7'.out, ← hl6'.out, ← hl5'.out, ← hl4'.out, ← hl3'.out, ← hl2'.out, ← hl1'.out]
  simp only [List.append_assoc]
 rw [← e8]
 exact hA.pick pZ
theorem encT_len {a : A8} (h : a.right = true) : (encT a).length ≤ 80 := by
 obtain ⟨h0, h1, h2, h3, h4, h5, h6, h7⟩ := right_bd h
 have q0 := short_len 9 a.s.toNat (by omega)
 have q1 := short_len 9 a.d0.toNat (by omega)
 have q2 := short_len 9 a.d1.toNat (by omega)
 have q3 := short_len 9 a.d2.toNat (by omega)
 have q4 := short_len 9 a.d3.toNat (by omega)
 have q5 := short_len 9 a.d4.toNat (by omega)
 have q6 := short_len 9 a.d5.toNat (by omega)
 have q7 := short_len 9 a.d6.toNat (by omega)
 unfold encT
 simp only [List.length_append]
 omega
end Go.Proofs.YtgbpfgdjnhbcgaaGreatDoor.Ix
end
section
namespace Go.Proofs.YtgbpfgdjnhbcgaaGreatDoor.Ix
open Go.RowKit
open _root_.Go.Proofs.YtgbpfgdjnhbcgaaGreatDoor.Wire
open Attr (A8)
theorem OutPost.r {w w' : World} {b : Nat} {u : Value} {l m : List Int} {e : Ending} (h : OutPost w b u l m e w') : ∃ x, e = .returned x ∧ (x = .pointer (some ⟨b, 0, none⟩) ∧ ∃ u', At [outC b u, rowY u l] w [outC b u', rowY u' (l ++ m)] w') := by
 obtain ⟨u', rfl, hT⟩ := h
 exact ⟨_, rfl, rfl, u', hT⟩
set_option maxRecDepth 1000000 in
theorem putX_any {w : World} {b : Nat} {u0 : Value} {l0 : List Int} (h : Sep [outC b u0, rowY u0 l0] w) {x : En} (ha : x.a.right = true) (hf : x.foot.size ≤ 1000000) (hn : 0 ≤ x.num ∧ x.num < 18446744073709551616) (hl : l0.length ≤ 90000000) :
 Calls Tryz.prog 16 #[x.val, .pointer (some ⟨b, 0, none⟩)] w (PutA w b u0 l0 (encX x)) := by
 have hm : Tryz.prog.follows .mixedOrders = true := by kernel_rfl
 have hA := At.start h
 clear h
 obtain ⟨foot, num, a⟩ := x
 simp only at ha hf hn
 have hpa := fun (w1 : World) (u : Value) (l : List Int) (q : Sep [outC b u, rowY u l] w1) (hl : l.length ≤ 100000000) => putA_any q ha hl
 unfold encX
 simp only
 generalize encT a = ea at *
 obtain ⟨s, d0, d1, d2, d3, d4, d5, d6⟩ := a
 obtain ⟨num, rfl⟩ : ∃ k : Nat, num = k := ⟨num.toNat, by omega⟩
 simp only [En.val, Int.toNat_natCast, A8.val] at hpa ⊢
 have hpa' := Lib.hid hpa
 have hl0 := Lib.hid hl
 have hf0 := Lib.hid hf
 clear hpa ha hl hf
 have hF := hA.facts; (try simp only [uZ] at hA hF)
 go_enter Tryz.func16, Tryz.ntmps16
 go_upto_region 1 with (first | ((with_reducible refine gbx ?_); refine wH 42 [.string foot, .int .u64 (num : Int), .int .i64 s, .int .i64 d0, .int .i64 d1, .int .i64 d2, .int .i64 d3, .int .i64 d4, .int .i64 d5, .int .i64 d6] hA ?_; clear hF hA; intro bE w1 hA hbE hF; (try simp only [uZ] at hA hF)) | ((with_reducible refine gst ?_); refine wT hA ?_; clear hF hA; intro w1 hA hF; (try simp only [uZ] at hA hF)) | ((with_reducible refine gbx ?_); refine wC hA ?_; clear hF hA; intro b1 w1 hA hb1 hF; (try simp only [uZ] at hA hF)))
 try go_frame
 have hB := hA.drew
 clear hF hA; have hA := hB; clear hB
 refine wp_region_held (S := fun w' => BlockIs w' bE [.string foot, .int .u64 (num : Int), .int .i64 s, .int .i64 d0, .int .i64 d1, .int .i64 d2, .int .i64 d3, .int .i64 d4, .int .i64 d5, .int .i64 d6] 42) hm ?_
 change wpAnyH _ _ _ _ _ 9 _ _ (World.drew _)
 generalize World.drew _ = wd at *
 have hS0 := (hA.get (A := Part.cells bE [.string foot, .int .u64 (num : Int), .int .i64 s, .int .i64 d0, .int .i64 d1, .int .i64 d2, .int .i64 d3, .int .i64 d4, .int .i64 d5, .int .i64 d6] 42) sZ : (fun w' => BlockIs w' bE [.string foot, .int .u64 (num : Int), .int .i64 s, .int .i64 d0, .int .i64 d1, .int .i64 d2, .int .i64 d3, .int .i64 d4, .int .i64 d5, .int .i64 d6] 42) wd)
 refine tP 0 4 (.pointer (some ⟨b, 0, none⟩)) (s := hS0) (h := ?_)
 try go_frame
 refine tP 1 5 (.pointer (some ⟨bE, 0, none⟩)) (s := hS0) (h := ?_)
 try go_frame
 refine tP 2 6 (.pointer (some ⟨bE, 0, none⟩)) (s := hS0) (h := ?_)
 try go_frame
 refine tZ 3 7 (.string foot) (r := (fun w' hS => run_load_one (ty := 9) (b := bE) (j := 0) rfl (by exact rfl) hS (by kernel_rfl) rfl)) (s := hS0) (h := ?_)
 try go_frame
 refine tP 5 9 (.pointer (some ⟨bE, 0, none⟩)) (s := hS0) (h := ?_)
 try go_frame
 refine tP 6 10 (.pointer (some ⟨bE, 1, none⟩)) (s := hS0) (h := ?_)
 try go_frame
 refine tZ 7 11 (.int .u64 (num : Int)) (r := (fun w' hS => run_load_one (ty := 23) (b := bE) (j := 1) rfl (by exact rfl) hS (by kernel_rfl) rfl)) (s := hS0) (h := ?_)
 try go_frame
 refine wpAnyH_one (i := 4) (by kernel_rfl) ?_
 refine opCall_at (i := 4) (d := some 8) rfl rfl (by kernel_rfl) (fn := 42) (args := #[(.pointer (some ⟨b, 0, none⟩)), .string foot]) (by simp [execOp, go_sem, Act.eval, Act.put]) ((outText (hA.sep2 (A := outC b u0) (B := rowY u0 l0) sZ sZ) foot (by have := hf0.out; omega) (by have := hl0.out; omega)).mono (fun e w' h => OutPost.r h)) ?_
 rintro xq zq ⟨rfl, u1, hT⟩
 have hB := hA.call2 (A := outC b u0) (B := rowY u0 l0) sZ sZ hT
 clear hT
 simp only [uA] at hB
 obtain ⟨l1, hl1⟩ : ∃ z, l0 ++ textB foot = z := ⟨_, rfl⟩
 rw [hl1] at hB
 have hl1' := Lib.hid hl1
 clear hl1
 refine andH hB.ci fun hS0 => ?_
 clear hA; have hA := hB; clear hB
 try go_frame
 have hl1b : l1.length ≤ 92000000 := by rw [← hl1'.out, List.length_append]; have h1 := hl0.out; have h2 := hf0.out; have h3 := short_len 9 foot.size (by omega); unfold textB; rw [List.length_append, textL_len]; omega
 have hl1b := Lib.hid hl1b
 refine wpAnyH_one (i := 8) (by kernel_rfl) ?_
 refine opCall_at (i := 8) (d := some 12) rfl rfl (by kernel_rfl) (fn := 43) (args := #[(.pointer (some ⟨b, 0, none⟩)), .int .u64 (num : Int)]) (by simp [execOp, go_sem, Act.eval, Act.put]) ((outFixed (hA.sep2 (A := outC b u1) (B := rowY u1 l1) sZ sZ) num (by omega) (by have := hl1b.out; omega)).mono (fun e w' h => OutPost.r h)) ?_
 rintro xq zq ⟨rfl, u2, hT⟩
 have hB := hA.call2 (A := outC b u1) (B := rowY u1 l1) sZ sZ hT
 clear hT
 simp only [uA] at hB
 obtain ⟨l2, hl2⟩ : ∃ z, l1 ++ fixL num = z := ⟨_, rfl⟩
 rw [hl2] at hB
 have hl2' := Lib.hid hl2
 clear hl2
 refine andH hB.ci fun hS0 => ?_
 clear hA; have hA := hB; clear hB
 try go_frame
 have hl2b := Lib.hid (show l2.length ≤ 93000000 from by rw [← hl2'.out, List.length_append]; have h1 := hl1b.out; have h3 : (fixL num).length = 8 := (by simp [fixL]); omega)
 refine wpAnyH_done (by kernel_rfl) ?_ _
 try go_frame
 clear hS0
 have hF := hA.facts; (try simp only [uZ] at hA hF)
 go_wp2_with (first | ((with_reducible refine gst ?_); refine wT hA ?_; clear hF hA; intro w1 hA hF; (try simp only [uZ] at hA hF)) | ((with_reducible refine gbx ?_); refine wC hA ?_; clear hF hA; intro b1 w1 hA hb1 hF; (try simp only [uZ] at hA hF)))
 refine (hpa'.out _ u2 l2 (hA.sep2 (A := outC b u2) (B := rowY u2 l2) sZ sZ) (by have := hl2b.out; omega)).mono ?_
 rintro e w4 ⟨u3, rfl, hT⟩
 have hB := hA.call2 (A := outC b u2) (B := rowY u2 l2) sZ sZ hT
 clear hT
 clear hF hA; have hA := hB; clear hB
 try simp only [uA] at hA
 have hF := hA.facts; (try simp only [uZ] at hA hF)
 go_wp2_with (first | ((with_reducible refine gst ?_); refine wT hA ?_; clear hF hA; intro w1 hA hF; (try simp only [uZ] at hA hF)) | ((with_reducible refine gbx ?_); refine wC hA ?_; clear hF hA; intro b1 w1 hA hb1 hF; (try simp only [uZ] at hA hF)))
 refine bodyPost_ret (v := .tuple #[]) (by simp [results, Tryz.results16, go_sem]) rfl ?_
 refine ⟨u3, rfl, ?_⟩
 rw [show l0 ++ (textB foot ++ fixL num ++ ea) = l2 ++ ea from by rw [← hl2'.out, ← hl1'.out]; simp only [List.append_assoc]]
 exact hA.pick pZ
theorem encX_len {e : En} (h : e.a.right = true) (hf : e.foot.size ≤ 1000000) : (encX e).length ≤ 10 + e.foot.size + 88 := by
 have h1 := encT_len h
 have h2 := short_len 9 e.foot.size (by omega)
 have h3 : (fixL e.num.toNat).length = 8 := by simp [fixL]
 unfold encX textB
 simp only [List.length_append]
 rw [textL_len]
 omega
end Go.Proofs.YtgbpfgdjnhbcgaaGreatDoor.Ix
end
section
namespace Go.Proofs.YtgbpfgdjnhbcgaaGreatDoor.Enc
open _root_.Go.Proofs.YtgbpfgdjnhbcgaaGreatDoor.Wire
theorem textL_inj {s t : ByteArray} (h : textL s = textL t) : s = t := by
 unfold textL at h
 refine Go.WideShapes.bytes_inj ?_
 have : ∀ (a b : List UInt8), a.map (fun x => (x.toNat : Int)) = b.map (fun x => (x.toNat : Int)) → a = b := by
  intro a
  induction a with
  | nil => intro b hb; cases b with
   | nil => rfl
   | cons x b => simp at hb
  | cons x a ih => intro b hb; cases b with
   | nil => simp at hb
   | cons y b =>
    simp only [List.map_cons, List.cons.injEq] at hb
    rw [ih b hb.2, show x = y from UInt8.toNat_inj.1 (by omega)]
 exact this _ _ h
end Go.Proofs.YtgbpfgdjnhbcgaaGreatDoor.Enc
end
section
namespace Go.Proofs.YtgbpfgdjnhbcgaaGreatDoor.Wire
structure InS where
 b : List Int
 e : Int
def Byt (l : List Int) : Prop := ∀ x ∈ l, 0 ≤ x ∧ x < 256
theorem Byt.drop {l : List Int} (h : Byt l) (n : Nat) : Byt (l.drop n) := fun x hx => h x (List.mem_of_mem_drop hx)
theorem Byt.take {l : List Int} (h : Byt l) (n : Nat) : Byt (l.take n) := fun x hx => h x (List.mem_of_mem_take hx)
def InS.fail (s : InS) (x : Int) : InS := if s.e = 0 then ⟨s.b, x⟩ else s
def InS.okT (s : InS) (n : Nat) : Prop := s.e = 0 ∧ n ≤ s.b.length
instance (s : InS) (n : Nat) : Decidable (s.okT n) := by unfold InS.okT; exact inferInstance
def InS.takeL (s : InS) (n : Nat) : List Int := if s.okT n then s.b.take n else []
def InS.takeS (s : InS) (n : Nat) : InS := if s.okT n then ⟨s.b.drop n, 0⟩ else s.fail 20
def rsL (i v : Nat) : List Int → Nat × Nat × Int
 | [] => if i < 10 then (0, 0, 20) else (0, 0, 12)
 | x :: r => if i < 10 then
  if i = 9 ∧ 1 < x then (0, 0, 12)
  else if x < 128 then (if x = 0 ∧ 0 < i then (0, 0, 10) else (v + x.toNat % 128 * 128 ^ i, i + 1, 0))
  else rsL (i + 1) (v + x.toNat % 128 * 128 ^ i) r
  else (0, 0, 12)
def rs (b : List Int) : Nat × Nat × Int := rsL 0 0 b
def InS.shortV (s : InS) (most : Nat) : Nat := if s.e ≠ 0 then 0 else if (rs s.b).2.2 ≠ 0 then 0 else if most < (rs s.b).1 then 0 else (rs s.b).1
def InS.shortS (s : InS) (most : Nat) : InS := if s.e ≠ 0 then s else if (rs s.b).2.2 ≠ 0 then ⟨s.b, (rs s.b).2.2⟩ else if most < (rs s.b).1 then ⟨s.b, 12⟩ else s.takeS (rs s.b).2.1
def bigN (l : List Int) : Nat := l.foldl (fun v x => v * 256 + x.toNat) 0
def InS.fixV (s : InS) : Nat := bigN (s.takeL 8)
def InS.textL (s : InS) (most : Nat) : List Int := (s.shortS most).takeL (s.shortV most)
def InS.textS (s : InS) (most : Nat) : InS := (s.shortS most).takeS (s.shortV most)
def byL (l : List Int) : ByteArray := ⟨(l.map fun x => UInt8.ofNat x.toNat).toArray⟩
def InS.textV (s : InS) (most : Nat) : ByteArray := byL (s.textL most)
def InS.left (s : InS) : Nat := if s.e ≠ 0 then 0 else s.b.length
def InS.fin (s : InS) : Int := if 0 < s.left then 21 else s.e
structure Goes (s s' : InS) : Prop where
 byt : Byt s.b → Byt s'.b
 len : s'.b.length ≤ s.b.length
 err : s.e ≠ 0 → s'.e ≠ 0
theorem Goes.refl (s : InS) : Goes s s := ⟨id, Nat.le_refl _, id⟩
theorem Goes.trans {a b c : InS} (h : Goes a b) (k : Goes b c) : Goes a c := ⟨fun q => k.byt (h.byt q), Nat.le_trans k.len h.len, fun q => k.err (h.err q)⟩
theorem Goes.ok {s s' : InS} (h : Goes s s') (h0 : s'.e = 0) : s.e = 0 := by
 by_cases q : s.e = 0
 · exact q
 · exact absurd h0 (h.err q)
theorem take_on {s : InS} {l r : List Int} (he : s.e = 0) (hb : s.b = l ++ r) : s.takeL l.length = l ∧ s.takeS l.length = ⟨r, 0⟩ := by
 have q : s.okT l.length := ⟨he, by rw [hb]; simp⟩
 unfold InS.takeL InS.takeS
 rw [if_pos q, if_pos q, hb]
 simp
theorem rs_ok : ∀ (b : List Int) (hb : Byt b) (i v V n : Nat), v < 128 ^ i → rsL i v b = (V, n, 0) → ∃ k r, V = v + k * 128 ^ i ∧ b = shortN k ++ r ∧ n = i + (shortN k).length ∧ V < 18446744073709551616 ∧ (0 < i → 0 < k) := by
 intro b
 induction b with
 | nil => intro hb i v V n hv h; unfold rsL at h; split at h <;> simp at h
 | cons x r ih =>
  intro hb i v V n hv h
  have hx := hb x (by simp)
  unfold rsL at h
  split at h
  rotate_left
  · simp at h
  rename_i hi
  split at h
  · simp at h
  rename_i h9
  split at h
  · rename_i h128
    split at h
    · simp at h
    rename_i h0
    simp only [Prod.mk.injEq, and_true] at h
    obtain ⟨hV, hn⟩ := h
    have e1 : x.toNat % 128 = x.toNat := Nat.mod_eq_of_lt (by omega)
    rw [e1] at hV
    refine ⟨x.toNat, r, hV.symm, ?_, ?_, ?_, fun q => ?_⟩
    · rw [short_lo (by omega), Int.toNat_of_nonneg hx.1]; rfl
    · rw [short_lo (by omega)]; simpa using hn.symm
    · have hcs : i = 0 ∨ i = 1 ∨ i = 2 ∨ i = 3 ∨ i = 4 ∨ i = 5 ∨ i = 6 ∨ i = 7 ∨ i = 8 ∨ i = 9 := by omega
      have hx9 : i = 9 → x.toNat ≤ 1 := fun q => by
       by_cases q1 : 1 < x
       · exact absurd ⟨q, q1⟩ h9
       · omega
      have hxn : x.toNat < 128 := by omega
      rcases hcs with rfl | rfl | rfl | rfl | rfl | rfl | rfl | rfl | rfl | rfl
      all_goals (simp only [Nat.reducePow] at hV hv; try have := hx9 rfl); omega
    · by_cases q1 : x = 0
      · exact absurd ⟨q1, q⟩ h0
      · omega
  · rename_i h128
    have hm : x.toNat % 128 < 128 := Nat.mod_lt _ (by decide)
    have hp : (128 : Nat) ^ (i + 1) = 128 * 128 ^ i := by rw [Nat.pow_succ, Nat.mul_comm]
    have hv2 : v + x.toNat % 128 * 128 ^ i < 128 ^ (i + 1) := by
     have h1 : x.toNat % 128 * 128 ^ i ≤ 127 * 128 ^ i := Nat.mul_le_mul_right _ (by omega)
     rw [hp]
     omega
    obtain ⟨k, s, e1, e2, e3, e4, e5⟩ := ih (fun y hy => hb y (by simp [hy])) (i + 1) (v + x.toNat % 128 * 128 ^ i) V n hv2 h
    have hk := e5 (by omega)
    have hx2 : x.toNat = x.toNat % 128 + 128 := by omega
    refine ⟨x.toNat % 128 + 128 * k, s, ?_, ?_, ?_, e4, fun _ => by omega⟩
    · rw [e1, hp, Nat.add_mul, Nat.add_assoc]
      congr 2
      rw [Nat.mul_comm 128 k, Nat.mul_assoc]
    · rw [short_hi (by omega), e2]
      have h1 : (x.toNat % 128 + 128 * k) % 128 = x.toNat % 128 := by omega
      have h2 : (x.toNat % 128 + 128 * k) / 128 = k := by omega
      rw [h1, h2, ← hx2, Int.toNat_of_nonneg hx.1]
      rfl
    · rw [short_hi (by omega), List.length_cons, e3]
      have h2 : (x.toNat % 128 + 128 * k) / 128 = k := by omega
      rw [h2]
      omega
theorem rs_on : ∀ (k : Nat) (i v : Nat) (r : List Int), v < 128 ^ i → v + k * 128 ^ i < 18446744073709551616 → (0 < i → 0 < k) → i < 10 → rsL i v (shortN k ++ r) = (v + k * 128 ^ i, i + (shortN k).length, 0) := by
 intro k
 induction k using Nat.strongRecOn with
 | _ k ih =>
  intro i v r hv hV hk hi
  by_cases q : k < 128
  · rw [short_lo q]
    show rsL i v ((k : Int) :: r) = _
    unfold rsL
    have h9 : i = 9 → k ≤ 1 := fun e => by
     subst e
     simp only [Nat.reducePow] at hV
     omega
    rw [if_pos hi, if_neg (fun q1 => by have := h9 q1.1; omega), if_pos (by omega), if_neg (fun q1 => by have := hk q1.2; omega)]
    simp only [Int.toNat_natCast, Nat.mod_eq_of_lt q]
    rfl
  · rw [short_hi (by omega)]
    show rsL i v (((k % 128 + 128 : Nat) : Int) :: (shortN (k / 128) ++ r)) = _
    have hp : (128 : Nat) ^ (i + 1) = 128 * 128 ^ i := by rw [Nat.pow_succ, Nat.mul_comm]
    have hpos : 0 < (128 : Nat) ^ i := Nat.pow_pos (by decide)
    have hi9 : i < 9 := by
     by_cases q9 : i = 9
     · subst q9
       simp only [Nat.reducePow] at hV
       omega
     · omega
    have hd : k = k % 128 + 128 * (k / 128) := by omega
    have hm : (k % 128 + 128) % 128 = k % 128 := by omega
    have hv2 : v + k % 128 * 128 ^ i < 128 ^ (i + 1) := by
     have h1 : k % 128 * 128 ^ i ≤ 127 * 128 ^ i := Nat.mul_le_mul_right _ (by omega)
     rw [hp]
     omega
    have hs : v + k * 128 ^ i = v + k % 128 * 128 ^ i + k / 128 * 128 ^ (i + 1) := by
     conv => lhs; rw [hd]
     rw [hp, Nat.add_mul, Nat.add_assoc]
     congr 2
     rw [Nat.mul_comm 128 (k / 128), Nat.mul_assoc]
    unfold rsL
    rw [if_pos hi, if_neg (by omega), if_neg (by omega)]
    simp only [Int.toNat_natCast, hm]
    rw [ih (k / 128) (by omega) (i + 1) _ r hv2 (by rw [← hs]; exact hV) (fun _ => by omega) (by omega), ← hs, List.length_cons]
    congr 2
    omega
theorem short_on {s : InS} {most k : Nat} {r : List Int} (he : s.e = 0) (hb : s.b = shortN k ++ r) (hm : k ≤ most) (hk : k < 18446744073709551616) : s.shortV most = k ∧ s.shortS most = ⟨r, 0⟩ := by
 have h1 : rs s.b = (k, (shortN k).length, 0) := by
  unfold rs
  rw [hb, rs_on k 0 0 r (by decide) (by omega) (by omega) (by decide)]
  simp
 unfold InS.shortV InS.shortS
 rw [h1]
 simp only
 rw [if_neg (by simpa using he), if_neg (by simp), if_neg (by omega), if_neg (by simpa using he), if_neg (by simp), if_neg (by omega)]
 exact ⟨rfl, (take_on he hb).2⟩
theorem big_fix {v : Nat} (hv : v < 18446744073709551616) : bigN (fixL v) = v := by
 unfold bigN fixL byteN
 simp only [List.foldl, Int.toNat_natCast, Nat.reducePow, Nat.div_one]
 omega
theorem fix_on {s : InS} {v : Nat} {r : List Int} (he : s.e = 0) (hb : s.b = fixL v ++ r) (hv : v < 18446744073709551616) : s.fixV = v ∧ s.takeS 8 = ⟨r, 0⟩ := by
 obtain ⟨h1, h2⟩ := take_on (l := fixL v) (r := r) he hb
 have h1 : s.takeL 8 = fixL v := h1
 unfold InS.fixV
 rw [h1]
 exact ⟨big_fix hv, h2⟩
theorem textL_byL {l : List Int} (hb : Byt l) : Wire.textL (byL l) = l ∧ (byL l).size = l.length := by
 constructor
 · unfold Wire.textL byL
   simp only [List.map_map]
   refine (List.map_congr_left (g := id) fun x hx => ?_).trans (List.map_id _)
   have := hb x hx
   simp only [Function.comp, id, UInt8.toNat_ofNat', Nat.reducePow]
   omega
 · unfold byL ByteArray.size
   simp
theorem byL_textL (s : ByteArray) : byL (Wire.textL s) = s := by
 refine Enc.textL_inj ?_
 refine (textL_byL fun x hx => ?_).1
 unfold Wire.textL at hx
 obtain ⟨y, _, rfl⟩ := List.mem_map.1 hx
 have := y.toNat_lt
 omega
theorem text_on {s : InS} {most : Nat} {t : ByteArray} {r : List Int} (he : s.e = 0) (hb : s.b = textB t ++ r) (hm : t.size ≤ most) (ht : t.size < 18446744073709551616) : s.textV most = t ∧ s.textS most = ⟨r, 0⟩ := by
 unfold textB at hb
 rw [List.append_assoc] at hb
 obtain ⟨h1, h2⟩ := short_on he hb hm ht
 obtain ⟨h3, h4⟩ := take_on (s := ⟨Wire.textL t ++ r, 0⟩) (l := Wire.textL t) (r := r) rfl rfl
 rw [textL_len] at h3 h4
 unfold InS.textV InS.textS InS.textL
 rw [h1, h2, h3, h4]
 exact ⟨byL_textL t, rfl⟩
end Go.Proofs.YtgbpfgdjnhbcgaaGreatDoor.Wire
end
