/- TabB, TabC, joined. -/
import Derived.Test.YtpebabaigakagaaGreatDoorP21
set_option linter.unusedSimpArgs false
set_option linter.unusedVariables false
set_option maxRecDepth 100000
set_option maxHeartbeats 16000000
section
namespace Go.Proofs.YtpebabaigakagaaGreatDoor.Tab
open Go.RowKit
open Path (bl rightB overB aboveB)
open Lease (Ses Ans fresh Turned)
open Lock (S3 Ent)
open Cmd (Cm rightC)
attribute [-go_sem] run_eql_struct run_neq_struct run_eqGuard_agg
section
variable {w : World} {t p m : Nat} {ss : List Ses} {b : Lock.Bk} (h : Sep [TabP t p m ss b] w) (kind num : Int) (foot : ByteArray) (req : Int) (path : ByteArray) (mode n time : Int) (h0 : 0 ≤ num) (h1 : num < Lock.big64) (hf : foot.size ≤ 1000) (hp : path.size ≤ 1000) (hok : LkOk b)
include h h0 h1 hf hp hok
theorem add_any : Calls Tryz.prog 104 #[.pointer (some ⟨t, 0, none⟩), .agg #[.int .i64 kind, .int .u64 num, .string foot, .int .u64 req, .string path, .int .i64 mode, .int .u64 n, .int .i64 time]] w fun r w' => r = .returned (if b.st.may path num foot mode = 0 then ansV 0 (b.st.addE path num foot mode).n (Lock.couldD b.es path mode) else ansV (b.st.may path num foot mode) 0 false) ∧ At [TabP t p m ss b] w [TabP t p m ss (b.with (b.st.add path num foot mode))] w' := by
 have hm : Tryz.prog.follows .mixedOrders = true := by kernel_rfl
 have hok' := Lib.hid hok
 clear hok
 have hco := fun (w1 : World) (q : Sep [Lock.BookP b] w1) => Lock.could_any (mode := mode) q (show path.size ≤ 1000000 by omega) (fun x hx => ⟨Nat.le_trans (hok'.out.path x hx) (by omega), hok'.out.stamp x hx⟩)
 have had := fun (w1 : World) (q : Sep [Lock.BookP b] w1) => Lock.add_any (mode := mode) q (show path.size ≤ 1000000 by omega) h0 h1 (show foot.size ≤ maxLen by unfold maxLen; omega) hok'.out.len hok'.out.ctr (fun x hx => ⟨Nat.le_trans (hok'.out.path x hx) (by omega), hok'.out.stamp x hx⟩)
 obtain ⟨cd, hcd⟩ : ∃ z, Lock.couldD b.es path mode = z := ⟨_, rfl⟩
 obtain ⟨me, hme⟩ : ∃ z, b.st.may path num foot mode = z := ⟨_, rfl⟩
 obtain ⟨ae, hae⟩ : ∃ z, b.st.addE path num foot mode = z := ⟨_, rfl⟩
 simp only [hcd] at hco
 simp only [hme, hae] at had
 rw [hcd, hme, hae]
 clear hcd hme hae
 obtain ⟨ep, en, ef, em, enn, est⟩ := ae
 simp only [Lock.Ent.val] at had
 have hco' := Lib.hid hco
 have had' := Lib.hid had
 clear hco had
 have hA := tab_begin h
 clear h
 have hF := hA.facts; (try simp only [uY] at hA hF)
 go_enter Tryz.func104, Tryz.ntmps104
 go_upto_region 1 with (first | ((with_reducible refine gbx ?_); refine wH 29 [.int .i64 kind, .int .u64 num, .string foot, .int .u64 req, .string path, .int .i64 mode, .int .u64 n, .int .i64 time] hA ?_; clear hF hA; intro b3 w1 hA hb3 hF; (try simp only [uY] at hA hF)) | ((with_reducible refine gal ?_); refine wG 48 [.int .i64 0, .int .u64 0, .bool false] hA ?_; clear hF hA; intro b4 w1 hA hb4 hF; (try simp only [uY] at hA hF)))
 try go_frame
 have hB := hA.drew
 clear hF hA; have hA := hB; clear hB
 refine wp_region_held (S := fun w' => BlockIs w' t (k2 p b.p) 75 ∧ BlockIs w' b3 (k8 kind num foot req path mode n time) 29) hm ?_
 change wpAnyH _ _ _ _ _ 10 _ _ (World.drew _)
 generalize World.drew _ = wd at *
 have hS0 := (⟨hA.get (A := Part.cells t (k2 p b.p) 75) sZ, hA.get (A := Part.cells b3 (k8 kind num foot req path mode n time) 29) sZ⟩ : (fun w' => BlockIs w' t (k2 p b.p) 75 ∧ BlockIs w' b3 (k8 kind num foot req path mode n time) 29) wd)
 refine tP 0 8 (.pointer (some ⟨t, 0, none⟩)) (s := hS0) (h := ?_)
 try go_frame
 refine tP 1 9 (.pointer (some ⟨t, 0, none⟩)) (s := hS0) (h := ?_)
 try go_frame
 refine tP 2 10 (.pointer (some ⟨t, 1, none⟩)) (s := hS0) (h := ?_)
 try go_frame
 refine tZ 3 11 (.pointer (some ⟨b.p, 0, none⟩)) (r := (fun w' hS => run_load_one (ty := 43) (b := t) (j := 1) rfl (by exact rfl) hS.1 (by kernel_rfl) rfl)) (s := hS0) (h := ?_)
 try go_frame
 refine tP 4 12 (.pointer (some ⟨b3, 4, none⟩)) (s := hS0) (h := ?_)
 try go_frame
 refine tZ 5 13 (.string path) (r := (fun w' hS => run_load_one (ty := 9) (b := b3) (j := 4) rfl (by exact rfl) hS.2 (by kernel_rfl) rfl)) (s := hS0) (h := ?_)
 try go_frame
 refine tP 6 14 (.pointer (some ⟨b3, 5, none⟩)) (s := hS0) (h := ?_)
 try go_frame
 refine tZ 7 15 (.int .i64 mode) (r := (fun w' hS => run_load_one (ty := 3) (b := b3) (j := 5) rfl (by exact rfl) hS.2 (by kernel_rfl) rfl)) (s := hS0) (h := ?_)
 try go_frame
 refine wpAnyH_one (i := 8) (by kernel_rfl) ?_
 refine cY 8 16 130 (fun u w' => u = .bool cd ∧ At [Lock.BookP b] _ [Lock.BookP b] w') ((hco'.out _ (hA.sep1 (A := Lock.BookP b) sZ)).mono fun e w' ⟨he, hT⟩ => ⟨_, he, rfl, hT⟩) ?_
 rintro u w3 ⟨rfl, hT⟩
 have hB := hA.call1 (A := Lock.BookP b) sZ hT
 clear hT
 simp only [uA] at hB
 refine andH ⟨hB.ci, hB.ci⟩ fun hS0 => ?_
 clear hA; have hA := hB; clear hB
 try go_frame
 refine tP 9 5 (.bool cd) (s := hS0) (h := ?_)
 try go_frame
 refine wpAnyH_done (by kernel_rfl) ?_ _
 try go_frame
 clear hS0
 have hF := hA.facts; (try simp only [uY] at hA hF)
 go_upto_region 2 with fail
 try go_frame
 have hB := hA.drew
 clear hF hA; have hA := hB; clear hB
 refine wp_region_held (S := fun w' => BlockIs w' t (k2 p b.p) 75 ∧ BlockIs w' b3 (k8 kind num foot req path mode n time) 29) hm ?_
 change wpAnyH _ _ _ _ _ 17 _ _ (World.drew _)
 generalize World.drew _ = wd at *
 have hS0 := (⟨hA.get (A := Part.cells t (k2 p b.p) 75) sZ, hA.get (A := Part.cells b3 (k8 kind num foot req path mode n time) 29) sZ⟩ : (fun w' => BlockIs w' t (k2 p b.p) 75 ∧ BlockIs w' b3 (k8 kind num foot req path mode n time) 29) wd)
 refine tP 0 18 (.pointer (some ⟨t, 0, none⟩)) (s := hS0) (h := ?_)
 try go_frame
 refine tP 1 19 (.pointer (some ⟨t, 0, none⟩)) (s := hS0) (h := ?_)
 try go_frame
 refine tP 2 20 (.pointer (some ⟨t, 1, none⟩)) (s := hS0) (h := ?_)
 try go_frame
 refine tZ 3 21 (.pointer (some ⟨b.p, 0, none⟩)) (r := (fun w' hS => run_load_one (ty := 43) (b := t) (j := 1) rfl (by exact rfl) hS.1 (by kernel_rfl) rfl)) (s := hS0) (h := ?_)
 try go_frame
 refine tP 4 22 (.pointer (some ⟨b3, 4, none⟩)) (s := hS0) (h := ?_)
 try go_frame
 refine tZ 5 23 (.string path) (r := (fun w' hS => run_load_one (ty := 9) (b := b3) (j := 4) rfl (by exact rfl) hS.2 (by kernel_rfl) rfl)) (s := hS0) (h := ?_)
 try go_frame
 refine tP 6 24 (.pointer (some ⟨b3, 1, none⟩)) (s := hS0) (h := ?_)
 try go_frame
 refine tZ 7 25 (.agg #[.int .u64 num, .string foot]) (r := (fun w' hS => run_load_row (ty := 25) (n := 2) (b := b3) (j := 1) rfl (by exact rfl) hS.2 (by kernel_rfl) (by kernel_rfl) rfl rfl)) (s := hS0) (h := ?_)
 try go_frame
 refine tP 8 26 (.pointer (some ⟨b3, 5, none⟩)) (s := hS0) (h := ?_)
 try go_frame
 refine tZ 9 27 (.int .i64 mode) (r := (fun w' hS => run_load_one (ty := 3) (b := b3) (j := 5) rfl (by exact rfl) hS.2 (by kernel_rfl) rfl)) (s := hS0) (h := ?_)
 try go_frame
 refine wpAnyH_two (i := 10) (j := 14) (by kernel_rfl) ?_ ?_
 · skip
   refine cY 10 28 131 (fun u w' => u = .tuple #[.agg #[.string ep, .int .u64 en, .string ef, .int .i64 em, .int .u64 enn, .int .i64 est], .int .i64 me] ∧ At [Lock.BookP b] _ [Lock.BookP (b.with (b.st.add path num foot mode))] w') ((had'.out _ (hA.sep1 (A := Lock.BookP b) sZ)).mono fun e w' ⟨he, hT⟩ => ⟨_, he, rfl, hT⟩) ?_
   rintro u w3 ⟨rfl, hT⟩
   have hB := hA.call1 (A := Lock.BookP b) sZ hT
   clear hT
   simp only [uA] at hB
   refine andH ⟨hB.ci, hB.ci⟩ fun hS0 => ?_
   clear hA; have hA := hB; clear hB
   try go_frame
   refine tP 11 17 (.tuple #[.agg #[.string ep, .int .u64 en, .string ef, .int .i64 em, .int .u64 enn, .int .i64 est], .int .i64 me]) (s := hS0) (h := ?_)
   try go_frame
   refine tP 12 29 (.agg #[.string ep, .int .u64 en, .string ef, .int .i64 em, .int .u64 enn, .int .i64 est]) (s := hS0) (h := ?_)
   try go_frame
   refine tP 13 30 (.int .i64 me) (s := hS0) (h := ?_)
   try go_frame
   refine wpAnyH_one (i := 14) (by kernel_rfl) ?_
   refine aZ 14 6 51 [.string .empty, .int .u64 0, .string .empty, .int .i64 0, .int .u64 0, .int .i64 0] hA ?_
   intro b6 w3 hB
   refine andH ⟨hB.ci, hB.ci⟩ fun hS0 => ?_
   clear hA; have hA := hB; clear hB
   try go_frame
   refine wpAnyH_one (i := 15) (by kernel_rfl) ?_
   refine stZ 15 b6 0 [.string ep, .int .u64 en, .string ef, .int .i64 em, .int .u64 enn, .int .i64 est] hA ?_
   intro w3 hB
   simp only [uA] at hB
   refine andH ⟨hB.ci, hB.ci⟩ fun hS0 => ?_
   clear hA; have hA := hB; clear hB
   try go_frame
   refine tP 16 7 (.int .i64 me) (s := hS0) (h := ?_)
   try go_frame
   refine wpAnyH_done (by kernel_rfl) ?_ _
   try go_frame
   clear hS0
   have hF := hA.facts; (try simp only [uY] at hA hF)
   by_cases hz : me = 0
   · subst hz
     go_wp2_with ((with_reducible refine gst ?_); refine wT hA ?_; clear hF hA; intro w1 hA hF; (try simp only [uY] at hA hF))
     exact bodyPost_ret (v := ansV 0 enn cd) (by simp [results, Tryz.results104, go_sem, hF]) rfl ⟨by first | rfl | rw [if_pos rfl], tab_close (b := b.with (b.st.add path num foot mode)) (hA.pick pZ)⟩
   · go_wp2_with fail
     refine (refused_any _ _).mono ?_
     rintro e w1 ⟨rfl, hx⟩
     have hB := hA.ext hx
     clear hx
     clear hF hA; have hA := hB; clear hB
     try simp only [uA] at hA
     have hF := hA.facts; (try simp only [uY] at hA hF)
     go_wp2_with ((with_reducible refine gst ?_); refine wT hA ?_; clear hF hA; intro w1 hA hF; (try simp only [uY] at hA hF))
     exact bodyPost_ret (v := ansV me 0 false) (by simp [results, Tryz.results104, go_sem, hF]) rfl ⟨by first | rfl | rw [if_neg hz], tab_close (b := b.with (b.st.add path num foot mode)) (hA.pick pZ)⟩
 · skip
   refine aZ 14 6 51 [.string .empty, .int .u64 0, .string .empty, .int .i64 0, .int .u64 0, .int .i64 0] hA ?_
   intro b6 w3 hB
   refine andH ⟨hB.ci, hB.ci⟩ fun hS0 => ?_
   clear hA; have hA := hB; clear hB
   try go_frame
   refine wpAnyH_one (i := 10) (by kernel_rfl) ?_
   refine cY 10 28 131 (fun u w' => u = .tuple #[.agg #[.string ep, .int .u64 en, .string ef, .int .i64 em, .int .u64 enn, .int .i64 est], .int .i64 me] ∧ At [Lock.BookP b] _ [Lock.BookP (b.with (b.st.add path num foot mode))] w') ((had'.out _ (hA.sep1 (A := Lock.BookP b) sZ)).mono fun e w' ⟨he, hT⟩ => ⟨_, he, rfl, hT⟩) ?_
   rintro u w3 ⟨rfl, hT⟩
   have hB := hA.call1 (A := Lock.BookP b) sZ hT
   clear hT
   simp only [uA] at hB
   refine andH ⟨hB.ci, hB.ci⟩ fun hS0 => ?_
   clear hA; have hA := hB; clear hB
   try go_frame
   refine tP 11 17 (.tuple #[.agg #[.string ep, .int .u64 en, .string ef, .int .i64 em, .int .u64 enn, .int .i64 est], .int .i64 me]) (s := hS0) (h := ?_)
   try go_frame
   refine tP 12 29 (.agg #[.string ep, .int .u64 en, .string ef, .int .i64 em, .int .u64 enn, .int .i64 est]) (s := hS0) (h := ?_)
   try go_frame
   refine tP 13 30 (.int .i64 me) (s := hS0) (h := ?_)
   try go_frame
   refine wpAnyH_one (i := 15) (by kernel_rfl) ?_
   refine stZ 15 b6 0 [.string ep, .int .u64 en, .string ef, .int .i64 em, .int .u64 enn, .int .i64 est] hA ?_
   intro w3 hB
   simp only [uA] at hB
   refine andH ⟨hB.ci, hB.ci⟩ fun hS0 => ?_
   clear hA; have hA := hB; clear hB
   try go_frame
   refine tP 16 7 (.int .i64 me) (s := hS0) (h := ?_)
   try go_frame
   refine wpAnyH_done (by kernel_rfl) ?_ _
   try go_frame
   clear hS0
   have hF := hA.facts; (try simp only [uY] at hA hF)
   by_cases hz : me = 0
   · subst hz
     go_wp2_with ((with_reducible refine gst ?_); refine wT hA ?_; clear hF hA; intro w1 hA hF; (try simp only [uY] at hA hF))
     exact bodyPost_ret (v := ansV 0 enn cd) (by simp [results, Tryz.results104, go_sem, hF]) rfl ⟨by first | rfl | rw [if_pos rfl], tab_close (b := b.with (b.st.add path num foot mode)) (hA.pick pZ)⟩
   · go_wp2_with fail
     refine (refused_any _ _).mono ?_
     rintro e w1 ⟨rfl, hx⟩
     have hB := hA.ext hx
     clear hx
     clear hF hA; have hA := hB; clear hB
     try simp only [uA] at hA
     have hF := hA.facts; (try simp only [uY] at hA hF)
     go_wp2_with ((with_reducible refine gst ?_); refine wT hA ?_; clear hF hA; intro w1 hA hF; (try simp only [uY] at hA hF))
     exact bodyPost_ret (v := ansV me 0 false) (by simp [results, Tryz.results104, go_sem, hF]) rfl ⟨by first | rfl | rw [if_neg hz], tab_close (b := b.with (b.st.add path num foot mode)) (hA.pick pZ)⟩
def tryV (b : Lock.Bk) (num : Int) (foot path : ByteArray) (mode : Int) : Value := if Lock.couldD b.es path mode = true then (if b.st.may path num foot mode = 0 then ansV 0 (b.st.addE path num foot mode).n (Lock.couldD b.es path mode) else ansV (b.st.may path num foot mode) 0 false) else if b.st.may path num foot mode = 0 then ansV 51 0 false else ansV (b.st.may path num foot mode) 0 false
def tryB (b : Lock.Bk) (num : Int) (foot path : ByteArray) (mode : Int) : Lock.Bk := if Lock.couldD b.es path mode = true then b.with (b.st.add path num foot mode) else b
theorem try_any : Calls Tryz.prog 105 #[.pointer (some ⟨t, 0, none⟩), .agg #[.int .i64 kind, .int .u64 num, .string foot, .int .u64 req, .string path, .int .i64 mode, .int .u64 n, .int .i64 time]] w fun r w' => r = .returned (tryV b num foot path mode) ∧ At [TabP t p m ss b] w [TabP t p m ss (tryB b num foot path mode)] w' := by
 have hm : Tryz.prog.follows .mixedOrders = true := by kernel_rfl
 have hok' := Lib.hid hok
 clear hok
 have hco := fun (w1 : World) (q : Sep [Lock.BookP b] w1) => Lock.could_any (mode := mode) q (show path.size ≤ 1000000 by omega) (fun x hx => ⟨Nat.le_trans (hok'.out.path x hx) (by omega), hok'.out.stamp x hx⟩)
 have had := fun (w1 : World) (q : Sep [TabP t p m ss b] w1) => add_any q kind num foot req path mode n time h0 h1 hf hp hok'.out
 have hma := fun (w1 : World) (q : Sep [Lock.BookP b] w1) => Lock.may_any (mode := mode) q (show path.size ≤ 1000000 by omega) h0 h1 (show foot.size ≤ maxLen by unfold maxLen; omega) hok'.out.len hok'.out.ctr
 unfold tryV tryB
 obtain ⟨cd, hcd⟩ : ∃ z, Lock.couldD b.es path mode = z := ⟨_, rfl⟩
 obtain ⟨me, hme⟩ : ∃ z, b.st.may path num foot mode = z := ⟨_, rfl⟩
 obtain ⟨av, hav⟩ : ∃ z, (if b.st.may path num foot mode = 0 then ansV 0 (b.st.addE path num foot mode).n (Lock.couldD b.es path mode) else ansV (b.st.may path num foot mode) 0 false) = z := ⟨_, rfl⟩
 simp only [hcd] at hco
 rw [hav]
 simp only [hav] at had
 simp only [hme] at hma
 rw [hcd, hme]
 clear hcd hme
 have hav2 : ∃ x y z, av = ansV x y z := by rw [← hav]; split <;> exact ⟨_, _, _, rfl⟩
 obtain ⟨a1, a2, a3, rfl⟩ := hav2
 clear hav
 have hco' := Lib.hid hco
 have had' := Lib.hid had
 have hma' := Lib.hid hma
 clear hco had hma
 have hA := tab_begin h
 clear h
 have hF := hA.facts; (try simp only [uY] at hA hF)
 go_enter Tryz.func105, Tryz.ntmps105
 go_upto_region 1 with (first | ((with_reducible refine gbx ?_); refine wH 29 [.int .i64 kind, .int .u64 num, .string foot, .int .u64 req, .string path, .int .i64 mode, .int .u64 n, .int .i64 time] hA ?_; clear hF hA; intro b3 w1 hA hb3 hF; (try simp only [uY] at hA hF)) | ((with_reducible refine gal ?_); refine wG 48 [.int .i64 0, .int .u64 0, .bool false] hA ?_; clear hF hA; intro b4 w1 hA hb4 hF; (try simp only [uY] at hA hF)))
 try go_frame
 have hB := hA.drew
 clear hF hA; have hA := hB; clear hB
 refine wp_region_held (S := fun w' => BlockIs w' t (k2 p b.p) 75 ∧ BlockIs w' b3 (k8 kind num foot req path mode n time) 29) hm ?_
 change wpAnyH _ _ _ _ _ 9 _ _ (World.drew _)
 generalize World.drew _ = wd at *
 have hS0 := (⟨hA.get (A := Part.cells t (k2 p b.p) 75) sZ, hA.get (A := Part.cells b3 (k8 kind num foot req path mode n time) 29) sZ⟩ : (fun w' => BlockIs w' t (k2 p b.p) 75 ∧ BlockIs w' b3 (k8 kind num foot req path mode n time) 29) wd)
 refine tP 0 6 (.pointer (some ⟨t, 0, none⟩)) (s := hS0) (h := ?_)
 try go_frame
 refine tP 1 7 (.pointer (some ⟨t, 0, none⟩)) (s := hS0) (h := ?_)
 try go_frame
 refine tP 2 8 (.pointer (some ⟨t, 1, none⟩)) (s := hS0) (h := ?_)
 try go_frame
 refine tZ 3 9 (.pointer (some ⟨b.p, 0, none⟩)) (r := (fun w' hS => run_load_one (ty := 43) (b := t) (j := 1) rfl (by exact rfl) hS.1 (by kernel_rfl) rfl)) (s := hS0) (h := ?_)
 try go_frame
 refine tP 4 10 (.pointer (some ⟨b3, 4, none⟩)) (s := hS0) (h := ?_)
 try go_frame
 refine tZ 5 11 (.string path) (r := (fun w' hS => run_load_one (ty := 9) (b := b3) (j := 4) rfl (by exact rfl) hS.2 (by kernel_rfl) rfl)) (s := hS0) (h := ?_)
 try go_frame
 refine tP 6 12 (.pointer (some ⟨b3, 5, none⟩)) (s := hS0) (h := ?_)
 try go_frame
 refine tZ 7 13 (.int .i64 mode) (r := (fun w' hS => run_load_one (ty := 3) (b := b3) (j := 5) rfl (by exact rfl) hS.2 (by kernel_rfl) rfl)) (s := hS0) (h := ?_)
 try go_frame
 refine wpAnyH_one (i := 8) (by kernel_rfl) ?_
 refine cY 8 14 130 (fun u w' => u = .bool cd ∧ At [Lock.BookP b] _ [Lock.BookP b] w') ((hco'.out _ (hA.sep1 (A := Lock.BookP b) sZ)).mono fun e w' ⟨he, hT⟩ => ⟨_, he, rfl, hT⟩) ?_
 rintro u w3 ⟨rfl, hT⟩
 have hB := hA.call1 (A := Lock.BookP b) sZ hT
 clear hT
 simp only [uA] at hB
 refine andH ⟨hB.ci, hB.ci⟩ fun hS0 => ?_
 clear hA; have hA := hB; clear hB
 try go_frame
 refine wpAnyH_done (by kernel_rfl) ?_ _
 try go_frame
 clear hS0
 have hF := hA.facts; (try simp only [uY] at hA hF)
 cases cd
 · go_upto_region 3 with fail
   try go_frame
   have hB := hA.drew
   clear hF hA; have hA := hB; clear hB
   refine wp_region_held (S := fun w' => BlockIs w' t (k2 p b.p) 75 ∧ BlockIs w' b3 (k8 kind num foot req path mode n time) 29) hm ?_
   change wpAnyH _ _ _ _ _ 12 _ _ (World.drew _)
   generalize World.drew _ = wd at *
   have hS0 := (⟨hA.get (A := Part.cells t (k2 p b.p) 75) sZ, hA.get (A := Part.cells b3 (k8 kind num foot req path mode n time) 29) sZ⟩ : (fun w' => BlockIs w' t (k2 p b.p) 75 ∧ BlockIs w' b3 (k8 kind num foot req path mode n time) 29) wd)
   refine tP 0 18 (.pointer (some ⟨t, 0, none⟩)) (s := hS0) (h := ?_)
   try go_frame
   refine tP 1 19 (.pointer (some ⟨t, 0, none⟩)) (s := hS0) (h := ?_)
   try go_frame
   refine tP 2 20 (.pointer (some ⟨t, 1, none⟩)) (s := hS0) (h := ?_)
   try go_frame
   refine tZ 3 21 (.pointer (some ⟨b.p, 0, none⟩)) (r := (fun w' hS => run_load_one (ty := 43) (b := t) (j := 1) rfl (by exact rfl) hS.1 (by kernel_rfl) rfl)) (s := hS0) (h := ?_)
   try go_frame
   refine tP 4 22 (.pointer (some ⟨b3, 4, none⟩)) (s := hS0) (h := ?_)
   try go_frame
   refine tZ 5 23 (.string path) (r := (fun w' hS => run_load_one (ty := 9) (b := b3) (j := 4) rfl (by exact rfl) hS.2 (by kernel_rfl) rfl)) (s := hS0) (h := ?_)
   try go_frame
   refine tP 6 24 (.pointer (some ⟨b3, 1, none⟩)) (s := hS0) (h := ?_)
   try go_frame
   refine tZ 7 25 (.agg #[.int .u64 num, .string foot]) (r := (fun w' hS => run_load_row (ty := 25) (n := 2) (b := b3) (j := 1) rfl (by exact rfl) hS.2 (by kernel_rfl) (by kernel_rfl) rfl rfl)) (s := hS0) (h := ?_)
   try go_frame
   refine tP 8 26 (.pointer (some ⟨b3, 5, none⟩)) (s := hS0) (h := ?_)
   try go_frame
   refine tZ 9 27 (.int .i64 mode) (r := (fun w' hS => run_load_one (ty := 3) (b := b3) (j := 5) rfl (by exact rfl) hS.2 (by kernel_rfl) rfl)) (s := hS0) (h := ?_)
   try go_frame
   refine wpAnyH_one (i := 10) (by kernel_rfl) ?_
   refine cY 10 28 132 (fun u w' => u = .int .i64 me ∧ At [Lock.BookP b] _ [Lock.BookP b] w') ((hma'.out _ (hA.sep1 (A := Lock.BookP b) sZ)).mono fun e w' ⟨he, hT⟩ => ⟨_, he, rfl, hT⟩) ?_
   rintro u w3 ⟨rfl, hT⟩
   have hB := hA.call1 (A := Lock.BookP b) sZ hT
   clear hT
   simp only [uA] at hB
   refine andH ⟨hB.ci, hB.ci⟩ fun hS0 => ?_
   clear hA; have hA := hB; clear hB
   try go_frame
   refine tP 11 5 (.int .i64 me) (s := hS0) (h := ?_)
   try go_frame
   refine wpAnyH_done (by kernel_rfl) ?_ _
   try go_frame
   clear hS0
   have hF := hA.facts; (try simp only [uY] at hA hF)
   by_cases hz : me = 0
   · subst hz
     go_wp2_with fail
     refine (refused_any _ _).mono ?_
     rintro e w1 ⟨rfl, hx⟩
     have hB := hA.ext hx
     clear hx
     clear hF hA; have hA := hB; clear hB
     try simp only [uA] at hA
     have hF := hA.facts; (try simp only [uY] at hA hF)
     go_wp2_with ((with_reducible refine gst ?_); refine wT hA ?_; clear hF hA; intro w1 hA hF; (try simp only [uY] at hA hF))
     exact bodyPost_ret (v := ansV 51 0 false) (by simp [results, Tryz.results105, go_sem, hF]) rfl ⟨by first | rfl | (rw [if_neg (by decide), if_pos rfl]), tab_close (hA.pick pZ)⟩
   · go_wp2_with fail
     refine (refused_any _ _).mono ?_
     rintro e w1 ⟨rfl, hx⟩
     have hB := hA.ext hx
     clear hx
     clear hF hA; have hA := hB; clear hB
     try simp only [uA] at hA
     have hF := hA.facts; (try simp only [uY] at hA hF)
     go_wp2_with ((with_reducible refine gst ?_); refine wT hA ?_; clear hF hA; intro w1 hA hF; (try simp only [uY] at hA hF))
     exact bodyPost_ret (v := ansV me 0 false) (by simp [results, Tryz.results105, go_sem, hF]) rfl ⟨by first | rfl | (rw [if_neg (by decide), if_neg hz]), tab_close (hA.pick pZ)⟩
 · have hB := tab_in hA sZ sZ sZ
   clear hF hA; have hA := hB; clear hB
   have hF := hA.facts; (try simp only [uY] at hA hF)
   go_wp2_with fail
   refine (had'.out _ (hA.sep1 (A := TabP t p m ss b) sZ)).mono ?_
   rintro e w1 ⟨rfl, hT⟩
   have hB := hA.call1 (A := TabP t p m ss b) sZ hT
   clear hT
   clear hF hA; have hA := hB; clear hB
   try simp only [uA] at hA
   have hF := hA.facts; (try simp only [uY] at hA hF)
   go_wp2_with ((with_reducible refine gst ?_); refine wT hA ?_; clear hF hA; intro w1 hA hF; (try simp only [uY] at hA hF))
   exact bodyPost_ret (v := ansV a1 a2 a3) (by simp [results, Tryz.results105, go_sem, hF]) rfl ⟨by first | rfl | rw [if_pos rfl], (hA.pick pZ)⟩
end
end Go.Proofs.YtpebabaigakagaaGreatDoor.Tab
end
section
namespace Go.Proofs.YtpebabaigakagaaGreatDoor.Tab
open Go.RowKit
open Path (bl rightB overB aboveB)
open Lease (Ses Ans fresh Turned)
open Lock (S3 Ent)
open Cmd (Cm rightC)
attribute [-go_sem] run_eql_struct run_neq_struct run_eqGuard_agg
def lkV (me : Int) (b : Lock.Bk) (kind num : Int) (foot path : ByteArray) (mode n : Int) : Value := if me ≠ 0 then ansV me 0 false else if kind = 4 then (if b.st.may path num foot mode = 0 then ansV 0 (b.st.addE path num foot mode).n (Lock.couldD b.es path mode) else ansV (b.st.may path num foot mode) 0 false) else if kind = 5 then tryV b num foot path mode else if kind = 6 then ansV (if (Lock.find b.es path num foot).isSome = true then 0 else 52) 0 false else ansV (if Lock.checkD b.es path n = true then 0 else 52) 0 false
def lkB (me : Int) (b : Lock.Bk) (kind num : Int) (foot path : ByteArray) (mode : Int) : Lock.Bk := if me ≠ 0 then b else if kind = 4 then b.with (b.st.add path num foot mode) else if kind = 5 then tryB b num foot path mode else if kind = 6 then b.with (b.st.remove path num foot) else b
def mayI (ss : List Ses) (num : Int) (foot path : ByteArray) : Int := if (Lease.look ss num foot).op = false then 50 else if aboveB (bl foot) (bl path) = false then 55 else 0
section
variable {w : World} {t p m : Nat} {ss : List Ses} {b : Lock.Bk} (h : Sep [TabP t p m ss b] w) (kind num : Int) (foot : ByteArray) (req : Int) (path : ByteArray) (mode n time : Int) (h0 : 0 ≤ num) (h1 : num < Lock.big64) (hf : foot.size ≤ 1000) (hp : path.size ≤ 1000) (hok : LkOk b)
include h h0 h1 hf hp hok
theorem lks_any : Calls Tryz.prog 68 #[.pointer (some ⟨t, 0, none⟩), .agg #[.int .i64 kind, .int .u64 num, .string foot, .int .u64 req, .string path, .int .i64 mode, .int .u64 n, .int .i64 time]] w fun r w' => r = .returned (lkV (mayI ss num foot path) b kind num foot path mode n) ∧ At [TabP t p m ss b] w [TabP t p m ss (lkB (mayI ss num foot path) b kind num foot path mode)] w' := by
 have hm : Tryz.prog.follows .mixedOrders = true := by kernel_rfl
 have hok' := Lib.hid hok
 clear hok
 have hmy := fun (w1 : World) (q : Sep [TabP t p m ss b] w1) => may_any q kind num foot req path mode n time h0 h1 hf hp
 have had := fun (w1 : World) (q : Sep [TabP t p m ss b] w1) => add_any q kind num foot req path mode n time h0 h1 hf hp hok'.out
 have htr := fun (w1 : World) (q : Sep [TabP t p m ss b] w1) => try_any q kind num foot req path mode n time h0 h1 hf hp hok'.out
 have hrm := fun (w1 : World) (q : Sep [Lock.BookP b] w1) => Lock.remove_any (p := path) (n := num) (f := foot) q (show path.size ≤ maxLen by unfold maxLen; omega) h0 h1 (show foot.size ≤ maxLen by unfold maxLen; omega)
 have hck := fun (w1 : World) (q : Sep [Lock.BookP b] w1) => Lock.check_any q path n (fun x hx => Nat.le_trans (hok'.out.path x hx) (by omega)) (hok'.out.chk path n).1 (hok'.out.chk path n).2
 obtain ⟨me, hme⟩ : ∃ z, mayI ss num foot path = z := ⟨_, rfl⟩
 have hme2 : (if (Lease.look ss num foot).op = false then (50 : Int) else if aboveB (bl foot) (bl path) = false then 55 else 0) = me := hme
 simp only [hme2] at hmy
 rw [hme]
 clear hme hme2
 have hmy' := Lib.hid hmy
 have had' := Lib.hid had
 have htr' := Lib.hid htr
 have hrm' := Lib.hid hrm
 have hck' := Lib.hid hck
 clear hmy had htr hrm hck
 have hA := At.start h
 clear h
 have hF := hA.facts; (try simp only [uY] at hA hF)
 go_enter Tryz.func68, Tryz.ntmps68
 go_wp2_with (first | ((with_reducible refine gbx ?_); refine wH 29 [.int .i64 kind, .int .u64 num, .string foot, .int .u64 req, .string path, .int .i64 mode, .int .u64 n, .int .i64 time] hA ?_; clear hF hA; intro b3 w1 hA hb3 hF; (try simp only [uY] at hA hF)) | ((with_reducible refine gal ?_); refine wG 48 [.int .i64 0, .int .u64 0, .bool false] hA ?_; clear hF hA; intro b4 w1 hA hb4 hF; (try simp only [uY] at hA hF)))
 refine (hmy'.out _ (hA.sep1 (A := TabP t p m ss b) sZ)).mono ?_
 rintro e w1 ⟨rfl, hT⟩
 have hB := hA.call1 (A := TabP t p m ss b) sZ hT
 clear hT
 clear hF hA; have hA := hB; clear hB
 try simp only [uA] at hA
 have hF := hA.facts; (try simp only [uY] at hA hF)
 by_cases hz : me = 0
 · subst hz
   by_cases k4 : kind = 4
   · subst k4
     obtain ⟨av, hav⟩ : ∃ z, (if b.st.may path num foot mode = 0 then ansV 0 (b.st.addE path num foot mode).n (Lock.couldD b.es path mode) else ansV (b.st.may path num foot mode) 0 false) = z := ⟨_, rfl⟩
     have hav2 : ∃ x y z, av = ansV x y z := by rw [← hav]; split <;> exact ⟨_, _, _, rfl⟩
     obtain ⟨a1, a2, a3, rfl⟩ := hav2
     have had2 := had'.out
     simp only [hav] at had2
     have had3 := Lib.hid had2
     have hav' := Lib.hid hav
     clear had2 hav had'
     go_wp2_with fail
     refine (had3.out _ (hA.sep1 (A := TabP t p m ss b) sZ)).mono ?_
     rintro e w1 ⟨rfl, hT⟩
     have hB := hA.call1 (A := TabP t p m ss b) sZ hT
     clear hT
     clear hF hA; have hA := hB; clear hB
     try simp only [uA] at hA
     have hF := hA.facts; (try simp only [uY] at hA hF)
     go_wp2_with ((with_reducible refine gst ?_); refine wT hA ?_; clear hF hA; intro w1 hA hF; (try simp only [uY] at hA hF))
     exact bodyPost_ret (v := ansV a1 a2 a3) (by simp [results, Tryz.results68, go_sem, hF]) rfl ⟨by first | rfl | (rw [lkV, if_neg (by decide), if_pos rfl, hav'.out]), by rw [lkB, if_neg (by decide), if_pos rfl]; exact hA.pick pZ⟩
   by_cases k5 : kind = 5
   · subst k5
     obtain ⟨av, hav⟩ : ∃ z, tryV b num foot path mode = z := ⟨_, rfl⟩
     have hav2 : ∃ x y z, av = ansV x y z := by rw [← hav]; unfold tryV; split; (split <;> exact ⟨_, _, _, rfl⟩); (split <;> exact ⟨_, _, _, rfl⟩)
     obtain ⟨a1, a2, a3, rfl⟩ := hav2
     have had2 := htr'.out
     simp only [hav] at had2
     have had3 := Lib.hid had2
     have hav' := Lib.hid hav
     clear had2 hav htr'
     go_wp2_with fail
     refine (had3.out _ (hA.sep1 (A := TabP t p m ss b) sZ)).mono ?_
     rintro e w1 ⟨rfl, hT⟩
     have hB := hA.call1 (A := TabP t p m ss b) sZ hT
     clear hT
     clear hF hA; have hA := hB; clear hB
     try simp only [uA] at hA
     have hF := hA.facts; (try simp only [uY] at hA hF)
     go_wp2_with ((with_reducible refine gst ?_); refine wT hA ?_; clear hF hA; intro w1 hA hF; (try simp only [uY] at hA hF))
     exact bodyPost_ret (v := ansV a1 a2 a3) (by simp [results, Tryz.results68, go_sem, hF]) rfl ⟨by first | rfl | (rw [lkV, if_neg (by decide), if_neg (by decide), if_pos rfl, hav'.out]), by rw [lkB, if_neg (by decide), if_neg (by decide), if_pos rfl]; exact hA.pick pZ⟩
   by_cases k6 : kind = 6
   · subst k6
     obtain ⟨rc, hrc⟩ : ∃ z, (if (Lock.find b.es path num foot).isSome = true then (0 : Int) else 52) = z := ⟨_, rfl⟩
     have hrm2 := hrm'.out
     simp only [hrc] at hrm2
     have hrm3 := Lib.hid hrm2
     have hrc' := Lib.hid hrc
     clear hrm2 hrm' hrc
     have hB := tab_out hA sZ
     clear hF hA; have hA := hB; clear hB
     have hF := hA.facts; (try simp only [uY] at hA hF)
     go_upto_region 10 with fail
     try go_frame
     have hB := hA.drew
     clear hF hA; have hA := hB; clear hB
     refine wp_region_held (S := fun w' => BlockIs w' t (k2 p b.p) 75 ∧ BlockIs w' b3 (k8 6 num foot req path mode n time) 29) hm ?_
     change wpAnyH _ _ _ _ _ 11 _ _ (World.drew _)
     generalize World.drew _ = wd at *
     have hS0 := (⟨hA.get (A := Part.cells t (k2 p b.p) 75) sZ, hA.get (A := Part.cells b3 (k8 6 num foot req path mode n time) 29) sZ⟩ : (fun w' => BlockIs w' t (k2 p b.p) 75 ∧ BlockIs w' b3 (k8 6 num foot req path mode n time) 29) wd)
     refine tP 0 27 (.pointer (some ⟨t, 0, none⟩)) (s := hS0) (h := ?_)
     try go_frame
     refine tP 1 28 (.pointer (some ⟨t, 0, none⟩)) (s := hS0) (h := ?_)
     try go_frame
     refine tP 2 29 (.pointer (some ⟨t, 1, none⟩)) (s := hS0) (h := ?_)
     try go_frame
     refine tZ 3 30 (.pointer (some ⟨b.p, 0, none⟩)) (r := (fun w' hS => run_load_one (ty := 43) (b := t) (j := 1) rfl (by exact rfl) hS.1 (by kernel_rfl) rfl)) (s := hS0) (h := ?_)
     try go_frame
     refine tP 4 31 (.pointer (some ⟨b3, 4, none⟩)) (s := hS0) (h := ?_)
     try go_frame
     refine tZ 5 32 (.string path) (r := (fun w' hS => run_load_one (ty := 9) (b := b3) (j := 4) rfl (by exact rfl) hS.2 (by kernel_rfl) rfl)) (s := hS0) (h := ?_)
     try go_frame
     refine tP 6 33 (.pointer (some ⟨b3, 1, none⟩)) (s := hS0) (h := ?_)
     try go_frame
     refine tZ 7 34 (.agg #[.int .u64 num, .string foot]) (r := (fun w' hS => run_load_row (ty := 25) (n := 2) (b := b3) (j := 1) rfl (by exact rfl) hS.2 (by kernel_rfl) (by kernel_rfl) rfl rfl)) (s := hS0) (h := ?_)
     try go_frame
     refine wpAnyH_one (i := 8) (by kernel_rfl) ?_
     refine cY 8 35 106 (fun u w' => u = .int .i64 rc ∧ At [Lock.BookP b] _ [Lock.BookP (b.with (b.st.remove path num foot))] w') ((hrm3.out _ (hA.sep1 (A := Lock.BookP b) sZ)).mono fun e w' ⟨he, hT⟩ => ⟨_, he, rfl, hT⟩) ?_
     rintro u w3 ⟨rfl, hT⟩
     have hB := hA.call1 (A := Lock.BookP b) sZ hT
     clear hT
     simp only [uA] at hB
     refine andH ⟨hB.ci, hB.ci⟩ fun hS0 => ?_
     clear hA; have hA := hB; clear hB
     try go_frame
     refine wpAnyH_one (i := 9) (by kernel_rfl) ?_
     refine cY 9 36 39 (fun u w' => u = ansV rc 0 false ∧ Ext _ w') ((refused_any _ _).mono fun e w' ⟨he, hx⟩ => ⟨_, he, rfl, hx⟩) ?_
     rintro u w3 ⟨rfl, hx⟩
     have hB := hA.ext hx
     clear hx
     refine andH ⟨hB.ci, hB.ci⟩ fun hS0 => ?_
     clear hA; have hA := hB; clear hB
     try go_frame
     refine wpAnyH_one (i := 10) (by kernel_rfl) ?_
     refine stZ 10 b4 0 [.int .i64 rc, .int .u64 0, .bool false] hA ?_
     intro w3 hB
     simp only [uA] at hB
     refine andH ⟨hB.ci, hB.ci⟩ fun hS0 => ?_
     clear hA; have hA := hB; clear hB
     try go_frame
     refine wpAnyH_done (by kernel_rfl) ?_ _
     try go_frame
     clear hS0
     have hF := hA.facts; (try simp only [uY] at hA hF)
     go_wp2_with fail
     exact bodyPost_ret (v := ansV rc 0 false) (by simp [results, Tryz.results68, go_sem, hF]) rfl ⟨by rw [lkV, if_neg (by decide), if_neg (by decide), if_neg (by decide), if_pos rfl, hrc'.out], by rw [lkB, if_neg (by decide), if_neg (by decide), if_neg (by decide), if_pos rfl]; exact (tab_in (b := b.with (b.st.remove path num foot)) hA sZ sZ sZ).pick pZ⟩
   · obtain ⟨cb, hcb⟩ : ∃ z, Lock.checkD b.es path n = z := ⟨_, rfl⟩
     have hck2 := hck'.out
     simp only [hcb] at hck2
     have hck3 := Lib.hid hck2
     have hcb' := Lib.hid hcb
     clear hck2 hck' hcb
     have hB := tab_out hA sZ
     clear hF hA; have hA := hB; clear hB
     have hF := hA.facts; (try simp only [uY] at hA hF)
     go_upto_region 11 with fail
     try go_frame
     have hB := hA.drew
     clear hF hA; have hA := hB; clear hB
     refine wp_region_held (S := fun w' => BlockIs w' t (k2 p b.p) 75 ∧ BlockIs w' b3 (k8 kind num foot req path mode n time) 29) hm ?_
     change wpAnyH _ _ _ _ _ 10 _ _ (World.drew _)
     generalize World.drew _ = wd at *
     have hS0 := (⟨hA.get (A := Part.cells t (k2 p b.p) 75) sZ, hA.get (A := Part.cells b3 (k8 kind num foot req path mode n time) 29) sZ⟩ : (fun w' => BlockIs w' t (k2 p b.p) 75 ∧ BlockIs w' b3 (k8 kind num foot req path mode n time) 29) wd)
     refine tP 0 37 (.pointer (some ⟨t, 0, none⟩)) (s := hS0) (h := ?_)
     try go_frame
     refine tP 1 38 (.pointer (some ⟨t, 0, none⟩)) (s := hS0) (h := ?_)
     try go_frame
     refine tP 2 39 (.pointer (some ⟨t, 1, none⟩)) (s := hS0) (h := ?_)
     try go_frame
     refine tZ 3 40 (.pointer (some ⟨b.p, 0, none⟩)) (r := (fun w' hS => run_load_one (ty := 43) (b := t) (j := 1) rfl (by exact rfl) hS.1 (by kernel_rfl) rfl)) (s := hS0) (h := ?_)
     try go_frame
     refine tP 4 41 (.pointer (some ⟨b3, 4, none⟩)) (s := hS0) (h := ?_)
     try go_frame
     refine tZ 5 42 (.string path) (r := (fun w' hS => run_load_one (ty := 9) (b := b3) (j := 4) rfl (by exact rfl) hS.2 (by kernel_rfl) rfl)) (s := hS0) (h := ?_)
     try go_frame
     refine tP 6 43 (.pointer (some ⟨b3, 6, none⟩)) (s := hS0) (h := ?_)
     try go_frame
     refine tZ 7 44 (.int .u64 n) (r := (fun w' hS => run_load_one (ty := 22) (b := b3) (j := 6) rfl (by exact rfl) hS.2 (by kernel_rfl) rfl)) (s := hS0) (h := ?_)
     try go_frame
     refine wpAnyH_one (i := 8) (by kernel_rfl) ?_
     refine cY 8 45 107 (fun u w' => u = .bool cb ∧ At [Lock.BookP b] _ [Lock.BookP b] w') ((hck3.out _ (hA.sep1 (A := Lock.BookP b) sZ)).mono fun e w' ⟨he, hT⟩ => ⟨_, he, rfl, hT⟩) ?_
     rintro u w3 ⟨rfl, hT⟩
     have hB := hA.call1 (A := Lock.BookP b) sZ hT
     clear hT
     simp only [uA] at hB
     refine andH ⟨hB.ci, hB.ci⟩ fun hS0 => ?_
     clear hA; have hA := hB; clear hB
     try go_frame
     refine tP 9 46 (.bool (!cb)) (s := hS0) (h := ?_)
     try go_frame
     refine wpAnyH_done (by kernel_rfl) ?_ _
     try go_frame
     clear hS0
     have hF := hA.facts; (try simp only [uY] at hA hF)
     cases cb
     · go_wp2_with fail
       refine (refused_any _ _).mono ?_
       rintro e w1 ⟨rfl, hx⟩
       have hB := hA.ext hx
       clear hx
       clear hF hA; have hA := hB; clear hB
       try simp only [uA] at hA
       have hF := hA.facts; (try simp only [uY] at hA hF)
       go_wp2_with ((with_reducible refine gst ?_); refine wT hA ?_; clear hF hA; intro w1 hA hF; (try simp only [uY] at hA hF))
       exact bodyPost_ret (v := ansV 52 0 false) (by simp [results, Tryz.results68, go_sem, hF]) rfl ⟨by rw [lkV, if_neg (by decide), if_neg k4, if_neg k5, if_neg k6, hcb'.out]; rfl, by rw [lkB, if_neg (by decide), if_neg k4, if_neg k5, if_neg k6]; exact (tab_in hA sZ sZ sZ).pick pZ⟩
     · go_wp2_with fail
       refine (refused_any _ _).mono ?_
       rintro e w1 ⟨rfl, hx⟩
       have hB := hA.ext hx
       clear hx
       clear hF hA; have hA := hB; clear hB
       try simp only [uA] at hA
       have hF := hA.facts; (try simp only [uY] at hA hF)
       go_wp2_with ((with_reducible refine gst ?_); refine wT hA ?_; clear hF hA; intro w1 hA hF; (try simp only [uY] at hA hF))
       exact bodyPost_ret (v := ansV 0 0 false) (by simp [results, Tryz.results68, go_sem, hF]) rfl ⟨by rw [lkV, if_neg (by decide), if_neg k4, if_neg k5, if_neg k6, hcb'.out]; rfl, by rw [lkB, if_neg (by decide), if_neg k4, if_neg k5, if_neg k6]; exact (tab_in hA sZ sZ sZ).pick pZ⟩
 · go_wp2_with fail
   refine (refused_any _ _).mono ?_
   rintro e w1 ⟨rfl, hx⟩
   have hB := hA.ext hx
   clear hx
   clear hF hA; have hA := hB; clear hB
   try simp only [uA] at hA
   have hF := hA.facts; (try simp only [uY] at hA hF)
   go_wp2_with ((with_reducible refine gst ?_); refine wT hA ?_; clear hF hA; intro w1 hA hF; (try simp only [uY] at hA hF))
   exact bodyPost_ret (v := ansV me 0 false) (by simp [results, Tryz.results68, go_sem, hF]) rfl ⟨by rw [lkV, if_pos hz], by rw [lkB, if_pos hz]; exact hA.pick pZ⟩
end
end Go.Proofs.YtpebabaigakagaaGreatDoor.Tab
end
