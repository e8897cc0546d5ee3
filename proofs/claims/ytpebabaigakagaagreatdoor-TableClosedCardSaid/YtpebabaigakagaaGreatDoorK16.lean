/- TabB, joined. -/
import Derived.Test.YtpebabaigakagaaGreatDoorK15
section
namespace Go.Proofs.YtpebabaigakagaaGreatDoor.Tab
open Go.RowKit
open Path (bl rightB overB aboveB)
open Lease (Ses Ans fresh Turned)
open Lock (S3 Ent)
open Cmd (Cm rightC)
set_option linter.unusedSimpArgs false
set_option linter.unusedVariables false
attribute [-go_sem] run_eql_struct run_neq_struct run_eqGuard_agg

section
variable {w : World} {t p m : Nat} {ss : List Ses} {b : Lock.Bk} (h : Sep [TabP t p m ss b] w) (kind num : Int) (foot : ByteArray) (req : Int) (path : ByteArray) (mode n time : Int) (h0 : 0 ≤ num) (h1 : num < Lock.big64) (hf : foot.size ≤ 1000) (hp : path.size ≤ 1000) (hok : LkOk b)
include h h0 h1 hf hp hok
theorem add_any : Calls Tryz.prog 104 #[.pointer (some ⟨t, 0, none⟩), .agg #[.int .i64 kind, .int .u64 num, .string foot, .int .u64 req, .string path, .int .i64 mode, .int .u64 n, .int .i64 time]] w fun r w' => r = .returned (if b.st.may path num foot mode = 0 then ansV 0 (b.st.addE path num foot mode).n (Lock.couldD b.es path mode) else ansV (b.st.may path num foot mode) 0 false) ∧ At [TabP t p m ss b] w [TabP t p m ss (b.with (b.st.add path num foot mode))] w' := by
  have hm : Tryz.prog.follows .mixedOrders = true := by kernel_rfl
  have hok' := Lib.hid hok
  clear hok
  have hco := fun (w1 : World) (q : Sep [Lock.BookP b] w1) => Lock.could_any (mode := mode) q (show path.size ≤ 1000000 by omega) (fun x hx => ⟨Nat.le_trans (hok'.out.path x hx) (by omega), hok'.out.stamp x hx⟩)
  have had := fun (w1 : World) (q : Sep [Lock.BookP b] w1) => Lock.add_any (mode := mode) q (show path.size ≤ 1000000 by omega) h0 h1 (show foot.size ≤ maxLen by unfold maxLen; omega) hok'.out.len hok'.out.ctr (fun x hx => ⟨Nat.le_trans (hok'.out.path x hx) (by omega), hok'.out.stamp x hx⟩)
  obtain ⟨cd, hcd⟩ : ∃ z, Lock.couldD b.es path mode = z := ⟨_, rfl⟩
  obtain ⟨me, hme⟩ : ∃ z, b.st.may path num foot mode = z := ⟨_, rfl⟩
  obtain ⟨ae, hae⟩ : ∃ z, b.st.addE path num foot mode = z := ⟨_, rfl⟩
  simp only [hcd] at hco
  simp only [hme, hae] at had
  rw [hcd, hme, hae]
  clear hcd hme hae
  obtain ⟨ep, en, ef, em, enn, est⟩ := ae
  simp only [Lock.Ent.val] at had
  have hco' := Lib.hid hco
  have had' := Lib.hid had
  clear hco had
  have hA := tab_begin h
  clear h
  (try simp only [uA] at hA); have hF := hA.facts; (try simp only [fA, and_true, true_and] at hF)
  go_enter Tryz.func104, Tryz.ntmps104
  go_upto_region 1 with (first | ((with_reducible refine gbx ?_); refine wX 29 (.agg #[.int .i64 kind, .int .u64 num, .string foot, .int .u64 req, .string path, .int .i64 mode, .int .u64 n, .int .i64 time]) [.int .i64 kind, .int .u64 num, .string foot, .int .u64 req, .string path, .int .i64 mode, .int .u64 n, .int .i64 time] hA ?_; clear hF hA; intro b3 w1 hA hb3; (try simp only [uA] at hA); have hF := hA.facts; (try simp only [fA, and_true, true_and] at hF)) | ((with_reducible refine gal ?_); refine wA 48 (.agg #[.int .i64 0, .int .u64 0, .bool false]) [.int .i64 0, .int .u64 0, .bool false] hA ?_; clear hF hA; intro b4 w1 hA hb4; (try simp only [uA] at hA); have hF := hA.facts; (try simp only [fA, and_true, true_and] at hF)) | ((with_reducible refine gst ?_); refine wS hA ?_; clear hF hA; intro w1 hA; (try simp only [uA] at hA); have hF := hA.facts; (try simp only [fA, and_true, true_and] at hF)) | ((with_reducible refine gbx ?_); refine wB hA ?_; clear hF hA; intro b1 w1 hA hb1; (try simp only [uA] at hA); have hF := hA.facts; (try simp only [fA, and_true, true_and] at hF)))
  try go_frame
  have hB := hA.drew
  clear hF hA; have hA := hB; clear hB
  refine wp_region_held (S := fun w' => BlockIs w' t [.pointer (some ⟨p, 0, none⟩), .pointer (some ⟨b.p, 0, none⟩)] 75 ∧ BlockIs w' b3 [.int .i64 kind, .int .u64 num, .string foot, .int .u64 req, .string path, .int .i64 mode, .int .u64 n, .int .i64 time] 29) hm ?_
  change wpAnyH _ _ _ _ _ 10 _ _ (World.drew _)
  generalize World.drew _ = wd at *
  have hS0 := (⟨hA.get (A := Part.cells t [.pointer (some ⟨p, 0, none⟩), .pointer (some ⟨b.p, 0, none⟩)] 75) sZ, hA.get (A := Part.cells b3 [.int .i64 kind, .int .u64 num, .string foot, .int .u64 req, .string path, .int .i64 mode, .int .u64 n, .int .i64 time] 29) sZ⟩ : (fun w' => BlockIs w' t [.pointer (some ⟨p, 0, none⟩), .pointer (some ⟨b.p, 0, none⟩)] 75 ∧ BlockIs w' b3 [.int .i64 kind, .int .u64 num, .string foot, .int .u64 req, .string path, .int .i64 mode, .int .u64 n, .int .i64 time] 29) wd)
  refine tP 0 8 (.pointer (some ⟨t, 0, none⟩)) (s := hS0) (h := ?_)
  try go_frame
  refine tP 1 9 (.pointer (some ⟨t, 0, none⟩)) (s := hS0) (h := ?_)
  try go_frame
  refine tP 2 10 (.pointer (some ⟨t, 1, none⟩)) (s := hS0) (h := ?_)
  try go_frame
  refine tZ 3 11 (.pointer (some ⟨b.p, 0, none⟩)) (r := (fun w' hS => run_load_one (ty := 43) (b := t) (j := 1) rfl (by exact rfl) hS.1 (by kernel_rfl) rfl)) (s := hS0) (h := ?_)
  try go_frame
  refine tP 4 12 (.pointer (some ⟨b3, 4, none⟩)) (s := hS0) (h := ?_)
  try go_frame
  refine tZ 5 13 (.string path) (r := (fun w' hS => run_load_one (ty := 9) (b := b3) (j := 4) rfl (by exact rfl) hS.2 (by kernel_rfl) rfl)) (s := hS0) (h := ?_)
  try go_frame
  refine tP 6 14 (.pointer (some ⟨b3, 5, none⟩)) (s := hS0) (h := ?_)
  try go_frame
  refine tZ 7 15 (.int .i64 mode) (r := (fun w' hS => run_load_one (ty := 3) (b := b3) (j := 5) rfl (by exact rfl) hS.2 (by kernel_rfl) rfl)) (s := hS0) (h := ?_)
  try go_frame
  refine wpAnyH_one (i := 8) (by kernel_rfl) ?_
  refine opCall_at (i := 8) (d := some 16) (R := fun u w' => u = .bool cd ∧ At [Lock.BookP b] _ [Lock.BookP b] w') rfl rfl (by kernel_rfl) (fn := 130) (args := #[.pointer (some ⟨b.p, 0, none⟩), .string path, .int .i64 mode]) (by simp [execOp, go_sem, Act.eval, Act.put]) ((hco'.out _ (hA.sep1 (A := Lock.BookP b) sZ)).mono fun e w' ⟨he, hT⟩ => ⟨_, he, rfl, hT⟩) ?_
  rintro u w3 ⟨rfl, hT⟩
  have hB := hA.call1 (A := Lock.BookP b) sZ hT
  clear hT
  simp only [List.cons_append, List.nil_append] at hB
  have hS0 := (⟨hB.get (A := Part.cells t [.pointer (some ⟨p, 0, none⟩), .pointer (some ⟨b.p, 0, none⟩)] 75) sZ, hB.get (A := Part.cells b3 [.int .i64 kind, .int .u64 num, .string foot, .int .u64 req, .string path, .int .i64 mode, .int .u64 n, .int .i64 time] 29) sZ⟩ : (fun w' => BlockIs w' t [.pointer (some ⟨p, 0, none⟩), .pointer (some ⟨b.p, 0, none⟩)] 75 ∧ BlockIs w' b3 [.int .i64 kind, .int .u64 num, .string foot, .int .u64 req, .string path, .int .i64 mode, .int .u64 n, .int .i64 time] 29) w3)
  clear hA; have hA := hB; clear hB
  refine ⟨hS0, ?_⟩
  try go_frame
  refine tP 9 5 (.bool cd) (s := hS0) (h := ?_)
  try go_frame
  refine wpAnyH_done (by kernel_rfl) ?_ _
  try go_frame
  clear hS0
  (try simp only [uA] at hA); have hF := hA.facts; (try simp only [fA, and_true, true_and] at hF)
  go_upto_region 2 with (first | ((with_reducible refine gst ?_); refine wS hA ?_; clear hF hA; intro w1 hA; (try simp only [uA] at hA); have hF := hA.facts; (try simp only [fA, and_true, true_and] at hF)) | ((with_reducible refine gbx ?_); refine wB hA ?_; clear hF hA; intro b1 w1 hA hb1; (try simp only [uA] at hA); have hF := hA.facts; (try simp only [fA, and_true, true_and] at hF)))
  try go_frame
  have hB := hA.drew
  clear hF hA; have hA := hB; clear hB
  refine wp_region_held (S := fun w' => BlockIs w' t [.pointer (some ⟨p, 0, none⟩), .pointer (some ⟨b.p, 0, none⟩)] 75 ∧ BlockIs w' b3 [.int .i64 kind, .int .u64 num, .string foot, .int .u64 req, .string path, .int .i64 mode, .int .u64 n, .int .i64 time] 29) hm ?_
  change wpAnyH _ _ _ _ _ 17 _ _ (World.drew _)
  generalize World.drew _ = wd at *
  have hS0 := (⟨hA.get (A := Part.cells t [.pointer (some ⟨p, 0, none⟩), .pointer (some ⟨b.p, 0, none⟩)] 75) sZ, hA.get (A := Part.cells b3 [.int .i64 kind, .int .u64 num, .string foot, .int .u64 req, .string path, .int .i64 mode, .int .u64 n, .int .i64 time] 29) sZ⟩ : (fun w' => BlockIs w' t [.pointer (some ⟨p, 0, none⟩), .pointer (some ⟨b.p, 0, none⟩)] 75 ∧ BlockIs w' b3 [.int .i64 kind, .int .u64 num, .string foot, .int .u64 req, .string path, .int .i64 mode, .int .u64 n, .int .i64 time] 29) wd)
  refine tP 0 18 (.pointer (some ⟨t, 0, none⟩)) (s := hS0) (h := ?_)
  try go_frame
  refine tP 1 19 (.pointer (some ⟨t, 0, none⟩)) (s := hS0) (h := ?_)
  try go_frame
  refine tP 2 20 (.pointer (some ⟨t, 1, none⟩)) (s := hS0) (h := ?_)
  try go_frame
  refine tZ 3 21 (.pointer (some ⟨b.p, 0, none⟩)) (r := (fun w' hS => run_load_one (ty := 43) (b := t) (j := 1) rfl (by exact rfl) hS.1 (by kernel_rfl) rfl)) (s := hS0) (h := ?_)
  try go_frame
  refine tP 4 22 (.pointer (some ⟨b3, 4, none⟩)) (s := hS0) (h := ?_)
  try go_frame
  refine tZ 5 23 (.string path) (r := (fun w' hS => run_load_one (ty := 9) (b := b3) (j := 4) rfl (by exact rfl) hS.2 (by kernel_rfl) rfl)) (s := hS0) (h := ?_)
  try go_frame
  refine tP 6 24 (.pointer (some ⟨b3, 1, none⟩)) (s := hS0) (h := ?_)
  try go_frame
  refine tZ 7 25 (.agg #[.int .u64 num, .string foot]) (r := (fun w' hS => run_load_row (ty := 25) (n := 2) (b := b3) (j := 1) rfl (by exact rfl) hS.2 (by kernel_rfl) (by kernel_rfl) rfl rfl)) (s := hS0) (h := ?_)
  try go_frame
  refine tP 8 26 (.pointer (some ⟨b3, 5, none⟩)) (s := hS0) (h := ?_)
  try go_frame
  refine tZ 9 27 (.int .i64 mode) (r := (fun w' hS => run_load_one (ty := 3) (b := b3) (j := 5) rfl (by exact rfl) hS.2 (by kernel_rfl) rfl)) (s := hS0) (h := ?_)
  try go_frame
  refine wpAnyH_two (i := 10) (j := 14) (by kernel_rfl) ?_ ?_
  · skip
    refine opCall_at (i := 10) (d := some 28) (R := fun u w' => u = .tuple #[.agg #[.string ep, .int .u64 en, .string ef, .int .i64 em, .int .u64 enn, .int .i64 est], .int .i64 me] ∧ At [Lock.BookP b] _ [Lock.BookP (b.with (b.st.add path num foot mode))] w') rfl rfl (by kernel_rfl) (fn := 131) (args := #[.pointer (some ⟨b.p, 0, none⟩), .string path, .agg #[.int .u64 num, .string foot], .int .i64 mode]) (by simp [execOp, go_sem, Act.eval, Act.put]) ((had'.out _ (hA.sep1 (A := Lock.BookP b) sZ)).mono fun e w' ⟨he, hT⟩ => ⟨_, he, rfl, hT⟩) ?_
    rintro u w3 ⟨rfl, hT⟩
    have hB := hA.call1 (A := Lock.BookP b) sZ hT
    clear hT
    simp only [List.cons_append, List.nil_append] at hB
    have hS0 := (⟨hB.get (A := Part.cells t [.pointer (some ⟨p, 0, none⟩), .pointer (some ⟨b.p, 0, none⟩)] 75) sZ, hB.get (A := Part.cells b3 [.int .i64 kind, .int .u64 num, .string foot, .int .u64 req, .string path, .int .i64 mode, .int .u64 n, .int .i64 time] 29) sZ⟩ : (fun w' => BlockIs w' t [.pointer (some ⟨p, 0, none⟩), .pointer (some ⟨b.p, 0, none⟩)] 75 ∧ BlockIs w' b3 [.int .i64 kind, .int .u64 num, .string foot, .int .u64 req, .string path, .int .i64 mode, .int .u64 n, .int .i64 time] 29) w3)
    clear hA; have hA := hB; clear hB
    refine ⟨hS0, ?_⟩
    try go_frame
    refine tP 11 17 (.tuple #[.agg #[.string ep, .int .u64 en, .string ef, .int .i64 em, .int .u64 enn, .int .i64 est], .int .i64 me]) (s := hS0) (h := ?_)
    try go_frame
    refine tP 12 29 (.agg #[.string ep, .int .u64 en, .string ef, .int .i64 em, .int .u64 enn, .int .i64 est]) (s := hS0) (h := ?_)
    try go_frame
    refine tP 13 30 (.int .i64 me) (s := hS0) (h := ?_)
    try go_frame
    refine wpAnyH_one (i := 14) (by kernel_rfl) ?_
    refine opAlloc_at (i := 14) (d := some 6) rfl rfl (by kernel_rfl) (E := 51) rfl (z := .agg #[.string .empty, .int .u64 0, .string .empty, .int .i64 0, .int .u64 0, .int .i64 0]) (vs := [.string .empty, .int .u64 0, .string .empty, .int .i64 0, .int .u64 0, .int .i64 0]) (by kernel_rfl) (by exact rfl) hA ?_
    intro b6 w3 hB
    have hS0 := (⟨hB.get (A := Part.cells t [.pointer (some ⟨p, 0, none⟩), .pointer (some ⟨b.p, 0, none⟩)] 75) sZ, hB.get (A := Part.cells b3 [.int .i64 kind, .int .u64 num, .string foot, .int .u64 req, .string path, .int .i64 mode, .int .u64 n, .int .i64 time] 29) sZ⟩ : (fun w' => BlockIs w' t [.pointer (some ⟨p, 0, none⟩), .pointer (some ⟨b.p, 0, none⟩)] 75 ∧ BlockIs w' b3 [.int .i64 kind, .int .u64 num, .string foot, .int .u64 req, .string path, .int .i64 mode, .int .u64 n, .int .i64 time] 29) w3)
    clear hA; have hA := hB; clear hB
    refine ⟨hS0, ?_⟩
    try go_frame
    refine wpAnyH_one (i := 15) (by kernel_rfl) ?_
    refine opStore_at (i := 15) (b := b6) (j := 0) (vs := [.string ep, .int .u64 en, .string ef, .int .i64 em, .int .u64 enn, .int .i64 est]) rfl rfl (by kernel_rfl) rfl (by exact rfl) (by exact rfl) rfl hA sZ (by kernel_rfl) rfl (by simp) ?_
    intro w3 hB
    simp only [uA] at hB
    have hS0 := (⟨hB.get (A := Part.cells t [.pointer (some ⟨p, 0, none⟩), .pointer (some ⟨b.p, 0, none⟩)] 75) sZ, hB.get (A := Part.cells b3 [.int .i64 kind, .int .u64 num, .string foot, .int .u64 req, .string path, .int .i64 mode, .int .u64 n, .int .i64 time] 29) sZ⟩ : (fun w' => BlockIs w' t [.pointer (some ⟨p, 0, none⟩), .pointer (some ⟨b.p, 0, none⟩)] 75 ∧ BlockIs w' b3 [.int .i64 kind, .int .u64 num, .string foot, .int .u64 req, .string path, .int .i64 mode, .int .u64 n, .int .i64 time] 29) w3)
    clear hA; have hA := hB; clear hB
    refine ⟨hS0, ?_⟩
    try go_frame
    refine tP 16 7 (.int .i64 me) (s := hS0) (h := ?_)
    try go_frame
    refine wpAnyH_done (by kernel_rfl) ?_ _
    try go_frame
    clear hS0
    (try simp only [uA] at hA); have hF := hA.facts; (try simp only [fA, and_true, true_and] at hF)
    by_cases hz : me = 0
    · subst hz
      go_wp2_with (first | ((with_reducible refine gst ?_); refine wS hA ?_; clear hF hA; intro w1 hA; (try simp only [uA] at hA); have hF := hA.facts; (try simp only [fA, and_true, true_and] at hF)) | ((with_reducible refine gbx ?_); refine wB hA ?_; clear hF hA; intro b1 w1 hA hb1; (try simp only [uA] at hA); have hF := hA.facts; (try simp only [fA, and_true, true_and] at hF)))
      exact bodyPost_ret (v := ansV 0 enn cd) (by simp [results, Tryz.results104, go_sem, hF]) rfl ⟨by first | rfl | rw [if_pos rfl], tab_close (b := b.with (b.st.add path num foot mode)) (hA.pick pZ)⟩
    · go_wp2_with (first | ((with_reducible refine gst ?_); refine wS hA ?_; clear hF hA; intro w1 hA; (try simp only [uA] at hA); have hF := hA.facts; (try simp only [fA, and_true, true_and] at hF)) | ((with_reducible refine gbx ?_); refine wB hA ?_; clear hF hA; intro b1 w1 hA hb1; (try simp only [uA] at hA); have hF := hA.facts; (try simp only [fA, and_true, true_and] at hF)))
      refine (refused_any _ _).mono ?_
      rintro e w1 ⟨rfl, hx⟩
      have hB := hA.ext hx
      clear hx
      clear hF hA; have hA := hB; clear hB
      try simp only [List.cons_append, List.nil_append] at hA
      (try simp only [uA] at hA); have hF := hA.facts; (try simp only [fA, and_true, true_and] at hF)
      go_wp2_with (first | ((with_reducible refine gst ?_); refine wS hA ?_; clear hF hA; intro w1 hA; (try simp only [uA] at hA); have hF := hA.facts; (try simp only [fA, and_true, true_and] at hF)) | ((with_reducible refine gbx ?_); refine wB hA ?_; clear hF hA; intro b1 w1 hA hb1; (try simp only [uA] at hA); have hF := hA.facts; (try simp only [fA, and_true, true_and] at hF)))
      exact bodyPost_ret (v := ansV me 0 false) (by simp [results, Tryz.results104, go_sem, hF]) rfl ⟨by first | rfl | rw [if_neg hz], tab_close (b := b.with (b.st.add path num foot mode)) (hA.pick pZ)⟩
  · skip
    refine opAlloc_at (i := 14) (d := some 6) rfl rfl (by kernel_rfl) (E := 51) rfl (z := .agg #[.string .empty, .int .u64 0, .string .empty, .int .i64 0, .int .u64 0, .int .i64 0]) (vs := [.string .empty, .int .u64 0, .string .empty, .int .i64 0, .int .u64 0, .int .i64 0]) (by kernel_rfl) (by exact rfl) hA ?_
    intro b6 w3 hB
    have hS0 := (⟨hB.get (A := Part.cells t [.pointer (some ⟨p, 0, none⟩), .pointer (some ⟨b.p, 0, none⟩)] 75) sZ, hB.get (A := Part.cells b3 [.int .i64 kind, .int .u64 num, .string foot, .int .u64 req, .string path, .int .i64 mode, .int .u64 n, .int .i64 time] 29) sZ⟩ : (fun w' => BlockIs w' t [.pointer (some ⟨p, 0, none⟩), .pointer (some ⟨b.p, 0, none⟩)] 75 ∧ BlockIs w' b3 [.int .i64 kind, .int .u64 num, .string foot, .int .u64 req, .string path, .int .i64 mode, .int .u64 n, .int .i64 time] 29) w3)
    clear hA; have hA := hB; clear hB
    refine ⟨hS0, ?_⟩
    try go_frame
    refine wpAnyH_one (i := 10) (by kernel_rfl) ?_
    refine opCall_at (i := 10) (d := some 28) (R := fun u w' => u = .tuple #[.agg #[.string ep, .int .u64 en, .string ef, .int .i64 em, .int .u64 enn, .int .i64 est], .int .i64 me] ∧ At [Lock.BookP b] _ [Lock.BookP (b.with (b.st.add path num foot mode))] w') rfl rfl (by kernel_rfl) (fn := 131) (args := #[.pointer (some ⟨b.p, 0, none⟩), .string path, .agg #[.int .u64 num, .string foot], .int .i64 mode]) (by simp [execOp, go_sem, Act.eval, Act.put]) ((had'.out _ (hA.sep1 (A := Lock.BookP b) sZ)).mono fun e w' ⟨he, hT⟩ => ⟨_, he, rfl, hT⟩) ?_
    rintro u w3 ⟨rfl, hT⟩
    have hB := hA.call1 (A := Lock.BookP b) sZ hT
    clear hT
    simp only [List.cons_append, List.nil_append] at hB
    have hS0 := (⟨hB.get (A := Part.cells t [.pointer (some ⟨p, 0, none⟩), .pointer (some ⟨b.p, 0, none⟩)] 75) sZ, hB.get (A := Part.cells b3 [.int .i64 kind, .int .u64 num, .string foot, .int .u64 req, .string path, .int .i64 mode, .int .u64 n, .int .i64 time] 29) sZ⟩ : (fun w' => BlockIs w' t [.pointer (some ⟨p, 0, none⟩), .pointer (some ⟨b.p, 0, none⟩)] 75 ∧ BlockIs w' b3 [.int .i64 kind, .int .u64 num, .string foot, .int .u64 req, .string path, .int .i64 mode, .int .u64 n, .int .i64 time] 29) w3)
    clear hA; have hA := hB; clear hB
    refine ⟨hS0, ?_⟩
    try go_frame
    refine tP 11 17 (.tuple #[.agg #[.string ep, .int .u64 en, .string ef, .int .i64 em, .int .u64 enn, .int .i64 est], .int .i64 me]) (s := hS0) (h := ?_)
    try go_frame
    refine tP 12 29 (.agg #[.string ep, .int .u64 en, .string ef, .int .i64 em, .int .u64 enn, .int .i64 est]) (s := hS0) (h := ?_)
    try go_frame
    refine tP 13 30 (.int .i64 me) (s := hS0) (h := ?_)
    try go_frame
    refine wpAnyH_one (i := 15) (by kernel_rfl) ?_
    refine opStore_at (i := 15) (b := b6) (j := 0) (vs := [.string ep, .int .u64 en, .string ef, .int .i64 em, .int .u64 enn, .int .i64 est]) rfl rfl (by kernel_rfl) rfl (by exact rfl) (by exact rfl) rfl hA sZ (by kernel_rfl) rfl (by simp) ?_
    intro w3 hB
    simp only [uA] at hB
    have hS0 := (⟨hB.get (A := Part.cells t [.pointer (some ⟨p, 0, none⟩), .pointer (some ⟨b.p, 0, none⟩)] 75) sZ, hB.get (A := Part.cells b3 [.int .i64 kind, .int .u64 num, .string foot, .int .u64 req, .string path, .int .i64 mode, .int .u64 n, .int .i64 time] 29) sZ⟩ : (fun w' => BlockIs w' t [.pointer (some ⟨p, 0, none⟩), .pointer (some ⟨b.p, 0, none⟩)] 75 ∧ BlockIs w' b3 [.int .i64 kind, .int .u64 num, .string foot, .int .u64 req, .string path, .int .i64 mode, .int .u64 n, .int .i64 time] 29) w3)
    clear hA; have hA := hB; clear hB
    refine ⟨hS0, ?_⟩
    try go_frame
    refine tP 16 7 (.int .i64 me) (s := hS0) (h := ?_)
    try go_frame
    refine wpAnyH_done (by kernel_rfl) ?_ _
    try go_frame
    clear hS0
    (try simp only [uA] at hA); have hF := hA.facts; (try simp only [fA, and_true, true_and] at hF)
    by_cases hz : me = 0
    · subst hz
      go_wp2_with (first | ((with_reducible refine gst ?_); refine wS hA ?_; clear hF hA; intro w1 hA; (try simp only [uA] at hA); have hF := hA.facts; (try simp only [fA, and_true, true_and] at hF)) | ((with_reducible refine gbx ?_); refine wB hA ?_; clear hF hA; intro b1 w1 hA hb1; (try simp only [uA] at hA); have hF := hA.facts; (try simp only [fA, and_true, true_and] at hF)))
      exact bodyPost_ret (v := ansV 0 enn cd) (by simp [results, Tryz.results104, go_sem, hF]) rfl ⟨by first | rfl | rw [if_pos rfl], tab_close (b := b.with (b.st.add path num foot mode)) (hA.pick pZ)⟩
    · go_wp2_with (first | ((with_reducible refine gst ?_); refine wS hA ?_; clear hF hA; intro w1 hA; (try simp only [uA] at hA); have hF := hA.facts; (try simp only [fA, and_true, true_and] at hF)) | ((with_reducible refine gbx ?_); refine wB hA ?_; clear hF hA; intro b1 w1 hA hb1; (try simp only [uA] at hA); have hF := hA.facts; (try simp only [fA, and_true, true_and] at hF)))
      refine (refused_any _ _).mono ?_
      rintro e w1 ⟨rfl, hx⟩
      have hB := hA.ext hx
      clear hx
      clear hF hA; have hA := hB; clear hB
      try simp only [List.cons_append, List.nil_append] at hA
      (try simp only [uA] at hA); have hF := hA.facts; (try simp only [fA, and_true, true_and] at hF)
      go_wp2_with (first | ((with_reducible refine gst ?_); refine wS hA ?_; clear hF hA; intro w1 hA; (try simp only [uA] at hA); have hF := hA.facts; (try simp only [fA, and_true, true_and] at hF)) | ((with_reducible refine gbx ?_); refine wB hA ?_; clear hF hA; intro b1 w1 hA hb1; (try simp only [uA] at hA); have hF := hA.facts; (try simp only [fA, and_true, true_and] at hF)))
      exact bodyPost_ret (v := ansV me 0 false) (by simp [results, Tryz.results104, go_sem, hF]) rfl ⟨by first | rfl | rw [if_neg hz], tab_close (b := b.with (b.st.add path num foot mode)) (hA.pick pZ)⟩
/-- what a try tells -/
def tryV (b : Lock.Bk) (num : Int) (foot path : ByteArray) (mode : Int) : Value := if Lock.couldD b.es path mode = true then (if b.st.may path num foot mode = 0 then ansV 0 (b.st.addE path num foot mode).n (Lock.couldD b.es path mode) else ansV (b.st.may path num foot mode) 0 false) else if b.st.may path num foot mode = 0 then ansV 51 0 false else ansV (b.st.may path num foot mode) 0 false
def tryB (b : Lock.Bk) (num : Int) (foot path : ByteArray) (mode : Int) : Lock.Bk := if Lock.couldD b.es path mode = true then b.with (b.st.add path num foot mode) else b
theorem try_any : Calls Tryz.prog 105 #[.pointer (some ⟨t, 0, none⟩), .agg #[.int .i64 kind, .int .u64 num, .string foot, .int .u64 req, .string path, .int .i64 mode, .int .u64 n, .int .i64 time]] w fun r w' => r = .returned (tryV b num foot path mode) ∧ At [TabP t p m ss b] w [TabP t p m ss (tryB b num foot path mode)] w' := by
  have hm : Tryz.prog.follows .mixedOrders = true := by kernel_rfl
  have hok' := Lib.hid hok
  clear hok
  have hco := fun (w1 : World) (q : Sep [Lock.BookP b] w1) => Lock.could_any (mode := mode) q (show path.size ≤ 1000000 by omega) (fun x hx => ⟨Nat.le_trans (hok'.out.path x hx) (by omega), hok'.out.stamp x hx⟩)
  have had := fun (w1 : World) (q : Sep [TabP t p m ss b] w1) => add_any q kind num foot req path mode n time h0 h1 hf hp hok'.out
  have hma := fun (w1 : World) (q : Sep [Lock.BookP b] w1) => Lock.may_any (mode := mode) q (show path.size ≤ 1000000 by omega) h0 h1 (show foot.size ≤ maxLen by unfold maxLen; omega) hok'.out.len hok'.out.ctr
  unfold tryV tryB
  obtain ⟨cd, hcd⟩ : ∃ z, Lock.couldD b.es path mode = z := ⟨_, rfl⟩
  obtain ⟨me, hme⟩ : ∃ z, b.st.may path num foot mode = z := ⟨_, rfl⟩
  obtain ⟨av, hav⟩ : ∃ z, (if b.st.may path num foot mode = 0 then ansV 0 (b.st.addE path num foot mode).n (Lock.couldD b.es path mode) else ansV (b.st.may path num foot mode) 0 false) = z := ⟨_, rfl⟩
  simp only [hcd] at hco
  rw [hav]
  simp only [hav] at had
  simp only [hme] at hma
  rw [hcd, hme]
  clear hcd hme
  have hav2 : ∃ x y z, av = ansV x y z := by rw [← hav]; split <;> exact ⟨_, _, _, rfl⟩
  obtain ⟨a1, a2, a3, rfl⟩ := hav2
  clear hav
  have hco' := Lib.hid hco
  have had' := Lib.hid had
  have hma' := Lib.hid hma
  clear hco had hma
  have hA := tab_begin h
  clear h
  (try simp only [uA] at hA); have hF := hA.facts; (try simp only [fA, and_true, true_and] at hF)
  go_enter Tryz.func105, Tryz.ntmps105
  go_upto_region 1 with (first | ((with_reducible refine gbx ?_); refine wX 29 (.agg #[.int .i64 kind, .int .u64 num, .string foot, .int .u64 req, .string path, .int .i64 mode, .int .u64 n, .int .i64 time]) [.int .i64 kind, .int .u64 num, .string foot, .int .u64 req, .string path, .int .i64 mode, .int .u64 n, .int .i64 time] hA ?_; clear hF hA; intro b3 w1 hA hb3; (try simp only [uA] at hA); have hF := hA.facts; (try simp only [fA, and_true, true_and] at hF)) | ((with_reducible refine gal ?_); refine wA 48 (.agg #[.int .i64 0, .int .u64 0, .bool false]) [.int .i64 0, .int .u64 0, .bool false] hA ?_; clear hF hA; intro b4 w1 hA hb4; (try simp only [uA] at hA); have hF := hA.facts; (try simp only [fA, and_true, true_and] at hF)) | ((with_reducible refine gst ?_); refine wS hA ?_; clear hF hA; intro w1 hA; (try simp only [uA] at hA); have hF := hA.facts; (try simp only [fA, and_true, true_and] at hF)) | ((with_reducible refine gbx ?_); refine wB hA ?_; clear hF hA; intro b1 w1 hA hb1; (try simp only [uA] at hA); have hF := hA.facts; (try simp only [fA, and_true, true_and] at hF)))
  try go_frame
  have hB := hA.drew
  clear hF hA; have hA := hB; clear hB
  refine wp_region_held (S := fun w' => BlockIs w' t [.pointer (some ⟨p, 0, none⟩), .pointer (some ⟨b.p, 0, none⟩)] 75 ∧ BlockIs w' b3 [.int .i64 kind, .int .u64 num, .string foot, .int .u64 req, .string path, .int .i64 mode, .int .u64 n, .int .i64 time] 29) hm ?_
  change wpAnyH _ _ _ _ _ 9 _ _ (World.drew _)
  generalize World.drew _ = wd at *
  have hS0 := (⟨hA.get (A := Part.cells t [.pointer (some ⟨p, 0, none⟩), .pointer (some ⟨b.p, 0, none⟩)] 75) sZ, hA.get (A := Part.cells b3 [.int .i64 kind, .int .u64 num, .string foot, .int .u64 req, .string path, .int .i64 mode, .int .u64 n, .int .i64 time] 29) sZ⟩ : (fun w' => BlockIs w' t [.pointer (some ⟨p, 0, none⟩), .pointer (some ⟨b.p, 0, none⟩)] 75 ∧ BlockIs w' b3 [.int .i64 kind, .int .u64 num, .string foot, .int .u64 req, .string path, .int .i64 mode, .int .u64 n, .int .i64 time] 29) wd)
  refine tP 0 6 (.pointer (some ⟨t, 0, none⟩)) (s := hS0) (h := ?_)
  try go_frame
  refine tP 1 7 (.pointer (some ⟨t, 0, none⟩)) (s := hS0) (h := ?_)
  try go_frame
  refine tP 2 8 (.pointer (some ⟨t, 1, none⟩)) (s := hS0) (h := ?_)
  try go_frame
  refine tZ 3 9 (.pointer (some ⟨b.p, 0, none⟩)) (r := (fun w' hS => run_load_one (ty := 43) (b := t) (j := 1) rfl (by exact rfl) hS.1 (by kernel_rfl) rfl)) (s := hS0) (h := ?_)
  try go_frame
  refine tP 4 10 (.pointer (some ⟨b3, 4, none⟩)) (s := hS0) (h := ?_)
  try go_frame
  refine tZ 5 11 (.string path) (r := (fun w' hS => run_load_one (ty := 9) (b := b3) (j := 4) rfl (by exact rfl) hS.2 (by kernel_rfl) rfl)) (s := hS0) (h := ?_)
  try go_frame
  refine tP 6 12 (.pointer (some ⟨b3, 5, none⟩)) (s := hS0) (h := ?_)
  try go_frame
  refine tZ 7 13 (.int .i64 mode) (r := (fun w' hS => run_load_one (ty := 3) (b := b3) (j := 5) rfl (by exact rfl) hS.2 (by kernel_rfl) rfl)) (s := hS0) (h := ?_)
  try go_frame
  refine wpAnyH_one (i := 8) (by kernel_rfl) ?_
  refine opCall_at (i := 8) (d := some 14) (R := fun u w' => u = .bool cd ∧ At [Lock.BookP b] _ [Lock.BookP b] w') rfl rfl (by kernel_rfl) (fn := 130) (args := #[.pointer (some ⟨b.p, 0, none⟩), .string path, .int .i64 mode]) (by simp [execOp, go_sem, Act.eval, Act.put]) ((hco'.out _ (hA.sep1 (A := Lock.BookP b) sZ)).mono fun e w' ⟨he, hT⟩ => ⟨_, he, rfl, hT⟩) ?_
  rintro u w3 ⟨rfl, hT⟩
  have hB := hA.call1 (A := Lock.BookP b) sZ hT
  clear hT
  simp only [List.cons_append, List.nil_append] at hB
  have hS0 := (⟨hB.get (A := Part.cells t [.pointer (some ⟨p, 0, none⟩), .pointer (some ⟨b.p, 0, none⟩)] 75) sZ, hB.get (A := Part.cells b3 [.int .i64 kind, .int .u64 num, .string foot, .int .u64 req, .string path, .int .i64 mode, .int .u64 n, .int .i64 time] 29) sZ⟩ : (fun w' => BlockIs w' t [.pointer (some ⟨p, 0, none⟩), .pointer (some ⟨b.p, 0, none⟩)] 75 ∧ BlockIs w' b3 [.int .i64 kind, .int .u64 num, .string foot, .int .u64 req, .string path, .int .i64 mode, .int .u64 n, .int .i64 time] 29) w3)
  clear hA; have hA := hB; clear hB
  refine ⟨hS0, ?_⟩
  try go_frame
  refine wpAnyH_done (by kernel_rfl) ?_ _
  try go_frame
  clear hS0
  (try simp only [uA] at hA); have hF := hA.facts; (try simp only [fA, and_true, true_and] at hF)
  cases cd
  · go_upto_region 3 with (first | ((with_reducible refine gst ?_); refine wS hA ?_; clear hF hA; intro w1 hA; (try simp only [uA] at hA); have hF := hA.facts; (try simp only [fA, and_true, true_and] at hF)) | ((with_reducible refine gbx ?_); refine wB hA ?_; clear hF hA; intro b1 w1 hA hb1; (try simp only [uA] at hA); have hF := hA.facts; (try simp only [fA, and_true, true_and] at hF)))
    try go_frame
    have hB := hA.drew
    clear hF hA; have hA := hB; clear hB
    refine wp_region_held (S := fun w' => BlockIs w' t [.pointer (some ⟨p, 0, none⟩), .pointer (some ⟨b.p, 0, none⟩)] 75 ∧ BlockIs w' b3 [.int .i64 kind, .int .u64 num, .string foot, .int .u64 req, .string path, .int .i64 mode, .int .u64 n, .int .i64 time] 29) hm ?_
    change wpAnyH _ _ _ _ _ 12 _ _ (World.drew _)
    generalize World.drew _ = wd at *
    have hS0 := (⟨hA.get (A := Part.cells t [.pointer (some ⟨p, 0, none⟩), .pointer (some ⟨b.p, 0, none⟩)] 75) sZ, hA.get (A := Part.cells b3 [.int .i64 kind, .int .u64 num, .string foot, .int .u64 req, .string path, .int .i64 mode, .int .u64 n, .int .i64 time] 29) sZ⟩ : (fun w' => BlockIs w' t [.pointer (some ⟨p, 0, none⟩), .pointer (some ⟨b.p, 0, none⟩)] 75 ∧ BlockIs w' b3 [.int .i64 kind, .int .u64 num, .string foot, .int .u64 req, .string path, .int .i64 mode, .int .u64 n, .int .i64 time] 29) wd)
    refine tP 0 18 (.pointer (some ⟨t, 0, none⟩)) (s := hS0) (h := ?_)
    try go_frame
    refine tP 1 19 (.pointer (some ⟨t, 0, none⟩)) (s := hS0) (h := ?_)
    try go_frame
    refine tP 2 20 (.pointer (some ⟨t, 1, none⟩)) (s := hS0) (h := ?_)
    try go_frame
    refine tZ 3 21 (.pointer (some ⟨b.p, 0, none⟩)) (r := (fun w' hS => run_load_one (ty := 43) (b := t) (j := 1) rfl (by exact rfl) hS.1 (by kernel_rfl) rfl)) (s := hS0) (h := ?_)
    try go_frame
    refine tP 4 22 (.pointer (some ⟨b3, 4, none⟩)) (s := hS0) (h := ?_)
    try go_frame
    refine tZ 5 23 (.string path) (r := (fun w' hS => run_load_one (ty := 9) (b := b3) (j := 4) rfl (by exact rfl) hS.2 (by kernel_rfl) rfl)) (s := hS0) (h := ?_)
    try go_frame
    refine tP 6 24 (.pointer (some ⟨b3, 1, none⟩)) (s := hS0) (h := ?_)
    try go_frame
    refine tZ 7 25 (.agg #[.int .u64 num, .string foot]) (r := (fun w' hS => run_load_row (ty := 25) (n := 2) (b := b3) (j := 1) rfl (by exact rfl) hS.2 (by kernel_rfl) (by kernel_rfl) rfl rfl)) (s := hS0) (h := ?_)
    try go_frame
    refine tP 8 26 (.pointer (some ⟨b3, 5, none⟩)) (s := hS0) (h := ?_)
    try go_frame
    refine tZ 9 27 (.int .i64 mode) (r := (fun w' hS => run_load_one (ty := 3) (b := b3) (j := 5) rfl (by exact rfl) hS.2 (by kernel_rfl) rfl)) (s := hS0) (h := ?_)
    try go_frame
    refine wpAnyH_one (i := 10) (by kernel_rfl) ?_
    refine opCall_at (i := 10) (d := some 28) (R := fun u w' => u = .int .i64 me ∧ At [Lock.BookP b] _ [Lock.BookP b] w') rfl rfl (by kernel_rfl) (fn := 132) (args := #[.pointer (some ⟨b.p, 0, none⟩), .string path, .agg #[.int .u64 num, .string foot], .int .i64 mode]) (by simp [execOp, go_sem, Act.eval, Act.put]) ((hma'.out _ (hA.sep1 (A := Lock.BookP b) sZ)).mono fun e w' ⟨he, hT⟩ => ⟨_, he, rfl, hT⟩) ?_
    rintro u w3 ⟨rfl, hT⟩
    have hB := hA.call1 (A := Lock.BookP b) sZ hT
    clear hT
    simp only [List.cons_append, List.nil_append] at hB
    have hS0 := (⟨hB.get (A := Part.cells t [.pointer (some ⟨p, 0, none⟩), .pointer (some ⟨b.p, 0, none⟩)] 75) sZ, hB.get (A := Part.cells b3 [.int .i64 kind, .int .u64 num, .string foot, .int .u64 req, .string path, .int .i64 mode, .int .u64 n, .int .i64 time] 29) sZ⟩ : (fun w' => BlockIs w' t [.pointer (some ⟨p, 0, none⟩), .pointer (some ⟨b.p, 0, none⟩)] 75 ∧ BlockIs w' b3 [.int .i64 kind, .int .u64 num, .string foot, .int .u64 req, .string path, .int .i64 mode, .int .u64 n, .int .i64 time] 29) w3)
    clear hA; have hA := hB; clear hB
    refine ⟨hS0, ?_⟩
    try go_frame
    refine tP 11 5 (.int .i64 me) (s := hS0) (h := ?_)
    try go_frame
    refine wpAnyH_done (by kernel_rfl) ?_ _
    try go_frame
    clear hS0
    (try simp only [uA] at hA); have hF := hA.facts; (try simp only [fA, and_true, true_and] at hF)
    by_cases hz : me = 0
    · subst hz
      go_wp2_with (first | ((with_reducible refine gst ?_); refine wS hA ?_; clear hF hA; intro w1 hA; (try simp only [uA] at hA); have hF := hA.facts; (try simp only [fA, and_true, true_and] at hF)) | ((with_reducible refine gbx ?_); refine wB hA ?_; clear hF hA; intro b1 w1 hA hb1; (try simp only [uA] at hA); have hF := hA.facts; (try simp only [fA, and_true, true_and] at hF)))
      refine (refused_any _ _).mono ?_
      rintro e w1 ⟨rfl, hx⟩
      have hB := hA.ext hx
      clear hx
      clear hF hA; have hA := hB; clear hB
      try simp only [List.cons_append, List.nil_append] at hA
      (try simp only [uA] at hA); have hF := hA.facts; (try simp only [fA, and_true, true_and] at hF)
      go_wp2_with (first | ((with_reducible refine gst ?_); refine wS hA ?_; clear hF hA; intro w1 hA; (try simp only [uA] at hA); have hF := hA.facts; (try simp only [fA, and_true, true_and] at hF)) | ((with_reducible refine gbx ?_); refine wB hA ?_; clear hF hA; intro b1 w1 hA hb1; (try simp only [uA] at hA); have hF := hA.facts; (try simp only [fA, and_true, true_and] at hF)))
      exact bodyPost_ret (v := ansV 51 0 false) (by simp [results, Tryz.results105, go_sem, hF]) rfl ⟨by first | rfl | (rw [if_neg (by decide), if_pos rfl]), tab_close (hA.pick pZ)⟩
    · go_wp2_with (first | ((with_reducible refine gst ?_); refine wS hA ?_; clear hF hA; intro w1 hA; (try simp only [uA] at hA); have hF := hA.facts; (try simp only [fA, and_true, true_and] at hF)) | ((with_reducible refine gbx ?_); refine wB hA ?_; clear hF hA; intro b1 w1 hA hb1; (try simp only [uA] at hA); have hF := hA.facts; (try simp only [fA, and_true, true_and] at hF)))
      refine (refused_any _ _).mono ?_
      rintro e w1 ⟨rfl, hx⟩
      have hB := hA.ext hx
      clear hx
      clear hF hA; have hA := hB; clear hB
      try simp only [List.cons_append, List.nil_append] at hA
      (try simp only [uA] at hA); have hF := hA.facts; (try simp only [fA, and_true, true_and] at hF)
      go_wp2_with (first | ((with_reducible refine gst ?_); refine wS hA ?_; clear hF hA; intro w1 hA; (try simp only [uA] at hA); have hF := hA.facts; (try simp only [fA, and_true, true_and] at hF)) | ((with_reducible refine gbx ?_); refine wB hA ?_; clear hF hA; intro b1 w1 hA hb1; (try simp only [uA] at hA); have hF := hA.facts; (try simp only [fA, and_true, true_and] at hF)))
      exact bodyPost_ret (v := ansV me 0 false) (by simp [results, Tryz.results105, go_sem, hF]) rfl ⟨by first | rfl | (rw [if_neg (by decide), if_neg hz]), tab_close (hA.pick pZ)⟩
  · have hB := tab_in hA sZ sZ sZ
    clear hF hA; have hA := hB; clear hB
    (try simp only [uA] at hA); have hF := hA.facts; (try simp only [fA, and_true, true_and] at hF)
    go_wp2_with (first | ((with_reducible refine gst ?_); refine wS hA ?_; clear hF hA; intro w1 hA; (try simp only [uA] at hA); have hF := hA.facts; (try simp only [fA, and_true, true_and] at hF)) | ((with_reducible refine gbx ?_); refine wB hA ?_; clear hF hA; intro b1 w1 hA hb1; (try simp only [uA] at hA); have hF := hA.facts; (try simp only [fA, and_true, true_and] at hF)))
    refine (had'.out _ (hA.sep1 (A := TabP t p m ss b) sZ)).mono ?_
    rintro e w1 ⟨rfl, hT⟩
    have hB := hA.call1 (A := TabP t p m ss b) sZ hT
    clear hT
    clear hF hA; have hA := hB; clear hB
    try simp only [List.cons_append, List.nil_append] at hA
    (try simp only [uA] at hA); have hF := hA.facts; (try simp only [fA, and_true, true_and] at hF)
    go_wp2_with (first | ((with_reducible refine gst ?_); refine wS hA ?_; clear hF hA; intro w1 hA; (try simp only [uA] at hA); have hF := hA.facts; (try simp only [fA, and_true, true_and] at hF)) | ((with_reducible refine gbx ?_); refine wB hA ?_; clear hF hA; intro b1 w1 hA hb1; (try simp only [uA] at hA); have hF := hA.facts; (try simp only [fA, and_true, true_and] at hF)))
    exact bodyPost_ret (v := ansV a1 a2 a3) (by simp [results, Tryz.results105, go_sem, hF]) rfl ⟨by first | rfl | rw [if_pos rfl], (hA.pick pZ)⟩
end
end Go.Proofs.YtpebabaigakagaaGreatDoor.Tab
end
