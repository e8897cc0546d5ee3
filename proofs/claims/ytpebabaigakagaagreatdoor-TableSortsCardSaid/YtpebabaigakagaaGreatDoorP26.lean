/- TabF, RegH, joined. -/
import Derived.Test.YtpebabaigakagaaGreatDoorP23
import Derived.Test.YtpebabaigakagaaGreatDoorP25
import Derived.Test.YtpebabaigakagaaGreatDoorP2
import Derived.Test.YtpebabaigakagaaGreatDoorP1
set_option linter.unusedSimpArgs false
set_option linter.unusedVariables false
set_option maxRecDepth 100000
set_option maxHeartbeats 16000000
section
namespace Go.Proofs.YtpebabaigakagaaGreatDoor.Tab
open Go.RowKit
open Path (bl rightB overB aboveB)
open Lease (Ses Ans fresh Turned)
open Lock (S3 Ent)
open Cmd (Cm rightC)
attribute [-go_sem] run_eql_struct run_neq_struct run_eqGuard_agg
theorem right_ttl {kind num : Int} {foot : ByteArray} {req : Int} {path : ByteArray} {mode n time : Int} (h : rightC ⟨kind, num, foot, req, path, mode, n, time⟩ = true) (e : kind = 1) : n ≤ 1048576 := by
 subst e
 have h2 : Cmd.rightH ⟨1, num, foot, req, path, mode, n, time⟩ ⟨true, true, false, false, true, true⟩ = true := h
 unfold Cmd.rightH at h2
 simp [Cmd.mostN] at h2
 omega
theorem apply_any {w : World} {t p m : Nat} {ss : List Ses} {b : Lock.Bk} (h : Sep [TabP t p m ss b] w) (kind num : Int) (foot : ByteArray) (req : Int) (path : ByteArray) (mode n time : Int) {T : TS} (hR : TRel ss b T) {k : Nat} (hI : TInv T k) (hk : k ≤ 100000) (hc : CmOk ⟨kind, num, foot, req, path, mode, n, time⟩) (hq0 : 0 ≤ req) (hq1 : req < Lease.big64) (hn0 : 0 ≤ n) :
 Calls Tryz.prog 17 #[.pointer (some ⟨t, 0, none⟩), .agg #[.int .i64 kind, .int .u64 num, .string foot, .int .u64 req, .string path, .int .i64 mode, .int .u64 n, .int .i64 time]] w (TPost t p m ss b w (applyT T ⟨kind, num, foot, req, path, mode, n, time⟩).1 (applyT T ⟨kind, num, foot, req, path, mode, n, time⟩).2) := by
 have hm : Tryz.prog.follows .mixedOrders = true := by kernel_rfl
 have hkn := Lib.hid (hR.kn hI.s)
 have hlen := hR.len hI.s
 have h0 : 0 ≤ num := hc.num.1
 have h1 : num < Lease.big64 := hc.num.2
 have hf : foot.size ≤ 1000 := Nat.le_trans hc.foot (by omega)
 have hp : path.size ≤ 1000 := Nat.le_trans hc.path (by omega)
 have hmf : foot.size ≤ maxLen := by unfold maxLen; omega
 have hok : LkOk b := LkOk.of (k := k) (by rw [hR.L]; exact hI.lock) (by omega)
 have hrt := Lib.hid (fun w1 => Cmd.right_any ⟨kind, num, foot, req, path, mode, n, time⟩ w1 hf hp)
 have hR' := Lib.hid hR
 have hI' := Lib.hid hI
 have hc' := Lib.hid hc
 have hok' := Lib.hid hok
 have hlk := hR.look num foot
 have hap : applyT T ⟨kind, num, foot, req, path, mode, n, time⟩ = (if rightC ⟨kind, num, foot, req, path, mode, n, time⟩ = false ∨ kind = 0 then (T, ans0)
  else if kind = 8 then (endT T ⟨kind, num, foot, req, path, mode, n, time⟩ (Lease.expB (Lease.look ss num foot) time), ansE (Lease.expB (Lease.look ss num foot) time))
  else match Lease.said (Lease.look ss num foot).told req with
   | some a => (T, a)
   | none => if 256 ≤ (Lease.look ss num foot).told.length then (T, ansE 14) else (tellT (doT T ⟨kind, num, foot, req, path, mode, n, time⟩).1 ⟨kind, num, foot, req, path, mode, n, time⟩ (doT T ⟨kind, num, foot, req, path, mode, n, time⟩).2, (doT T ⟨kind, num, foot, req, path, mode, n, time⟩).2)) := by
  unfold applyT
  simp only [hlk]
  rfl
 have hap0 := Lib.hid hap
 clear hap
 have hex := Lib.hid (fun (w1 : World) (q : Sep [Lease.BookP p m ss] w1) => Lease.book_expire q h0 h1 hmf time)
 have htd := Lib.hid (fun (w1 : World) (q : Sep [Lease.BookP p m ss] w1) => Lease.told_any q h0 h1 hmf hq0 hq1)
 obtain ⟨rc, hrc⟩ : ∃ z, rightC ⟨kind, num, foot, req, path, mode, n, time⟩ = z := ⟨_, rfl⟩
 have hrt2 := hrt.out
 simp only [hrc, Cm.val] at hrt2
 have hrt3 := Lib.hid hrt2
 clear hrt hrt2 hR hI hc hok hlk
 have hA := At.start h
 clear h
 have hF := hA.facts; (try simp only [uY] at hA hF)
 go_enter Tryz.func17, Tryz.ntmps17
 go_wp2_with (first | ((with_reducible refine gbx ?_); refine wH 29 [.int .i64 kind, .int .u64 num, .string foot, .int .u64 req, .string path, .int .i64 mode, .int .u64 n, .int .i64 time] hA ?_; clear hF hA; intro b3 w1 hA hb3 hF; (try simp only [uY] at hA hF)) | ((with_reducible refine gal ?_); refine wG 48 [.int .i64 0, .int .u64 0, .bool false] hA ?_; clear hF hA; intro b4 w1 hA hb4 hF; (try simp only [uY] at hA hF)))
 refine (hrt3.out _).mono ?_
 rintro e w1 ⟨rfl, hx⟩
 have hB := hA.ext hx
 clear hx
 clear hF hA; have hA := hB; clear hB
 try simp only [uA] at hA
 have hF := hA.facts; (try simp only [uY] at hA hF)
 cases rc
 · have hz := Lib.hid (show applyT T ⟨kind, num, foot, req, path, mode, n, time⟩ = (T, ans0) from hap0.out.trans (if_pos (.inl hrc)))
   clear hrc
   go_wp2_with ((with_reducible refine gst ?_); refine wT hA ?_; clear hF hA; intro w1 hA hF; (try simp only [uY] at hA hF))
   refine bodyPost_ret (v := ansV 0 0 false) (by simp [results, Tryz.results17, go_sem, hF]) rfl ?_
   rw [hz.out]
   exact ⟨ss, b, rfl, hR'.out, hA.pick pZ⟩
 by_cases k0 : kind = 0
 · have hz := Lib.hid (show applyT T ⟨kind, num, foot, req, path, mode, n, time⟩ = (T, ans0) from hap0.out.trans (if_pos (.inr k0)))
   subst k0
   clear hrc
   go_wp2_with ((with_reducible refine gst ?_); refine wT hA ?_; clear hF hA; intro w1 hA hF; (try simp only [uY] at hA hF))
   refine bodyPost_ret (v := ansV 0 0 false) (by simp [results, Tryz.results17, go_sem, hF]) rfl ?_
   rw [hz.out]
   exact ⟨ss, b, rfl, hR'.out, hA.pick pZ⟩
 have hap2 := hap0.out.trans (if_neg (fun q => q.elim (fun q => by rw [hrc] at q; cases q) k0))
 have hd0 : decide (kind = 0) = false := decide_eq_false k0
 clear hap0
 by_cases x8 : kind = 8
 · have hz := hap2.trans (if_pos x8)
   subst x8
   obtain ⟨co, hco⟩ : ∃ z, Lease.expB (Lease.look ss num foot) time = z := ⟨_, rfl⟩
   have hy := hex.out
   simp only [hco] at hy
   rw [hco] at hz
   have hex3 := Lib.hid hy
   have hz' := Lib.hid hz
   clear hy hco hex hz hap2 hrc
   have hB := tab_out hA sZ
   clear hF hA; have hA := hB; clear hB
   have hF := hA.facts; (try simp only [uY] at hA hF)
   go_upto_region 4 with fail
   try go_frame
   have hB := hA.drew
   clear hF hA; have hA := hB; clear hB
   refine wp_region_held (S := fun w' => BlockIs w' t (k2 p b.p) 75 ∧ BlockIs w' b3 (k8 8 num foot req path mode n time) 29) hm ?_
   change wpAnyH _ _ _ _ _ 14 _ _ (World.drew _)
   generalize World.drew _ = wd at *
   have hS0 := (⟨hA.get (A := Part.cells t (k2 p b.p) 75) sZ, hA.get (A := Part.cells b3 (k8 8 num foot req path mode n time) 29) sZ⟩ : (fun w' => BlockIs w' t (k2 p b.p) 75 ∧ BlockIs w' b3 (k8 8 num foot req path mode n time) 29) wd)
   refine tP 0 22 (.pointer (some ⟨t, 0, none⟩)) (s := hS0) (h := ?_)
   try go_frame
   refine tP 1 23 (.pointer (some ⟨b3, 1, none⟩)) (s := hS0) (h := ?_)
   try go_frame
   refine tZ 2 24 (.agg #[.int .u64 num, .string foot]) (r := (fun w' hS => run_load_row (ty := 25) (n := 2) (b := b3) (j := 1) rfl (by exact rfl) hS.2 (by kernel_rfl) (by kernel_rfl) rfl rfl)) (s := hS0) (h := ?_)
   try go_frame
   refine tP 3 25 (.pointer (some ⟨t, 0, none⟩)) (s := hS0) (h := ?_)
   try go_frame
   refine tP 4 26 (.pointer (some ⟨t, 0, none⟩)) (s := hS0) (h := ?_)
   try go_frame
   refine tP 5 27 (.pointer (some ⟨t, 0, none⟩)) (s := hS0) (h := ?_)
   try go_frame
   refine tZ 6 28 (.pointer (some ⟨p, 0, none⟩)) (r := (fun w' hS => run_load_one (ty := 39) (b := t) (j := 0) rfl (by exact rfl) hS.1 (by kernel_rfl) rfl)) (s := hS0) (h := ?_)
   try go_frame
   refine tP 7 29 (.pointer (some ⟨b3, 1, none⟩)) (s := hS0) (h := ?_)
   try go_frame
   refine tZ 8 30 (.agg #[.int .u64 num, .string foot]) (r := (fun w' hS => run_load_row (ty := 25) (n := 2) (b := b3) (j := 1) rfl (by exact rfl) hS.2 (by kernel_rfl) (by kernel_rfl) rfl rfl)) (s := hS0) (h := ?_)
   try go_frame
   refine tP 9 31 (.pointer (some ⟨b3, 7, none⟩)) (s := hS0) (h := ?_)
   try go_frame
   refine tZ 10 32 (.int .i64 time) (r := (fun w' hS => run_load_one (ty := 3) (b := b3) (j := 7) rfl (by exact rfl) hS.2 (by kernel_rfl) rfl)) (s := hS0) (h := ?_)
   try go_frame
   refine wpAnyH_one (i := 11) (by kernel_rfl) ?_
   refine cY 11 33 38 (fun u w' => ∃ ss', u = .int .i64 co ∧ At [Lease.BookP p m ss] _ [Lease.BookP p m ss'] w' ∧ (co ≠ 0 ∧ ss' = ss ∨ co = 0 ∧ Turned ss num foot Ses.ended ss')) ((hex3.out _ (hA.sep1 (A := Lease.BookP p m ss) sZ)).mono fun e w' ⟨ss', he, hT, hq⟩ => ⟨_, he, ss', rfl, hT, hq⟩) ?_
   rintro u w3 ⟨ss', rfl, hT, hq⟩
   have hq' := Lib.hid hq
   have hB := hA.call1 (A := Lease.BookP p m ss) sZ hT
   clear hT hq
   simp only [uA] at hB
   refine andH ⟨hB.ci, hB.ci⟩ fun hS0 => ?_
   clear hA; have hA := hB; clear hB
   try go_frame
   refine wpAnyH_one (i := 12) (by kernel_rfl) ?_
   have hB := tab_in (ss := ss') hA sZ sZ sZ
   clear hA; have hA := hB; clear hB
   refine cY 12 34 37 (fun u w' => u = ansV co 0 false ∧ At [TabP t p m ss' b] _ [TabP t p m ss' (if co = 0 then b.with (b.st.dropAll num foot) else b)] w') ((ended_any (hA.sep1 (A := TabP t p m ss' b) sZ) num foot co hok'.out).mono fun e w' ⟨he, hT⟩ => ⟨_, he, rfl, hT⟩) ?_
   rintro u w3 ⟨rfl, hT⟩
   have hC := hA.call1 (A := TabP t p m ss' b) sZ hT
   clear hT
   simp only [uA] at hC
   obtain ⟨b', hb'⟩ : ∃ z, (if co = 0 then b.with (b.st.dropAll num foot) else b) = z := ⟨_, rfl⟩
   rw [hb'] at hC
   have hbp : b'.p = b.p := by rw [← hb']; split <;> rfl
   have hB := tab_out hC sZ
   rw [hbp] at hB
   have hb2 := Lib.hid hb'
   have hbp' := Lib.hid hbp
   clear hC hb' hbp
   refine andH ⟨hB.ci, hB.ci⟩ fun hS0 => ?_
   clear hA; have hA := hB; clear hB
   try go_frame
   refine wpAnyH_one (i := 13) (by kernel_rfl) ?_
   refine stZ 13 b4 0 [.int .i64 co, .int .u64 0, .bool false] hA ?_
   intro w3 hB
   simp only [uA] at hB
   refine andH ⟨hB.ci, hB.ci⟩ fun hS0 => ?_
   clear hA; have hA := hB; clear hB
   try go_frame
   refine wpAnyH_done (by kernel_rfl) ?_ _
   try go_frame
   clear hS0
   have hF := hA.facts; (try simp only [uY] at hA hF)
   go_wp2_with fail
   refine bodyPost_ret (v := ansV co 0 false) (by simp [results, Tryz.results17, go_sem, hF]) rfl ?_
   rw [hz'.out]
   exact ⟨ss', b', rfl, by rw [← hb2.out]; exact end_rel (c := ⟨8, num, foot, req, path, mode, n, time⟩) hR'.out hkn.out hq'.out, tab_close (ss := ss') (b := b') (by rw [hbp'.out]; exact hA.pick pZ)⟩
 have hap3 := hap2.trans (if_neg x8)
 have hd8 : decide (kind = 8) = false := decide_eq_false x8
 have hn1 : kind = 1 → 0 ≤ n ∧ n ≤ 1048576 := fun e => ⟨hn0, right_ttl hrc e⟩
 clear hap2 hrc hex
 obtain ⟨sd, hsd⟩ : ∃ z, Lease.said (Lease.look ss num foot).told req = z := ⟨_, rfl⟩
 have hy := htd.out
 simp only [hsd] at hy
 rw [hsd] at hap3
 have htd3 := Lib.hid hy
 clear hy htd hsd
 cases sd with
 | some a =>
  obtain ⟨le, ln, lg⟩ := a
  have hz' := Lib.hid hap3
  simp only [Lease.toldV] at htd3
  clear hap3
  have hB := tab_out hA sZ
  clear hF hA; have hA := hB; clear hB
  have hF := hA.facts; (try simp only [uY] at hA hF)
  go_upto_region 5 with fail
  try go_frame
  have hB := hA.drew
  clear hF hA; have hA := hB; clear hB
  refine wp_region_held (S := fun w' => BlockIs w' t (k2 p b.p) 75 ∧ BlockIs w' b3 (k8 kind num foot req path mode n time) 29) hm ?_
  change wpAnyH _ _ _ _ _ 15 _ _ (World.drew _)
  generalize World.drew _ = wd at *
  have hS0 := (⟨hA.get (A := Part.cells t (k2 p b.p) 75) sZ, hA.get (A := Part.cells b3 (k8 kind num foot req path mode n time) 29) sZ⟩ : (fun w' => BlockIs w' t (k2 p b.p) 75 ∧ BlockIs w' b3 (k8 kind num foot req path mode n time) 29) wd)
  refine tP 0 36 (.pointer (some ⟨t, 0, none⟩)) (s := hS0) (h := ?_)
  try go_frame
  refine tP 1 37 (.pointer (some ⟨t, 0, none⟩)) (s := hS0) (h := ?_)
  try go_frame
  refine tP 2 38 (.pointer (some ⟨t, 0, none⟩)) (s := hS0) (h := ?_)
  try go_frame
  refine tZ 3 39 (.pointer (some ⟨p, 0, none⟩)) (r := (fun w' hS => run_load_one (ty := 39) (b := t) (j := 0) rfl (by exact rfl) hS.1 (by kernel_rfl) rfl)) (s := hS0) (h := ?_)
  try go_frame
  refine tP 4 40 (.pointer (some ⟨b3, 1, none⟩)) (s := hS0) (h := ?_)
  try go_frame
  refine tZ 5 41 (.agg #[.int .u64 num, .string foot]) (r := (fun w' hS => run_load_row (ty := 25) (n := 2) (b := b3) (j := 1) rfl (by exact rfl) hS.2 (by kernel_rfl) (by kernel_rfl) rfl rfl)) (s := hS0) (h := ?_)
  try go_frame
  refine tP 6 42 (.pointer (some ⟨b3, 3, none⟩)) (s := hS0) (h := ?_)
  try go_frame
  refine tZ 7 43 (.int .u64 req) (r := (fun w' hS => run_load_one (ty := 22) (b := b3) (j := 3) rfl (by exact rfl) hS.2 (by kernel_rfl) rfl)) (s := hS0) (h := ?_)
  try go_frame
  refine wpAnyH_two (i := 8) (j := 12) (by kernel_rfl) ?_ ?_
  · skip
    refine cY 8 44 23 (fun u w' => u = .tuple #[.agg #[.int .i64 le, .int .u64 ln, .bool lg], .bool true] ∧ At [Lease.BookP p m ss] _ [Lease.BookP p m ss] w') ((htd3.out _ (hA.sep1 (A := Lease.BookP p m ss) sZ)).mono fun e w' ⟨he, hT⟩ => ⟨_, he, rfl, hT⟩) ?_
    rintro u w3 ⟨rfl, hT⟩
    have hB := hA.call1 (A := Lease.BookP p m ss) sZ hT
    clear hT
    simp only [uA] at hB
    refine andH ⟨hB.ci, hB.ci⟩ fun hS0 => ?_
    clear hA; have hA := hB; clear hB
    try go_frame
    refine tP 9 35 (.tuple #[.agg #[.int .i64 le, .int .u64 ln, .bool lg], .bool true]) (s := hS0) (h := ?_)
    try go_frame
    refine tP 10 45 (.agg #[.int .i64 le, .int .u64 ln, .bool lg]) (s := hS0) (h := ?_)
    try go_frame
    refine tP 11 46 (.bool true) (s := hS0) (h := ?_)
    try go_frame
    refine wpAnyH_one (i := 12) (by kernel_rfl) ?_
    refine aZ 12 5 48 [.int .i64 0, .int .u64 0, .bool false] hA ?_
    intro b5 w3 hB
    refine andH ⟨hB.ci, hB.ci⟩ fun hS0 => ?_
    clear hA; have hA := hB; clear hB
    try go_frame
    refine wpAnyH_one (i := 13) (by kernel_rfl) ?_
    refine stZ 13 b5 0 [.int .i64 le, .int .u64 ln, .bool lg] hA ?_
    intro w3 hB
    simp only [uA] at hB
    refine andH ⟨hB.ci, hB.ci⟩ fun hS0 => ?_
    clear hA; have hA := hB; clear hB
    try go_frame
    refine tP 14 6 (.bool true) (s := hS0) (h := ?_)
    try go_frame
    refine wpAnyH_done (by kernel_rfl) ?_ _
    try go_frame
    clear hS0
    have hF := hA.facts; (try simp only [uY] at hA hF)
    go_wp2_with ((with_reducible refine gst ?_); refine wT hA ?_; clear hF hA; intro w1 hA hF; (try simp only [uY] at hA hF))
    refine bodyPost_ret (v := ansV le ln lg) (by simp [results, Tryz.results17, go_sem, hF]) rfl ?_
    rw [hz'.out]
    exact ⟨ss, b, rfl, hR'.out, tab_close (hA.pick pZ)⟩
  · skip
    refine aZ 12 5 48 [.int .i64 0, .int .u64 0, .bool false] hA ?_
    intro b5 w3 hB
    refine andH ⟨hB.ci, hB.ci⟩ fun hS0 => ?_
    clear hA; have hA := hB; clear hB
    try go_frame
    refine wpAnyH_one (i := 8) (by kernel_rfl) ?_
    refine cY 8 44 23 (fun u w' => u = .tuple #[.agg #[.int .i64 le, .int .u64 ln, .bool lg], .bool true] ∧ At [Lease.BookP p m ss] _ [Lease.BookP p m ss] w') ((htd3.out _ (hA.sep1 (A := Lease.BookP p m ss) sZ)).mono fun e w' ⟨he, hT⟩ => ⟨_, he, rfl, hT⟩) ?_
    rintro u w3 ⟨rfl, hT⟩
    have hB := hA.call1 (A := Lease.BookP p m ss) sZ hT
    clear hT
    simp only [uA] at hB
    refine andH ⟨hB.ci, hB.ci⟩ fun hS0 => ?_
    clear hA; have hA := hB; clear hB
    try go_frame
    refine tP 9 35 (.tuple #[.agg #[.int .i64 le, .int .u64 ln, .bool lg], .bool true]) (s := hS0) (h := ?_)
    try go_frame
    refine tP 10 45 (.agg #[.int .i64 le, .int .u64 ln, .bool lg]) (s := hS0) (h := ?_)
    try go_frame
    refine tP 11 46 (.bool true) (s := hS0) (h := ?_)
    try go_frame
    refine wpAnyH_one (i := 13) (by kernel_rfl) ?_
    refine stZ 13 b5 0 [.int .i64 le, .int .u64 ln, .bool lg] hA ?_
    intro w3 hB
    simp only [uA] at hB
    refine andH ⟨hB.ci, hB.ci⟩ fun hS0 => ?_
    clear hA; have hA := hB; clear hB
    try go_frame
    refine tP 14 6 (.bool true) (s := hS0) (h := ?_)
    try go_frame
    refine wpAnyH_done (by kernel_rfl) ?_ _
    try go_frame
    clear hS0
    have hF := hA.facts; (try simp only [uY] at hA hF)
    go_wp2_with ((with_reducible refine gst ?_); refine wT hA ?_; clear hF hA; intro w1 hA hF; (try simp only [uY] at hA hF))
    refine bodyPost_ret (v := ansV le ln lg) (by simp [results, Tryz.results17, go_sem, hF]) rfl ?_
    rw [hz'.out]
    exact ⟨ss, b, rfl, hR'.out, tab_close (hA.pick pZ)⟩
 | none =>
  simp only [Lease.toldV] at htd3
  have hap3' := Lib.hid hap3
  clear hap3
  have hB := tab_out hA sZ
  clear hF hA; have hA := hB; clear hB
  have hF := hA.facts; (try simp only [uY] at hA hF)
  go_upto_region 5 with fail
  try go_frame
  have hB := hA.drew
  clear hF hA; have hA := hB; clear hB
  refine wp_region_held (S := fun w' => BlockIs w' t (k2 p b.p) 75 ∧ BlockIs w' b3 (k8 kind num foot req path mode n time) 29) hm ?_
  change wpAnyH _ _ _ _ _ 15 _ _ (World.drew _)
  generalize World.drew _ = wd at *
  have hS0 := (⟨hA.get (A := Part.cells t (k2 p b.p) 75) sZ, hA.get (A := Part.cells b3 (k8 kind num foot req path mode n time) 29) sZ⟩ : (fun w' => BlockIs w' t (k2 p b.p) 75 ∧ BlockIs w' b3 (k8 kind num foot req path mode n time) 29) wd)
  refine tP 0 36 (.pointer (some ⟨t, 0, none⟩)) (s := hS0) (h := ?_)
  try go_frame
  refine tP 1 37 (.pointer (some ⟨t, 0, none⟩)) (s := hS0) (h := ?_)
  try go_frame
  refine tP 2 38 (.pointer (some ⟨t, 0, none⟩)) (s := hS0) (h := ?_)
  try go_frame
  refine tZ 3 39 (.pointer (some ⟨p, 0, none⟩)) (r := (fun w' hS => run_load_one (ty := 39) (b := t) (j := 0) rfl (by exact rfl) hS.1 (by kernel_rfl) rfl)) (s := hS0) (h := ?_)
  try go_frame
  refine tP 4 40 (.pointer (some ⟨b3, 1, none⟩)) (s := hS0) (h := ?_)
  try go_frame
  refine tZ 5 41 (.agg #[.int .u64 num, .string foot]) (r := (fun w' hS => run_load_row (ty := 25) (n := 2) (b := b3) (j := 1) rfl (by exact rfl) hS.2 (by kernel_rfl) (by kernel_rfl) rfl rfl)) (s := hS0) (h := ?_)
  try go_frame
  refine tP 6 42 (.pointer (some ⟨b3, 3, none⟩)) (s := hS0) (h := ?_)
  try go_frame
  refine tZ 7 43 (.int .u64 req) (r := (fun w' hS => run_load_one (ty := 22) (b := b3) (j := 3) rfl (by exact rfl) hS.2 (by kernel_rfl) rfl)) (s := hS0) (h := ?_)
  try go_frame
  refine wpAnyH_two (i := 8) (j := 12) (by kernel_rfl) ?_ ?_
  · skip
    refine cY 8 44 23 (fun u w' => u = .tuple #[.agg #[.int .i64 0, .int .u64 0, .bool false], .bool false] ∧ At [Lease.BookP p m ss] _ [Lease.BookP p m ss] w') ((htd3.out _ (hA.sep1 (A := Lease.BookP p m ss) sZ)).mono fun e w' ⟨he, hT⟩ => ⟨_, he, rfl, hT⟩) ?_
    rintro u w3 ⟨rfl, hT⟩
    have hB := hA.call1 (A := Lease.BookP p m ss) sZ hT
    clear hT
    simp only [uA] at hB
    refine andH ⟨hB.ci, hB.ci⟩ fun hS0 => ?_
    clear hA; have hA := hB; clear hB
    try go_frame
    refine tP 9 35 (.tuple #[.agg #[.int .i64 0, .int .u64 0, .bool false], .bool false]) (s := hS0) (h := ?_)
    try go_frame
    refine tP 10 45 (.agg #[.int .i64 0, .int .u64 0, .bool false]) (s := hS0) (h := ?_)
    try go_frame
    refine tP 11 46 (.bool false) (s := hS0) (h := ?_)
    try go_frame
    refine wpAnyH_one (i := 12) (by kernel_rfl) ?_
    refine aZ 12 5 48 [.int .i64 0, .int .u64 0, .bool false] hA ?_
    intro b5 w3 hB
    refine andH ⟨hB.ci, hB.ci⟩ fun hS0 => ?_
    clear hA; have hA := hB; clear hB
    try go_frame
    refine wpAnyH_one (i := 13) (by kernel_rfl) ?_
    refine stZ 13 b5 0 [.int .i64 0, .int .u64 0, .bool false] hA ?_
    intro w3 hB
    simp only [uA] at hB
    refine andH ⟨hB.ci, hB.ci⟩ fun hS0 => ?_
    clear hA; have hA := hB; clear hB
    try go_frame
    refine tP 14 6 (.bool false) (s := hS0) (h := ?_)
    try go_frame
    refine wpAnyH_done (by kernel_rfl) ?_ _
    try go_frame
    clear hS0
    have hF := hA.facts; (try simp only [uY] at hA hF)
    by_cases hfull : 256 ≤ (Lease.look ss num foot).told.length
    · have hz' := Lib.hid (hap3'.out.trans (if_pos hfull))
      have hro := Lib.hid (fun (w1 : World) (q : Sep [Lease.BookP p m ss] w1) => Lease.room_no q h0 h1 hmf (Nat.not_lt.2 hfull))
      clear hap3' hfull
      go_upto_region 8 with fail
      try go_frame
      have hB := hA.drew
      clear hF hA; have hA := hB; clear hB
      refine wp_region_held (S := fun w' => BlockIs w' t (k2 p b.p) 75 ∧ BlockIs w' b3 (k8 kind num foot req path mode n time) 29) hm ?_
      change wpAnyH _ _ _ _ _ 8 _ _ (World.drew _)
      generalize World.drew _ = wd at *
      have hS0 := (⟨hA.get (A := Part.cells t (k2 p b.p) 75) sZ, hA.get (A := Part.cells b3 (k8 kind num foot req path mode n time) 29) sZ⟩ : (fun w' => BlockIs w' t (k2 p b.p) 75 ∧ BlockIs w' b3 (k8 kind num foot req path mode n time) 29) wd)
      refine tP 0 49 (.pointer (some ⟨t, 0, none⟩)) (s := hS0) (h := ?_)
      try go_frame
      refine tP 1 50 (.pointer (some ⟨t, 0, none⟩)) (s := hS0) (h := ?_)
      try go_frame
      refine tP 2 51 (.pointer (some ⟨t, 0, none⟩)) (s := hS0) (h := ?_)
      try go_frame
      refine tZ 3 52 (.pointer (some ⟨p, 0, none⟩)) (r := (fun w' hS => run_load_one (ty := 39) (b := t) (j := 0) rfl (by exact rfl) hS.1 (by kernel_rfl) rfl)) (s := hS0) (h := ?_)
      try go_frame
      refine tP 4 53 (.pointer (some ⟨b3, 1, none⟩)) (s := hS0) (h := ?_)
      try go_frame
      refine tZ 5 54 (.agg #[.int .u64 num, .string foot]) (r := (fun w' hS => run_load_row (ty := 25) (n := 2) (b := b3) (j := 1) rfl (by exact rfl) hS.2 (by kernel_rfl) (by kernel_rfl) rfl rfl)) (s := hS0) (h := ?_)
      try go_frame
      refine wpAnyH_one (i := 6) (by kernel_rfl) ?_
      refine cY 6 55 22 (fun u w' => u = .bool false ∧ At [Lease.BookP p m ss] _ [Lease.BookP p m ss] w') ((hro.out _ (hA.sep1 (A := Lease.BookP p m ss) sZ)).mono fun e w' ⟨he, hT⟩ => ⟨_, he, rfl, hT⟩) ?_
      rintro u w3 ⟨rfl, hT⟩
      have hB := hA.call1 (A := Lease.BookP p m ss) sZ hT
      clear hT
      simp only [uA] at hB
      refine andH ⟨hB.ci, hB.ci⟩ fun hS0 => ?_
      clear hA; have hA := hB; clear hB
      try go_frame
      refine tP 7 56 (.bool true) (s := hS0) (h := ?_)
      try go_frame
      refine wpAnyH_done (by kernel_rfl) ?_ _
      try go_frame
      clear hS0
      have hF := hA.facts; (try simp only [uY] at hA hF)
      go_wp2_with fail
      refine (refused_any _ _).mono ?_
      rintro e w1 ⟨rfl, hx⟩
      have hB := hA.ext hx
      clear hx
      clear hF hA; have hA := hB; clear hB
      try simp only [uA] at hA
      have hF := hA.facts; (try simp only [uY] at hA hF)
      go_wp2_with ((with_reducible refine gst ?_); refine wT hA ?_; clear hF hA; intro w1 hA hF; (try simp only [uY] at hA hF))
      refine bodyPost_ret (v := ansV 14 0 false) (by simp [results, Tryz.results17, go_sem, hF]) rfl ?_
      rw [hz'.out]
      exact ⟨ss, b, rfl, hR'.out, tab_close (hA.pick pZ)⟩
    · have hap4 := hap3'.out.trans (if_neg hfull)
      have hro := Lib.hid (fun (w1 : World) (q : Sep [Lease.BookP p m ss] w1) => Lease.room_yes q h0 h1 hmf (Nat.lt_of_not_le hfull))
      have hz' := Lib.hid hap4
      clear hap3' hap4 hfull
      go_upto_region 8 with fail
      try go_frame
      have hB := hA.drew
      clear hF hA; have hA := hB; clear hB
      refine wp_region_held (S := fun w' => BlockIs w' t (k2 p b.p) 75 ∧ BlockIs w' b3 (k8 kind num foot req path mode n time) 29) hm ?_
      change wpAnyH _ _ _ _ _ 8 _ _ (World.drew _)
      generalize World.drew _ = wd at *
      have hS0 := (⟨hA.get (A := Part.cells t (k2 p b.p) 75) sZ, hA.get (A := Part.cells b3 (k8 kind num foot req path mode n time) 29) sZ⟩ : (fun w' => BlockIs w' t (k2 p b.p) 75 ∧ BlockIs w' b3 (k8 kind num foot req path mode n time) 29) wd)
      refine tP 0 49 (.pointer (some ⟨t, 0, none⟩)) (s := hS0) (h := ?_)
      try go_frame
      refine tP 1 50 (.pointer (some ⟨t, 0, none⟩)) (s := hS0) (h := ?_)
      try go_frame
      refine tP 2 51 (.pointer (some ⟨t, 0, none⟩)) (s := hS0) (h := ?_)
      try go_frame
      refine tZ 3 52 (.pointer (some ⟨p, 0, none⟩)) (r := (fun w' hS => run_load_one (ty := 39) (b := t) (j := 0) rfl (by exact rfl) hS.1 (by kernel_rfl) rfl)) (s := hS0) (h := ?_)
      try go_frame
      refine tP 4 53 (.pointer (some ⟨b3, 1, none⟩)) (s := hS0) (h := ?_)
      try go_frame
      refine tZ 5 54 (.agg #[.int .u64 num, .string foot]) (r := (fun w' hS => run_load_row (ty := 25) (n := 2) (b := b3) (j := 1) rfl (by exact rfl) hS.2 (by kernel_rfl) (by kernel_rfl) rfl rfl)) (s := hS0) (h := ?_)
      try go_frame
      refine wpAnyH_one (i := 6) (by kernel_rfl) ?_
      refine cY 6 55 22 (fun u w' => u = .bool true ∧ At [Lease.BookP p m ss] _ [Lease.BookP p m ss] w') ((hro.out _ (hA.sep1 (A := Lease.BookP p m ss) sZ)).mono fun e w' ⟨he, hT⟩ => ⟨_, he, rfl, hT⟩) ?_
      rintro u w3 ⟨rfl, hT⟩
      have hB := hA.call1 (A := Lease.BookP p m ss) sZ hT
      clear hT
      simp only [uA] at hB
      refine andH ⟨hB.ci, hB.ci⟩ fun hS0 => ?_
      clear hA; have hA := hB; clear hB
      try go_frame
      refine tP 7 56 (.bool false) (s := hS0) (h := ?_)
      try go_frame
      refine wpAnyH_done (by kernel_rfl) ?_ _
      try go_frame
      clear hS0
      have hF := hA.facts; (try simp only [uY] at hA hF)
      have hB := tab_in hA sZ sZ sZ
      clear hF hA; have hA := hB; clear hB
      have hF := hA.facts; (try simp only [uY] at hA hF)
      go_wp2_with fail
      refine (do_any (hA.sep1 (A := TabP t p m ss b) sZ) kind num foot req path mode n time hR'.out hI'.out.s (by omega) h0 h1 hf hp hok'.out hn1).mono ?_
      rintro e w1 ⟨ss1, b1, rfl, hr2, hT⟩
      have hB := hA.call1 (A := TabP t p m ss b) sZ hT
      clear hT
      clear hF hA; have hA := hB; clear hB
      try simp only [uA] at hA
      have hF := hA.facts; (try simp only [uY] at hA hF)
      obtain ⟨⟨le, ln, lg⟩, hla⟩ : ∃ z, (doT T ⟨kind, num, foot, req, path, mode, n, time⟩).2 = z := ⟨_, rfl⟩
      rw [hla]
      simp only [Lease.Ans.val]
      obtain ⟨hi1, hi2⟩ := doT_inv hI'.out.s hI'.out.lock hc'.out
      have hkn2 := Lib.hid (hr2.kn hi1)
      obtain ⟨te, hte⟩ : ∃ z, Lease.tellE (lookA (doT T ⟨kind, num, foot, req, path, mode, n, time⟩).1.S num foot) req = z := ⟨_, rfl⟩
      have hte2 : Lease.tellE (Lease.look ss1 num foot) req = te := by rw [← hte, hr2.look]; rfl
      have htl := fun (w1 : World) (q : Sep [Lease.BookP p m ss1] w1) => Lease.book_tell q h0 h1 hmf hq0 hq1 ⟨le, ln, lg⟩
      simp only [hte2] at htl
      have htl3 := Lib.hid htl
      have hla' := Lib.hid hla
      have hte' := Lib.hid hte
      have hr2' := Lib.hid hr2
      clear htl hla hte hte2 hr2 hi1 hi2
      have hF := hA.facts; (try simp only [uY] at hA hF)
      have hB := tab_out hA sZ
      clear hF hA; have hA := hB; clear hB
      have hF := hA.facts; (try simp only [uY] at hA hF)
      go_upto_region 11 with (first | ((with_reducible refine gal ?_); refine wG 48 [.int .i64 0, .int .u64 0, .bool false] hA ?_; clear hF hA; intro b7 w1 hA hb7 hF; (try simp only [uY] at hA hF)) | ((with_reducible refine gst ?_); refine wT hA ?_; clear hF hA; intro w1 hA hF; (try simp only [uY] at hA hF)))
      try go_frame
      have hB := hA.drew
      clear hF hA; have hA := hB; clear hB
      refine wp_region_held (S := fun w' => BlockIs w' t [.pointer (some ⟨p, 0, none⟩), .pointer (some ⟨b1.p, 0, none⟩)] 75 ∧ BlockIs w' b3 (k8 kind num foot req path mode n time) 29 ∧ BlockIs w' b7 [.int .i64 le, .int .u64 ln, .bool lg] 48) hm ?_
      change wpAnyH _ _ _ _ _ 10 _ _ (World.drew _)
      generalize World.drew _ = wd at *
      have hS0 := (⟨hA.get (A := Part.cells t [.pointer (some ⟨p, 0, none⟩), .pointer (some ⟨b1.p, 0, none⟩)] 75) sZ, hA.get (A := Part.cells b3 (k8 kind num foot req path mode n time) 29) sZ, hA.get (A := Part.cells b7 [.int .i64 le, .int .u64 ln, .bool lg] 48) sZ⟩ : (fun w' => BlockIs w' t [.pointer (some ⟨p, 0, none⟩), .pointer (some ⟨b1.p, 0, none⟩)] 75 ∧ BlockIs w' b3 (k8 kind num foot req path mode n time) 29 ∧ BlockIs w' b7 [.int .i64 le, .int .u64 ln, .bool lg] 48) wd)
      refine tP 0 61 (.pointer (some ⟨t, 0, none⟩)) (s := hS0) (h := ?_)
      try go_frame
      refine tP 1 62 (.pointer (some ⟨t, 0, none⟩)) (s := hS0) (h := ?_)
      try go_frame
      refine tP 2 63 (.pointer (some ⟨t, 0, none⟩)) (s := hS0) (h := ?_)
      try go_frame
      refine tZ 3 64 (.pointer (some ⟨p, 0, none⟩)) (r := (fun w' hS => run_load_one (ty := 39) (b := t) (j := 0) rfl (by exact rfl) hS.1 (by kernel_rfl) rfl)) (s := hS0) (h := ?_)
      try go_frame
      refine tP 4 65 (.pointer (some ⟨b3, 1, none⟩)) (s := hS0) (h := ?_)
      try go_frame
      refine tZ 5 66 (.agg #[.int .u64 num, .string foot]) (r := (fun w' hS => run_load_row (ty := 25) (n := 2) (b := b3) (j := 1) rfl (by exact rfl) hS.2.1 (by kernel_rfl) (by kernel_rfl) rfl rfl)) (s := hS0) (h := ?_)
      try go_frame
      refine tP 6 67 (.pointer (some ⟨b3, 3, none⟩)) (s := hS0) (h := ?_)
      try go_frame
      refine tZ 7 68 (.int .u64 req) (r := (fun w' hS => run_load_one (ty := 22) (b := b3) (j := 3) rfl (by exact rfl) hS.2.1 (by kernel_rfl) rfl)) (s := hS0) (h := ?_)
      try go_frame
      refine tZ 8 69 (.agg #[.int .i64 le, .int .u64 ln, .bool lg]) (r := (fun w' hS => run_load_row (ty := 48) (n := 3) (b := b7) (j := 0) rfl (by exact rfl) hS.2.2 (by kernel_rfl) (by kernel_rfl) rfl rfl)) (s := hS0) (h := ?_)
      try go_frame
      refine wpAnyH_one (i := 9) (by kernel_rfl) ?_
      refine cY 9 70 41 (fun u w' => ∃ ss2, u = .tuple #[] ∧ At [Lease.BookP p m ss1] _ [Lease.BookP p m ss2] w' ∧ (te ≠ 0 ∧ ss2 = ss1 ∨ te = 0 ∧ Turned ss1 num foot (fun s => s.tell req ⟨le, ln, lg⟩) ss2)) ((htl3.out _ (hA.sep1 (A := Lease.BookP p m ss1) sZ)).mono fun e w' ⟨ss2, he, hT, hq⟩ => ⟨_, he, ss2, rfl, hT, hq⟩) ?_
      rintro u w3 ⟨ss2, rfl, hT, hq⟩
      have hq' := Lib.hid hq
      have hB := hA.call1 (A := Lease.BookP p m ss1) sZ hT
      clear hT hq
      simp only [uA] at hB
      refine andH ⟨hB.ci, hB.ci, hB.ci⟩ fun hS0 => ?_
      clear hA; have hA := hB; clear hB
      try go_frame
      refine wpAnyH_done (by kernel_rfl) ?_ _
      try go_frame
      clear hS0
      have hF := hA.facts; (try simp only [uY] at hA hF)
      go_wp2_with ((with_reducible refine gst ?_); refine wT hA ?_; clear hF hA; intro w1 hA hF; (try simp only [uY] at hA hF))
      refine bodyPost_ret (v := ansV le ln lg) (by simp [results, Tryz.results17, go_sem, hF]) rfl ?_
      rw [hz'.out]
      exact ⟨ss2, b1, (by
       show Ending.returned (ansV le ln lg) = Ending.returned (doT T ⟨kind, num, foot, req, path, mode, n, time⟩).2.val
       rw [hla'.out]
       rfl), by
       show TRel ss2 b1 (opT (doT T ⟨kind, num, foot, req, path, mode, n, time⟩).1 ⟨kind, num, foot, req, path, mode, n, time⟩ (fun s => s.tell req (doT T ⟨kind, num, foot, req, path, mode, n, time⟩).2) (Lease.tellE (lookA (doT T ⟨kind, num, foot, req, path, mode, n, time⟩).1.S num foot) req))
       rw [hla'.out, hte'.out]
       exact op_rel (c := ⟨kind, num, foot, req, path, mode, n, time⟩) hr2'.out hkn2.out (fun s => rfl) hq'.out, (tab_in (ss := ss2) hA sZ sZ sZ).pick pZ⟩
  · skip
    refine aZ 12 5 48 [.int .i64 0, .int .u64 0, .bool false] hA ?_
    intro b5 w3 hB
    refine andH ⟨hB.ci, hB.ci⟩ fun hS0 => ?_
    clear hA; have hA := hB; clear hB
    try go_frame
    refine wpAnyH_one (i := 8) (by kernel_rfl) ?_
    refine cY 8 44 23 (fun u w' => u = .tuple #[.agg #[.int .i64 0, .int .u64 0, .bool false], .bool false] ∧ At [Lease.BookP p m ss] _ [Lease.BookP p m ss] w') ((htd3.out _ (hA.sep1 (A := Lease.BookP p m ss) sZ)).mono fun e w' ⟨he, hT⟩ => ⟨_, he, rfl, hT⟩) ?_
    rintro u w3 ⟨rfl, hT⟩
    have hB := hA.call1 (A := Lease.BookP p m ss) sZ hT
    clear hT
    simp only [uA] at hB
    refine andH ⟨hB.ci, hB.ci⟩ fun hS0 => ?_
    clear hA; have hA := hB; clear hB
    try go_frame
    refine tP 9 35 (.tuple #[.agg #[.int .i64 0, .int .u64 0, .bool false], .bool false]) (s := hS0) (h := ?_)
    try go_frame
    refine tP 10 45 (.agg #[.int .i64 0, .int .u64 0, .bool false]) (s := hS0) (h := ?_)
    try go_frame
    refine tP 11 46 (.bool false) (s := hS0) (h := ?_)
    try go_frame
    refine wpAnyH_one (i := 13) (by kernel_rfl) ?_
    refine stZ 13 b5 0 [.int .i64 0, .int .u64 0, .bool false] hA ?_
    intro w3 hB
    simp only [uA] at hB
    refine andH ⟨hB.ci, hB.ci⟩ fun hS0 => ?_
    clear hA; have hA := hB; clear hB
    try go_frame
    refine tP 14 6 (.bool false) (s := hS0) (h := ?_)
    try go_frame
    refine wpAnyH_done (by kernel_rfl) ?_ _
    try go_frame
    clear hS0
    have hF := hA.facts; (try simp only [uY] at hA hF)
    by_cases hfull : 256 ≤ (Lease.look ss num foot).told.length
    · have hz' := Lib.hid (hap3'.out.trans (if_pos hfull))
      have hro := Lib.hid (fun (w1 : World) (q : Sep [Lease.BookP p m ss] w1) => Lease.room_no q h0 h1 hmf (Nat.not_lt.2 hfull))
      clear hap3' hfull
      go_upto_region 8 with fail
      try go_frame
      have hB := hA.drew
      clear hF hA; have hA := hB; clear hB
      refine wp_region_held (S := fun w' => BlockIs w' t (k2 p b.p) 75 ∧ BlockIs w' b3 (k8 kind num foot req path mode n time) 29) hm ?_
      change wpAnyH _ _ _ _ _ 8 _ _ (World.drew _)
      generalize World.drew _ = wd at *
      have hS0 := (⟨hA.get (A := Part.cells t (k2 p b.p) 75) sZ, hA.get (A := Part.cells b3 (k8 kind num foot req path mode n time) 29) sZ⟩ : (fun w' => BlockIs w' t (k2 p b.p) 75 ∧ BlockIs w' b3 (k8 kind num foot req path mode n time) 29) wd)
      refine tP 0 49 (.pointer (some ⟨t, 0, none⟩)) (s := hS0) (h := ?_)
      try go_frame
      refine tP 1 50 (.pointer (some ⟨t, 0, none⟩)) (s := hS0) (h := ?_)
      try go_frame
      refine tP 2 51 (.pointer (some ⟨t, 0, none⟩)) (s := hS0) (h := ?_)
      try go_frame
      refine tZ 3 52 (.pointer (some ⟨p, 0, none⟩)) (r := (fun w' hS => run_load_one (ty := 39) (b := t) (j := 0) rfl (by exact rfl) hS.1 (by kernel_rfl) rfl)) (s := hS0) (h := ?_)
      try go_frame
      refine tP 4 53 (.pointer (some ⟨b3, 1, none⟩)) (s := hS0) (h := ?_)
      try go_frame
      refine tZ 5 54 (.agg #[.int .u64 num, .string foot]) (r := (fun w' hS => run_load_row (ty := 25) (n := 2) (b := b3) (j := 1) rfl (by exact rfl) hS.2 (by kernel_rfl) (by kernel_rfl) rfl rfl)) (s := hS0) (h := ?_)
      try go_frame
      refine wpAnyH_one (i := 6) (by kernel_rfl) ?_
      refine cY 6 55 22 (fun u w' => u = .bool false ∧ At [Lease.BookP p m ss] _ [Lease.BookP p m ss] w') ((hro.out _ (hA.sep1 (A := Lease.BookP p m ss) sZ)).mono fun e w' ⟨he, hT⟩ => ⟨_, he, rfl, hT⟩) ?_
      rintro u w3 ⟨rfl, hT⟩
      have hB := hA.call1 (A := Lease.BookP p m ss) sZ hT
      clear hT
      simp only [uA] at hB
      refine andH ⟨hB.ci, hB.ci⟩ fun hS0 => ?_
      clear hA; have hA := hB; clear hB
      try go_frame
      refine tP 7 56 (.bool true) (s := hS0) (h := ?_)
      try go_frame
      refine wpAnyH_done (by kernel_rfl) ?_ _
      try go_frame
      clear hS0
      have hF := hA.facts; (try simp only [uY] at hA hF)
      go_wp2_with fail
      refine (refused_any _ _).mono ?_
      rintro e w1 ⟨rfl, hx⟩
      have hB := hA.ext hx
      clear hx
      clear hF hA; have hA := hB; clear hB
      try simp only [uA] at hA
      have hF := hA.facts; (try simp only [uY] at hA hF)
      go_wp2_with ((with_reducible refine gst ?_); refine wT hA ?_; clear hF hA; intro w1 hA hF; (try simp only [uY] at hA hF))
      refine bodyPost_ret (v := ansV 14 0 false) (by simp [results, Tryz.results17, go_sem, hF]) rfl ?_
      rw [hz'.out]
      exact ⟨ss, b, rfl, hR'.out, tab_close (hA.pick pZ)⟩
    · have hap4 := hap3'.out.trans (if_neg hfull)
      have hro := Lib.hid (fun (w1 : World) (q : Sep [Lease.BookP p m ss] w1) => Lease.room_yes q h0 h1 hmf (Nat.lt_of_not_le hfull))
      have hz' := Lib.hid hap4
      clear hap3' hap4 hfull
      go_upto_region 8 with fail
      try go_frame
      have hB := hA.drew
      clear hF hA; have hA := hB; clear hB
      refine wp_region_held (S := fun w' => BlockIs w' t (k2 p b.p) 75 ∧ BlockIs w' b3 (k8 kind num foot req path mode n time) 29) hm ?_
      change wpAnyH _ _ _ _ _ 8 _ _ (World.drew _)
      generalize World.drew _ = wd at *
      have hS0 := (⟨hA.get (A := Part.cells t (k2 p b.p) 75) sZ, hA.get (A := Part.cells b3 (k8 kind num foot req path mode n time) 29) sZ⟩ : (fun w' => BlockIs w' t (k2 p b.p) 75 ∧ BlockIs w' b3 (k8 kind num foot req path mode n time) 29) wd)
      refine tP 0 49 (.pointer (some ⟨t, 0, none⟩)) (s := hS0) (h := ?_)
      try go_frame
      refine tP 1 50 (.pointer (some ⟨t, 0, none⟩)) (s := hS0) (h := ?_)
      try go_frame
      refine tP 2 51 (.pointer (some ⟨t, 0, none⟩)) (s := hS0) (h := ?_)
      try go_frame
      refine tZ 3 52 (.pointer (some ⟨p, 0, none⟩)) (r := (fun w' hS => run_load_one (ty := 39) (b := t) (j := 0) rfl (by exact rfl) hS.1 (by kernel_rfl) rfl)) (s := hS0) (h := ?_)
      try go_frame
      refine tP 4 53 (.pointer (some ⟨b3, 1, none⟩)) (s := hS0) (h := ?_)
      try go_frame
      refine tZ 5 54 (.agg #[.int .u64 num, .string foot]) (r := (fun w' hS => run_load_row (ty := 25) (n := 2) (b := b3) (j := 1) rfl (by exact rfl) hS.2 (by kernel_rfl) (by kernel_rfl) rfl rfl)) (s := hS0) (h := ?_)
      try go_frame
      refine wpAnyH_one (i := 6) (by kernel_rfl) ?_
      refine cY 6 55 22 (fun u w' => u = .bool true ∧ At [Lease.BookP p m ss] _ [Lease.BookP p m ss] w') ((hro.out _ (hA.sep1 (A := Lease.BookP p m ss) sZ)).mono fun e w' ⟨he, hT⟩ => ⟨_, he, rfl, hT⟩) ?_
      rintro u w3 ⟨rfl, hT⟩
      have hB := hA.call1 (A := Lease.BookP p m ss) sZ hT
      clear hT
      simp only [uA] at hB
      refine andH ⟨hB.ci, hB.ci⟩ fun hS0 => ?_
      clear hA; have hA := hB; clear hB
      try go_frame
      refine tP 7 56 (.bool false) (s := hS0) (h := ?_)
      try go_frame
      refine wpAnyH_done (by kernel_rfl) ?_ _
      try go_frame
      clear hS0
      have hF := hA.facts; (try simp only [uY] at hA hF)
      have hB := tab_in hA sZ sZ sZ
      clear hF hA; have hA := hB; clear hB
      have hF := hA.facts; (try simp only [uY] at hA hF)
      go_wp2_with fail
      refine (do_any (hA.sep1 (A := TabP t p m ss b) sZ) kind num foot req path mode n time hR'.out hI'.out.s (by omega) h0 h1 hf hp hok'.out hn1).mono ?_
      rintro e w1 ⟨ss1, b1, rfl, hr2, hT⟩
      have hB := hA.call1 (A := TabP t p m ss b) sZ hT
      clear hT
      clear hF hA; have hA := hB; clear hB
      try simp only [uA] at hA
      have hF := hA.facts; (try simp only [uY] at hA hF)
      obtain ⟨⟨le, ln, lg⟩, hla⟩ : ∃ z, (doT T ⟨kind, num, foot, req, path, mode, n, time⟩).2 = z := ⟨_, rfl⟩
      rw [hla]
      simp only [Lease.Ans.val]
      obtain ⟨hi1, hi2⟩ := doT_inv hI'.out.s hI'.out.lock hc'.out
      have hkn2 := Lib.hid (hr2.kn hi1)
      obtain ⟨te, hte⟩ : ∃ z, Lease.tellE (lookA (doT T ⟨kind, num, foot, req, path, mode, n, time⟩).1.S num foot) req = z := ⟨_, rfl⟩
      have hte2 : Lease.tellE (Lease.look ss1 num foot) req = te := by rw [← hte, hr2.look]; rfl
      have htl := fun (w1 : World) (q : Sep [Lease.BookP p m ss1] w1) => Lease.book_tell q h0 h1 hmf hq0 hq1 ⟨le, ln, lg⟩
      simp only [hte2] at htl
      have htl3 := Lib.hid htl
      have hla' := Lib.hid hla
      have hte' := Lib.hid hte
      have hr2' := Lib.hid hr2
      clear htl hla hte hte2 hr2 hi1 hi2
      have hF := hA.facts; (try simp only [uY] at hA hF)
      have hB := tab_out hA sZ
      clear hF hA; have hA := hB; clear hB
      have hF := hA.facts; (try simp only [uY] at hA hF)
      go_upto_region 11 with (first | ((with_reducible refine gal ?_); refine wG 48 [.int .i64 0, .int .u64 0, .bool false] hA ?_; clear hF hA; intro b7 w1 hA hb7 hF; (try simp only [uY] at hA hF)) | ((with_reducible refine gst ?_); refine wT hA ?_; clear hF hA; intro w1 hA hF; (try simp only [uY] at hA hF)))
      try go_frame
      have hB := hA.drew
      clear hF hA; have hA := hB; clear hB
      refine wp_region_held (S := fun w' => BlockIs w' t [.pointer (some ⟨p, 0, none⟩), .pointer (some ⟨b1.p, 0, none⟩)] 75 ∧ BlockIs w' b3 (k8 kind num foot req path mode n time) 29 ∧ BlockIs w' b7 [.int .i64 le, .int .u64 ln, .bool lg] 48) hm ?_
      change wpAnyH _ _ _ _ _ 10 _ _ (World.drew _)
      generalize World.drew _ = wd at *
      have hS0 := (⟨hA.get (A := Part.cells t [.pointer (some ⟨p, 0, none⟩), .pointer (some ⟨b1.p, 0, none⟩)] 75) sZ, hA.get (A := Part.cells b3 (k8 kind num foot req path mode n time) 29) sZ, hA.get (A := Part.cells b7 [.int .i64 le, .int .u64 ln, .bool lg] 48) sZ⟩ : (fun w' => BlockIs w' t [.pointer (some ⟨p, 0, none⟩), .pointer (some ⟨b1.p, 0, none⟩)] 75 ∧ BlockIs w' b3 (k8 kind num foot req path mode n time) 29 ∧ BlockIs w' b7 [.int .i64 le, .int .u64 ln, .bool lg] 48) wd)
      refine tP 0 61 (.pointer (some ⟨t, 0, none⟩)) (s := hS0) (h := ?_)
      try go_frame
      refine tP 1 62 (.pointer (some ⟨t, 0, none⟩)) (s := hS0) (h := ?_)
      try go_frame
      refine tP 2 63 (.pointer (some ⟨t, 0, none⟩)) (s := hS0) (h := ?_)
      try go_frame
      refine tZ 3 64 (.pointer (some ⟨p, 0, none⟩)) (r := (fun w' hS => run_load_one (ty := 39) (b := t) (j := 0) rfl (by exact rfl) hS.1 (by kernel_rfl) rfl)) (s := hS0) (h := ?_)
      try go_frame
      refine tP 4 65 (.pointer (some ⟨b3, 1, none⟩)) (s := hS0) (h := ?_)
      try go_frame
      refine tZ 5 66 (.agg #[.int .u64 num, .string foot]) (r := (fun w' hS => run_load_row (ty := 25) (n := 2) (b := b3) (j := 1) rfl (by exact rfl) hS.2.1 (by kernel_rfl) (by kernel_rfl) rfl rfl)) (s := hS0) (h := ?_)
      try go_frame
      refine tP 6 67 (.pointer (some ⟨b3, 3, none⟩)) (s := hS0) (h := ?_)
      try go_frame
      refine tZ 7 68 (.int .u64 req) (r := (fun w' hS => run_load_one (ty := 22) (b := b3) (j := 3) rfl (by exact rfl) hS.2.1 (by kernel_rfl) rfl)) (s := hS0) (h := ?_)
      try go_frame
      refine tZ 8 69 (.agg #[.int .i64 le, .int .u64 ln, .bool lg]) (r := (fun w' hS => run_load_row (ty := 48) (n := 3) (b := b7) (j := 0) rfl (by exact rfl) hS.2.2 (by kernel_rfl) (by kernel_rfl) rfl rfl)) (s := hS0) (h := ?_)
      try go_frame
      refine wpAnyH_one (i := 9) (by kernel_rfl) ?_
      refine cY 9 70 41 (fun u w' => ∃ ss2, u = .tuple #[] ∧ At [Lease.BookP p m ss1] _ [Lease.BookP p m ss2] w' ∧ (te ≠ 0 ∧ ss2 = ss1 ∨ te = 0 ∧ Turned ss1 num foot (fun s => s.tell req ⟨le, ln, lg⟩) ss2)) ((htl3.out _ (hA.sep1 (A := Lease.BookP p m ss1) sZ)).mono fun e w' ⟨ss2, he, hT, hq⟩ => ⟨_, he, ss2, rfl, hT, hq⟩) ?_
      rintro u w3 ⟨ss2, rfl, hT, hq⟩
      have hq' := Lib.hid hq
      have hB := hA.call1 (A := Lease.BookP p m ss1) sZ hT
      clear hT hq
      simp only [uA] at hB
      refine andH ⟨hB.ci, hB.ci, hB.ci⟩ fun hS0 => ?_
      clear hA; have hA := hB; clear hB
      try go_frame
      refine wpAnyH_done (by kernel_rfl) ?_ _
      try go_frame
      clear hS0
      have hF := hA.facts; (try simp only [uY] at hA hF)
      go_wp2_with ((with_reducible refine gst ?_); refine wT hA ?_; clear hF hA; intro w1 hA hF; (try simp only [uY] at hA hF))
      refine bodyPost_ret (v := ansV le ln lg) (by simp [results, Tryz.results17, go_sem, hF]) rfl ?_
      rw [hz'.out]
      exact ⟨ss2, b1, (by
       show Ending.returned (ansV le ln lg) = Ending.returned (doT T ⟨kind, num, foot, req, path, mode, n, time⟩).2.val
       rw [hla'.out]
       rfl), by
       show TRel ss2 b1 (opT (doT T ⟨kind, num, foot, req, path, mode, n, time⟩).1 ⟨kind, num, foot, req, path, mode, n, time⟩ (fun s => s.tell req (doT T ⟨kind, num, foot, req, path, mode, n, time⟩).2) (Lease.tellE (lookA (doT T ⟨kind, num, foot, req, path, mode, n, time⟩).1.S num foot) req))
       rw [hla'.out, hte'.out]
       exact op_rel (c := ⟨kind, num, foot, req, path, mode, n, time⟩) hr2'.out hkn2.out (fun s => rfl) hq'.out, (tab_in (ss := ss2) hA sZ sZ sZ).pick pZ⟩
end Go.Proofs.YtpebabaigakagaaGreatDoor.Tab
end
section
namespace Go.Proofs.YtpebabaigakagaaGreatDoor
open Go.RowKit
section
variable {P : Program} {ops : Array Oper} {rest : List Oper} {o : Oper} {a : Act} {Q : Exit → Act → World → Prop} {L0 L F : List Part} {w0 w : World}
theorem wpList_loadRow_at {ty : TypeId} {x : Operand} (hg : o.guard = none) (hop : o.op = .load ty x) {b j : Nat} (hx : a.eval x = .pointer (some ⟨b, j, none⟩)) {vs : List Value} (hr : ∀ (k : Nat) u, vs[k]? = some u → w.cell? ⟨b, j + k, none⟩ = some u)
 (hu : (P.underlying ty).map (·.isRow) = some true) (hi : (P.info? ty).map (·.size) = some vs.length)
 (hK : wpList P ops Q rest (a.put o.dst (.agg vs.toArray)) w) : wpList P ops Q (o :: rest) a w := by
 obtain ⟨d, hu, hd⟩ := Option.map_eq_some_iff.1 hu
 refine wpList_val hg ?_ hK
 simp [execOp, hop, hx, run_loadAt_mid w b j ty vs d (fun k v hk => hr k v hk) hu hd hi, Result.andThen]
end
end Go.Proofs.YtpebabaigakagaaGreatDoor
end
