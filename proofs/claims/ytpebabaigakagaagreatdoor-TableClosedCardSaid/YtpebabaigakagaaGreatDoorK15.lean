/- TabA, joined. -/
import Derived.Test.YtpebabaigakagaaGreatDoorK13
import Derived.Test.YtpebabaigakagaaGreatDoorK14
import Derived.Test.YtpebabaigakagaaGreatDoorK12
import Derived.Test.YtpebabaigakagaaGreatDoorK4
import Derived.Test.YtpebabaigakagaaGreatDoorK8
section
namespace Go.Proofs.YtpebabaigakagaaGreatDoor.Tab
open Go.RowKit
open Path (bl rightB overB aboveB)
open Lease (Ses Ans fresh Turned)
open Lock (S3 Ent)
open Cmd (Cm rightC)
set_option linter.unusedSimpArgs false
set_option linter.unusedVariables false
attribute [-go_sem] run_eql_struct run_neq_struct run_eqGuard_agg

/-- an answer, as a value -/
abbrev ansV (e n : Int) (g : Bool) : Value := .agg #[.int .i64 e, .int .u64 n, .bool g]
theorem refused_any (e : Int) (w : World) : Calls Tryz.prog 39 #[.int .i64 e] w fun r w' => r = .returned (ansV e 0 false) ∧ Ext w w' := by
  have hA : At [] w [] w := At.start (L0 := []) trivial
  (try simp only [uA] at hA); have hF := hA.facts; (try simp only [fA, and_true, true_and] at hF)
  go_enter Tryz.func39, Tryz.ntmps39
  go_wp2_with (first | ((with_reducible refine gal ?_); refine wA 48 (.agg #[.int .i64 0, .int .u64 0, .bool false]) [.int .i64 0, .int .u64 0, .bool false] hA ?_; clear hF hA; intro b2 w1 hA hb2; (try simp only [uA] at hA); have hF := hA.facts; (try simp only [fA, and_true, true_and] at hF)) | ((with_reducible refine gst ?_); refine wS hA ?_; clear hF hA; intro w1 hA; (try simp only [uA] at hA); have hF := hA.facts; (try simp only [fA, and_true, true_and] at hF)) | ((with_reducible refine gbx ?_); refine wB hA ?_; clear hF hA; intro b1 w1 hA hb1; (try simp only [uA] at hA); have hF := hA.facts; (try simp only [fA, and_true, true_and] at hF)))
  exact bodyPost_ret (v := ansV e 0 false) (by simp [results, Tryz.results39, go_sem, hF]) rfl ⟨rfl, hA.toExt⟩
theorem tab_out {L0 L F : List Part} {w0 w : World} {t p m : Nat} {ss : List Ses} {b : Lock.Bk} (h : At L0 w0 L w) (s : Sel (TabP t p m ss b) L F) : At L0 w0 (headT t p b.p :: Lease.BookP p m ss :: Lock.BookP b :: F) w := (h.take s).to (tab_eqv t p m ss b F)
theorem tab_in {L0 L F G H : List Part} {w0 w : World} {t p m : Nat} {ss : List Ses} {b : Lock.Bk} (h : At L0 w0 L w) (s1 : Sel (headT t p b.p) L F) (s2 : Sel (Lease.BookP p m ss) F G) (s3 : Sel (Lock.BookP b) G H) : At L0 w0 (TabP t p m ss b :: H) w :=
  (h.perm (s1.perm.trans ((s2.perm.trans (s3.perm.cons _)).cons _))).to (tab_eqv t p m ss b H).symm
/-- what the walks need to know of a book of locks -/
structure LkOk (b : Lock.Bk) : Prop where
  len : b.es.length ≤ 1000000000
  ctr : ∀ q, 0 ≤ Lock.counter b.first b.cs q
  path : ∀ x ∈ b.es, x.path.size ≤ 1000
  stamp : ∀ x ∈ b.es, x.stamp ≤ 1000000000
  num : ∀ x ∈ b.es, 0 ≤ x.num ∧ x.num < Lock.big64
  foot : ∀ x ∈ b.es, x.foot.size ≤ maxLen
  chk : ∀ p n, (∀ e ∈ b.es, e.path = p → e.n = n → Lock.clearB b.es e = Lock.checkD b.es p n) ∧ ((∀ e ∈ b.es, ¬(e.path = p ∧ e.n = n)) → Lock.checkD b.es p n = false)
theorem LkOk.of {b : Lock.Bk} {k : Nat} (h : Lock.Inv b.st k) (hk : k ≤ 1000000) : LkOk b :=
  ⟨by have := h.len; simp only [Lock.Bk.st] at this; omega, fun q => by have := Lock.counter_ge h q; have := h.first0; simp only [Lock.Bk.st] at *; omega, fun x hx => Nat.le_trans (h.path x hx) (by omega), fun x hx => by have := h.stamp1 x hx; omega, fun x hx => ⟨h.num0 x hx, h.num1 x hx⟩, fun x hx => h.foot x hx, fun p n => ⟨fun e he e1 e2 => by
    obtain ⟨k, hk⟩ := List.mem_iff_getElem?.1 he
    rw [← e1, ← e2]
    exact (Lock.clear_grant (l := b.es) h.order hk).trans (Lock.check_some (l := b.es) h.nums hk).symm, fun q => Lock.check_none q⟩⟩
section
variable {w : World} {t p m : Nat} {ss : List Ses} {b : Lock.Bk} (h : Sep [TabP t p m ss b] w)
include h
theorem sessions_any : Calls Tryz.prog 13 #[.pointer (some ⟨t, 0, none⟩)] w fun e w' => e = .returned (.pointer (some ⟨p, 0, none⟩)) ∧ At [TabP t p m ss b] w [TabP t p m ss b] w' := by
  have hA := tab_begin h
  clear h
  (try simp only [uA] at hA); have hF := hA.facts; (try simp only [fA, and_true, true_and] at hF)
  go_enter Tryz.func13, Tryz.ntmps13
  go_wp2_with (first | ((with_reducible refine gst ?_); refine wS hA ?_; clear hF hA; intro w1 hA; (try simp only [uA] at hA); have hF := hA.facts; (try simp only [fA, and_true, true_and] at hF)) | ((with_reducible refine gbx ?_); refine wB hA ?_; clear hF hA; intro b1 w1 hA hb1; (try simp only [uA] at hA); have hF := hA.facts; (try simp only [fA, and_true, true_and] at hF)))
  go_ret
  exact ⟨rfl, tab_close (hA.pick pZ)⟩
theorem locks_of_any : Calls Tryz.prog 15 #[.pointer (some ⟨t, 0, none⟩)] w fun e w' => e = .returned (.pointer (some ⟨b.p, 0, none⟩)) ∧ At [TabP t p m ss b] w [TabP t p m ss b] w' := by
  have hA := tab_begin h
  clear h
  (try simp only [uA] at hA); have hF := hA.facts; (try simp only [fA, and_true, true_and] at hF)
  go_enter Tryz.func15, Tryz.ntmps15
  go_wp2_with (first | ((with_reducible refine gst ?_); refine wS hA ?_; clear hF hA; intro w1 hA; (try simp only [uA] at hA); have hF := hA.facts; (try simp only [fA, and_true, true_and] at hF)) | ((with_reducible refine gbx ?_); refine wB hA ?_; clear hF hA; intro b1 w1 hA hb1; (try simp only [uA] at hA); have hF := hA.facts; (try simp only [fA, and_true, true_and] at hF)))
  go_ret
  exact ⟨rfl, tab_close (hA.pick pZ)⟩
theorem ended_any (num : Int) (foot : ByteArray) (e : Int) (hok : LkOk b) :
    Calls Tryz.prog 37 #[.pointer (some ⟨t, 0, none⟩), .agg #[.int .u64 num, .string foot], .int .i64 e] w fun r w' => r = .returned (ansV e 0 false) ∧ At [TabP t p m ss b] w [TabP t p m ss (if e = 0 then b.with (b.st.dropAll num foot) else b)] w' := by
  have hm : Tryz.prog.follows .mixedOrders = true := by kernel_rfl
  have hok' := Lib.hid hok
  clear hok
  by_cases he : e = 0
  · subst he
    rw [if_pos rfl]
    have hA := tab_begin h
    clear h
    (try simp only [uA] at hA); have hF := hA.facts; (try simp only [fA, and_true, true_and] at hF)
    go_enter Tryz.func37, Tryz.ntmps37
    go_upto_region 2 with (first | ((with_reducible refine gbx ?_); refine wX 25 (.agg #[.int .u64 num, .string foot]) [.int .u64 num, .string foot] hA ?_; clear hF hA; intro b4 w1 hA hb4; (try simp only [uA] at hA); have hF := hA.facts; (try simp only [fA, and_true, true_and] at hF)) | ((with_reducible refine gal ?_); refine wA 48 (.agg #[.int .i64 0, .int .u64 0, .bool false]) [.int .i64 0, .int .u64 0, .bool false] hA ?_; clear hF hA; intro b6 w1 hA hb6; (try simp only [uA] at hA); have hF := hA.facts; (try simp only [fA, and_true, true_and] at hF)) | ((with_reducible refine gst ?_); refine wS hA ?_; clear hF hA; intro w1 hA; (try simp only [uA] at hA); have hF := hA.facts; (try simp only [fA, and_true, true_and] at hF)) | ((with_reducible refine gbx ?_); refine wB hA ?_; clear hF hA; intro b1 w1 hA hb1; (try simp only [uA] at hA); have hF := hA.facts; (try simp only [fA, and_true, true_and] at hF)))
    try go_frame
    have hB := hA.drew
    clear hF hA; have hA := hB; clear hB
    refine wp_region_held (S := fun w' => BlockIs w' t [.pointer (some ⟨p, 0, none⟩), .pointer (some ⟨b.p, 0, none⟩)] 75 ∧ BlockIs w' b4 [.int .u64 num, .string foot] 25) hm ?_
    change wpAnyH _ _ _ _ _ 6 _ _ (World.drew _)
    generalize World.drew _ = wd at *
    have hS0 := (⟨hA.get (A := Part.cells t [.pointer (some ⟨p, 0, none⟩), .pointer (some ⟨b.p, 0, none⟩)] 75) sZ, hA.get (A := Part.cells b4 [.int .u64 num, .string foot] 25) sZ⟩ : (fun w' => BlockIs w' t [.pointer (some ⟨p, 0, none⟩), .pointer (some ⟨b.p, 0, none⟩)] 75 ∧ BlockIs w' b4 [.int .u64 num, .string foot] 25) wd)
    refine tP 0 9 (.pointer (some ⟨t, 0, none⟩)) (s := hS0) (h := ?_)
    try go_frame
    refine tP 1 10 (.pointer (some ⟨t, 0, none⟩)) (s := hS0) (h := ?_)
    try go_frame
    refine tP 2 11 (.pointer (some ⟨t, 1, none⟩)) (s := hS0) (h := ?_)
    try go_frame
    refine tZ 3 12 (.pointer (some ⟨b.p, 0, none⟩)) (r := (fun w' hS => run_load_one (ty := 43) (b := t) (j := 1) rfl (by exact rfl) hS.1 (by kernel_rfl) rfl)) (s := hS0) (h := ?_)
    try go_frame
    refine tZ 4 13 (.agg #[.int .u64 num, .string foot]) (r := (fun w' hS => run_load_row (ty := 25) (n := 2) (b := b4) (j := 0) rfl (by exact rfl) hS.2 (by kernel_rfl) (by kernel_rfl) rfl rfl)) (s := hS0) (h := ?_)
    try go_frame
    refine wpAnyH_one (i := 5) (by kernel_rfl) ?_
    refine opCall_at (i := 5) (d := some 14) (R := fun u w' => u = .int .i64 (b.es.length - (b.st.dropAll num foot).es.length) ∧ At [Lock.BookP b] _ [Lock.BookP (b.with (b.st.dropAll num foot))] w') rfl rfl (by kernel_rfl) (fn := 64) (args := #[.pointer (some ⟨b.p, 0, none⟩), .agg #[.int .u64 num, .string foot]]) (by simp [execOp, go_sem, Act.eval, Act.put]) ((Lock.drop_any (hA.sep1 (A := Lock.BookP b) sZ) num foot hok'.out.len (fun x hx => ⟨Nat.le_trans (hok'.out.path x hx) (by unfold maxLen; omega), (hok'.out.num x hx).1, (hok'.out.num x hx).2, hok'.out.foot x hx⟩)).mono fun e w' ⟨he, hT⟩ => ⟨_, he, rfl, hT⟩) ?_
    rintro u w3 ⟨rfl, hT⟩
    have hB := hA.call1 (A := Lock.BookP b) sZ hT
    clear hT
    simp only [List.cons_append, List.nil_append] at hB
    have hS0 := (⟨hB.get (A := Part.cells t [.pointer (some ⟨p, 0, none⟩), .pointer (some ⟨b.p, 0, none⟩)] 75) sZ, hB.get (A := Part.cells b4 [.int .u64 num, .string foot] 25) sZ⟩ : (fun w' => BlockIs w' t [.pointer (some ⟨p, 0, none⟩), .pointer (some ⟨b.p, 0, none⟩)] 75 ∧ BlockIs w' b4 [.int .u64 num, .string foot] 25) w3)
    clear hA; have hA := hB; clear hB
    refine ⟨hS0, ?_⟩
    try go_frame
    refine wpAnyH_done (by kernel_rfl) ?_ _
    try go_frame
    clear hS0
    (try simp only [uA] at hA); have hF := hA.facts; (try simp only [fA, and_true, true_and] at hF)
    go_wp2_with (first | ((with_reducible refine gst ?_); refine wS hA ?_; clear hF hA; intro w1 hA; (try simp only [uA] at hA); have hF := hA.facts; (try simp only [fA, and_true, true_and] at hF)) | ((with_reducible refine gbx ?_); refine wB hA ?_; clear hF hA; intro b1 w1 hA hb1; (try simp only [uA] at hA); have hF := hA.facts; (try simp only [fA, and_true, true_and] at hF)))
    refine (refused_any _ _).mono ?_
    rintro e w1 ⟨rfl, hx⟩
    have hB := hA.ext hx
    clear hx
    clear hF hA; have hA := hB; clear hB
    try simp only [List.cons_append, List.nil_append] at hA
    (try simp only [uA] at hA); have hF := hA.facts; (try simp only [fA, and_true, true_and] at hF)
    go_wp2_with (first | ((with_reducible refine gst ?_); refine wS hA ?_; clear hF hA; intro w1 hA; (try simp only [uA] at hA); have hF := hA.facts; (try simp only [fA, and_true, true_and] at hF)) | ((with_reducible refine gbx ?_); refine wB hA ?_; clear hF hA; intro b1 w1 hA hb1; (try simp only [uA] at hA); have hF := hA.facts; (try simp only [fA, and_true, true_and] at hF)))
    exact bodyPost_ret (v := ansV 0 0 false) (by simp [results, Tryz.results37, go_sem, hF]) rfl ⟨rfl, tab_close (b := b.with (b.st.dropAll num foot)) (hA.pick pZ)⟩
  · rw [if_neg he]
    have hA := tab_begin h
    clear h
    (try simp only [uA] at hA); have hF := hA.facts; (try simp only [fA, and_true, true_and] at hF)
    go_enter Tryz.func37, Tryz.ntmps37
    go_wp2_with (first | ((with_reducible refine gbx ?_); refine wX 25 (.agg #[.int .u64 num, .string foot]) [.int .u64 num, .string foot] hA ?_; clear hF hA; intro b4 w1 hA hb4; (try simp only [uA] at hA); have hF := hA.facts; (try simp only [fA, and_true, true_and] at hF)) | ((with_reducible refine gal ?_); refine wA 48 (.agg #[.int .i64 0, .int .u64 0, .bool false]) [.int .i64 0, .int .u64 0, .bool false] hA ?_; clear hF hA; intro b6 w1 hA hb6; (try simp only [uA] at hA); have hF := hA.facts; (try simp only [fA, and_true, true_and] at hF)) | ((with_reducible refine gst ?_); refine wS hA ?_; clear hF hA; intro w1 hA; (try simp only [uA] at hA); have hF := hA.facts; (try simp only [fA, and_true, true_and] at hF)) | ((with_reducible refine gbx ?_); refine wB hA ?_; clear hF hA; intro b1 w1 hA hb1; (try simp only [uA] at hA); have hF := hA.facts; (try simp only [fA, and_true, true_and] at hF)))
    refine (refused_any _ _).mono ?_
    rintro e w1 ⟨rfl, hx⟩
    have hB := hA.ext hx
    clear hx
    clear hF hA; have hA := hB; clear hB
    try simp only [List.cons_append, List.nil_append] at hA
    (try simp only [uA] at hA); have hF := hA.facts; (try simp only [fA, and_true, true_and] at hF)
    go_wp2_with (first | ((with_reducible refine gst ?_); refine wS hA ?_; clear hF hA; intro w1 hA; (try simp only [uA] at hA); have hF := hA.facts; (try simp only [fA, and_true, true_and] at hF)) | ((with_reducible refine gbx ?_); refine wB hA ?_; clear hF hA; intro b1 w1 hA hb1; (try simp only [uA] at hA); have hF := hA.facts; (try simp only [fA, and_true, true_and] at hF)))
    exact bodyPost_ret (v := ansV e 0 false) (by simp [results, Tryz.results37, go_sem, hF]) rfl ⟨rfl, tab_close (hA.pick pZ)⟩
theorem may_any (kind num : Int) (foot : ByteArray) (req : Int) (path : ByteArray) (mode n time : Int) (h0 : 0 ≤ num) (h1 : num < Lease.big64) (hf : foot.size ≤ 1000) (hp : path.size ≤ 1000) :
    Calls Tryz.prog 103 #[.pointer (some ⟨t, 0, none⟩), .agg #[.int .i64 kind, .int .u64 num, .string foot, .int .u64 req, .string path, .int .i64 mode, .int .u64 n, .int .i64 time]] w fun r w' => r = .returned (.int .i64 (if (Lease.look ss num foot).op = false then 50 else if aboveB (bl foot) (bl path) = false then 55 else 0)) ∧ At [TabP t p m ss b] w [TabP t p m ss b] w' := by
  have hm : Tryz.prog.follows .mixedOrders = true := by kernel_rfl
  have hin := fun (w1 : World) (q : Sep [Lease.BookP p m ss] w1) => Lease.info_any q h0 h1 (show foot.size ≤ maxLen by unfold maxLen; omega)
  have hab := fun w1 => Path.above_any foot path w1 (by omega) (by omega)
  obtain ⟨lk, hlk⟩ : ∃ z, Lease.look ss num foot = z := ⟨_, rfl⟩
  obtain ⟨ab, hab2⟩ : ∃ z, aboveB (bl foot) (bl path) = z := ⟨_, rfl⟩
  rw [hlk] at ⊢
  simp only [hlk] at hin
  rw [hab2]
  simp only [hab2] at hab
  clear hlk hab2
  obtain ⟨ln, lf, lo, ld, ldl, lt, ltold, lb, ltm⟩ := lk
  simp only [Lease.Ses.info] at hin
  have hin' := Lib.hid hin
  clear hin
  have hA := tab_begin h
  clear h
  (try simp only [uA] at hA); have hF := hA.facts; (try simp only [fA, and_true, true_and] at hF)
  go_enter Tryz.func103, Tryz.ntmps103
  go_upto_region 1 with (first | ((with_reducible refine gbx ?_); refine wX 29 (.agg #[.int .i64 kind, .int .u64 num, .string foot, .int .u64 req, .string path, .int .i64 mode, .int .u64 n, .int .i64 time]) [.int .i64 kind, .int .u64 num, .string foot, .int .u64 req, .string path, .int .i64 mode, .int .u64 n, .int .i64 time] hA ?_; clear hF hA; intro b3 w1 hA hb3; (try simp only [uA] at hA); have hF := hA.facts; (try simp only [fA, and_true, true_and] at hF)) | ((with_reducible refine gst ?_); refine wS hA ?_; clear hF hA; intro w1 hA; (try simp only [uA] at hA); have hF := hA.facts; (try simp only [fA, and_true, true_and] at hF)) | ((with_reducible refine gbx ?_); refine wB hA ?_; clear hF hA; intro b1 w1 hA hb1; (try simp only [uA] at hA); have hF := hA.facts; (try simp only [fA, and_true, true_and] at hF)))
  try go_frame
  have hB := hA.drew
  clear hF hA; have hA := hB; clear hB
  refine wp_region_held (S := fun w' => BlockIs w' t [.pointer (some ⟨p, 0, none⟩), .pointer (some ⟨b.p, 0, none⟩)] 75 ∧ BlockIs w' b3 [.int .i64 kind, .int .u64 num, .string foot, .int .u64 req, .string path, .int .i64 mode, .int .u64 n, .int .i64 time] 29) hm ?_
  change wpAnyH _ _ _ _ _ 10 _ _ (World.drew _)
  generalize World.drew _ = wd at *
  have hS0 := (⟨hA.get (A := Part.cells t [.pointer (some ⟨p, 0, none⟩), .pointer (some ⟨b.p, 0, none⟩)] 75) sZ, hA.get (A := Part.cells b3 [.int .i64 kind, .int .u64 num, .string foot, .int .u64 req, .string path, .int .i64 mode, .int .u64 n, .int .i64 time] 29) sZ⟩ : (fun w' => BlockIs w' t [.pointer (some ⟨p, 0, none⟩), .pointer (some ⟨b.p, 0, none⟩)] 75 ∧ BlockIs w' b3 [.int .i64 kind, .int .u64 num, .string foot, .int .u64 req, .string path, .int .i64 mode, .int .u64 n, .int .i64 time] 29) wd)
  refine tP 0 6 (.pointer (some ⟨t, 0, none⟩)) (s := hS0) (h := ?_)
  try go_frame
  refine tP 1 7 (.pointer (some ⟨t, 0, none⟩)) (s := hS0) (h := ?_)
  try go_frame
  refine tP 2 8 (.pointer (some ⟨t, 0, none⟩)) (s := hS0) (h := ?_)
  try go_frame
  refine tZ 3 9 (.pointer (some ⟨p, 0, none⟩)) (r := (fun w' hS => run_load_one (ty := 39) (b := t) (j := 0) rfl (by exact rfl) hS.1 (by kernel_rfl) rfl)) (s := hS0) (h := ?_)
  try go_frame
  refine tP 4 10 (.pointer (some ⟨b3, 1, none⟩)) (s := hS0) (h := ?_)
  try go_frame
  refine tZ 5 11 (.agg #[.int .u64 num, .string foot]) (r := (fun w' hS => run_load_row (ty := 25) (n := 2) (b := b3) (j := 1) rfl (by exact rfl) hS.2 (by kernel_rfl) (by kernel_rfl) rfl rfl)) (s := hS0) (h := ?_)
  try go_frame
  refine wpAnyH_one (i := 6) (by kernel_rfl) ?_
  refine opCall_at (i := 6) (d := some 12) (R := fun u w' => u = .agg #[.bool lo, .bool ld, .int .i64 ldl, .int .i64 lt, .int .i64 ltold.length] ∧ At [Lease.BookP p m ss] _ [Lease.BookP p m ss] w') rfl rfl (by kernel_rfl) (fn := 14) (args := #[.pointer (some ⟨p, 0, none⟩), .agg #[.int .u64 num, .string foot]]) (by simp [execOp, go_sem, Act.eval, Act.put]) ((hin'.out _ (hA.sep1 (A := Lease.BookP p m ss) sZ)).mono fun e w' ⟨he, hT⟩ => ⟨_, he, rfl, hT⟩) ?_
  rintro u w3 ⟨rfl, hT⟩
  have hB := hA.call1 (A := Lease.BookP p m ss) sZ hT
  clear hT
  simp only [List.cons_append, List.nil_append] at hB
  have hS0 := (⟨hB.get (A := Part.cells t [.pointer (some ⟨p, 0, none⟩), .pointer (some ⟨b.p, 0, none⟩)] 75) sZ, hB.get (A := Part.cells b3 [.int .i64 kind, .int .u64 num, .string foot, .int .u64 req, .string path, .int .i64 mode, .int .u64 n, .int .i64 time] 29) sZ⟩ : (fun w' => BlockIs w' t [.pointer (some ⟨p, 0, none⟩), .pointer (some ⟨b.p, 0, none⟩)] 75 ∧ BlockIs w' b3 [.int .i64 kind, .int .u64 num, .string foot, .int .u64 req, .string path, .int .i64 mode, .int .u64 n, .int .i64 time] 29) w3)
  clear hA; have hA := hB; clear hB
  refine ⟨hS0, ?_⟩
  try go_frame
  refine tP 7 13 (.bool lo) (s := hS0) (h := ?_)
  try go_frame
  refine tP 8 14 (.bool (!lo)) (s := hS0) (h := ?_)
  try go_frame
  refine tP 9 5 (.bool (!lo)) (s := hS0) (h := ?_)
  try go_frame
  refine wpAnyH_done (by kernel_rfl) ?_ _
  try go_frame
  clear hS0
  (try simp only [uA] at hA); have hF := hA.facts; (try simp only [fA, and_true, true_and] at hF)
  cases lo
  · go_wp2_with (first | ((with_reducible refine gst ?_); refine wS hA ?_; clear hF hA; intro w1 hA; (try simp only [uA] at hA); have hF := hA.facts; (try simp only [fA, and_true, true_and] at hF)) | ((with_reducible refine gbx ?_); refine wB hA ?_; clear hF hA; intro b1 w1 hA hb1; (try simp only [uA] at hA); have hF := hA.facts; (try simp only [fA, and_true, true_and] at hF)))
    go_ret
    exact ⟨rfl, tab_close (hA.pick pZ)⟩
  · go_wp2_with (first | ((with_reducible refine gst ?_); refine wS hA ?_; clear hF hA; intro w1 hA; (try simp only [uA] at hA); have hF := hA.facts; (try simp only [fA, and_true, true_and] at hF)) | ((with_reducible refine gbx ?_); refine wB hA ?_; clear hF hA; intro b1 w1 hA hb1; (try simp only [uA] at hA); have hF := hA.facts; (try simp only [fA, and_true, true_and] at hF)))
    refine (hab _).mono ?_
    rintro e w1 ⟨rfl, hx⟩
    have hB := hA.ext hx
    clear hx
    clear hF hA; have hA := hB; clear hB
    try simp only [List.cons_append, List.nil_append] at hA
    (try simp only [uA] at hA); have hF := hA.facts; (try simp only [fA, and_true, true_and] at hF)
    cases ab
    · go_wp2_with (first | ((with_reducible refine gst ?_); refine wS hA ?_; clear hF hA; intro w1 hA; (try simp only [uA] at hA); have hF := hA.facts; (try simp only [fA, and_true, true_and] at hF)) | ((with_reducible refine gbx ?_); refine wB hA ?_; clear hF hA; intro b1 w1 hA hb1; (try simp only [uA] at hA); have hF := hA.facts; (try simp only [fA, and_true, true_and] at hF)))
      go_ret
      exact ⟨rfl, tab_close (hA.pick pZ)⟩
    · go_wp2_with (first | ((with_reducible refine gst ?_); refine wS hA ?_; clear hF hA; intro w1 hA; (try simp only [uA] at hA); have hF := hA.facts; (try simp only [fA, and_true, true_and] at hF)) | ((with_reducible refine gbx ?_); refine wB hA ?_; clear hF hA; intro b1 w1 hA hb1; (try simp only [uA] at hA); have hF := hA.facts; (try simp only [fA, and_true, true_and] at hF)))
      go_ret
      exact ⟨rfl, tab_close (hA.pick pZ)⟩
end
end Go.Proofs.YtpebabaigakagaaGreatDoor.Tab
end
