/- IpE, joined. -/
import Derived.Test.YtgbpfgdjnhbcgaaGreatDoorQ19
set_option linter.unusedSimpArgs false
set_option linter.unusedVariables false
set_option maxRecDepth 100000
set_option maxHeartbeats 16000000
section
namespace Go.Proofs.YtgbpfgdjnhbcgaaGreatDoor.Ix
open Go.RowKit
open Go.Maps (Keyed)
open Path (bl rightB overB)
open Attr (A8 rightI)
open Cmd (Cm keyC footC through0 attrR_any)
attribute [-go_sem] run_eql_struct run_neq_struct run_eqGuard_agg
def StepQ (w : World) (p m : Nat) (es es' : List En) (v : Value) (l l' : List En) (e : Ending) (w' : World) : Prop := ∃ v', e = .returned (.tuple #[v', .bool true]) ∧ At [IxP p m es, rowN v l] w [IxP p m es', rowN v' l'] w'
def addL (l : List En) (f : ByteArray) (n : Int) (a : A8) : List En := if (rightB (bl f) && a.right) = true then l ++ [⟨f, n, a⟩] else l
theorem stq1 {w : World} {p m : Nat} {es : List En} {lx : Option Addr} {lc : Nat} {l : List En} (h : Sep [IxP p m es, rowN (.slice lx l.length lc) l] w) (hl : l.length ≤ 1000000) (kind num : Int) (foot : ByteArray) (req : Int) (path : ByteArray) (mode n time r t q : Int) (ef : ByteArray) (en e0 e1 e2 e3 e4 e5 e6 e7 : Int) (hf : foot.size ≤ 1000) (hp : path.size ≤ 1000) (h0 : 0 ≤ num) (h1 : num < big64) :
 Calls Tryz.prog 9 #[.pointer (some ⟨p, 0, none⟩), .slice lx l.length lc, .agg #[.int .i64 1, .int .i64 kind, .int .u64 num, .string foot, .int .u64 req, .string path, .int .i64 mode, .int .u64 n, .int .i64 time, .int .i64 r, .int .i64 t, .int .i64 q, .string ef, .int .u64 en, .int .i64 e0, .int .i64 e1, .int .i64 e2, .int .i64 e3, .int .i64 e4, .int .i64 e5, .int .i64 e6, .int .i64 e7]] w (StepQ w p m es (noteE es (keyC ⟨kind, num, foot, req, path, mode, n, time⟩) r t q) (.slice lx l.length lc) l (noteL l (keyC ⟨kind, num, foot, req, path, mode, n, time⟩) r t q)) := by
 have hA := At.start h
 have hF := hA.facts
 clear h
 have hF := hA.facts; (try simp only [uZ] at hA hF)
 go_enter Tryz.func9, Tryz.ntmps9
 go_wp2_with (first | ((with_reducible refine gbx ?_); refine wH 44 [.int .i64 1, .int .i64 kind, .int .u64 num, .string foot, .int .u64 req, .string path, .int .i64 mode, .int .u64 n, .int .i64 time, .int .i64 r, .int .i64 t, .int .i64 q, .string ef, .int .u64 en, .int .i64 e0, .int .i64 e1, .int .i64 e2, .int .i64 e3, .int .i64 e4, .int .i64 e5, .int .i64 e6, .int .i64 e7] hA ?_; clear hF hA; intro b5 w1 hA hb5 hF; (try simp only [uZ] at hA hF)) | ((with_reducible refine gst ?_); refine wT hA ?_; clear hF hA; intro w1 hA hF; (try simp only [uZ] at hA hF)) | ((with_reducible refine gbx ?_); refine wC hA ?_; clear hF hA; intro b1 w1 hA hb1 hF; (try simp only [uZ] at hA hF)))
 refine (note_any (hA.sep1 (A := IxP p m es) sR) ⟨kind, num, foot, req, path, mode, n, time⟩ hf hp h0 h1 r t q).mono ?_
 rintro e w1 ⟨rfl, hT⟩; have hB := hA.call1 sR hT; clear hF hA hT; have hA := hB; clear hB; have hF := hA.facts; (try simp only [uZ] at hA hF)
 go_wp2_with (first | ((with_reducible refine gst ?_); refine wT hA ?_; clear hF hA; intro w1 hA hF; (try simp only [uZ] at hA hF)) | ((with_reducible refine gbx ?_); refine wC hA ?_; clear hF hA; intro b1 w1 hA hb1 hF; (try simp only [uZ] at hA hF)))
 try go_frame
 have hm : Tryz.prog.follows .mixedOrders = true := by kernel_rfl
 have hAd := hA.drew
 clear hF hA
 have hA := hAd
 clear hAd
 refine wp_region_held (S := fun w' => BlockIs w' b5 [.int .i64 1, .int .i64 kind, .int .u64 num, .string foot, .int .u64 req, .string path, .int .i64 mode, .int .u64 n, .int .i64 time, .int .i64 r, .int .i64 t, .int .i64 q, .string ef, .int .u64 en, .int .i64 e0, .int .i64 e1, .int .i64 e2, .int .i64 e3, .int .i64 e4, .int .i64 e5, .int .i64 e6, .int .i64 e7] 44) hm ?_
 change wpAnyH _ _ _ _ _ 11 _ _ (World.drew _)
 generalize World.drew _ = w2 at *
 have hS0 := (show BlockIs _ b5 [.int .i64 1, .int .i64 kind, .int .u64 num, .string foot, .int .u64 req, .string path, .int .i64 mode, .int .u64 n, .int .i64 time, .int .i64 r, .int .i64 t, .int .i64 q, .string ef, .int .u64 en, .int .i64 e0, .int .i64 e1, .int .i64 e2, .int .i64 e3, .int .i64 e4, .int .i64 e5, .int .i64 e6, .int .i64 e7] 44 from hA.get (A := .cells b5 [.int .i64 1, .int .i64 kind, .int .u64 num, .string foot, .int .u64 req, .string path, .int .i64 mode, .int .u64 n, .int .i64 time, .int .i64 r, .int .i64 t, .int .i64 q, .string ef, .int .u64 en, .int .i64 e0, .int .i64 e1, .int .i64 e2, .int .i64 e3, .int .i64 e4, .int .i64 e5, .int .i64 e6, .int .i64 e7] 44) sR)
 refine tZ 0 23 (.slice lx l.length lc) (r := (fun w' hS => by simp [execOp, go_sem, Act.eval, Act.put])) (s := hS0) (h := ?_)
 go_frame
 refine tZ 1 24 ((.pointer (some ⟨b5, 1, none⟩))) (r := (fun w' hS => by kernel_rfl)) (s := hS0) (h := ?_)
 go_frame
 refine tZ 2 25 ((.agg #[.int .i64 kind, .int .u64 num, .string foot, .int .u64 req, .string path, .int .i64 mode, .int .u64 n, .int .i64 time])) (r := (fun w' hS => run_load_row (ty := 27) (n := 8) rfl (by exact rfl) hS (by kernel_rfl) (by kernel_rfl) rfl rfl)) (s := hS0) (h := ?_)
 go_frame
 refine tZ 4 27 ((.pointer (some ⟨b5, 9, none⟩))) (r := (fun w' hS => by kernel_rfl)) (s := hS0) (h := ?_)
 go_frame
 refine tZ 5 28 ((.agg #[.int .i64 r, .int .i64 t])) (r := (fun w' hS => run_load_row (ty := 29) (n := 2) rfl (by exact rfl) hS (by kernel_rfl) (by kernel_rfl) rfl rfl)) (s := hS0) (h := ?_)
 go_frame
 refine tZ 6 29 ((.pointer (some ⟨b5, 11, none⟩))) (r := (fun w' hS => by kernel_rfl)) (s := hS0) (h := ?_)
 go_frame
 refine tZ 7 30 ((.int .i64 q)) (r := (fun w' hS => run_load_one (b := b5) (j := 11) rfl (by exact rfl) hS (by kernel_rfl) rfl)) (s := hS0) (h := ?_)
 go_frame
 clear hS0
 refine wpAnyH_one (i := 3) (by kernel_rfl) ?_
 refine opCall_at (i := 3) (d := some 26) rfl rfl rfl (fn := 15) (args := #[.agg #[.int .i64 kind, .int .u64 num, .string foot, .int .u64 req, .string path, .int .i64 mode, .int .u64 n, .int .i64 time]]) (by simp [execOp, go_sem, Act.eval, Act.put]) ((of12_any ⟨kind, num, foot, req, path, mode, n, time⟩ w2).mono (fun e w' h => ret_eq h)) ?_
 rintro xq zq ⟨rfl, hx⟩
 have hB := hA.ext hx
 clear hA; have hA := hB; clear hB
 try simp only [List.cons_append, List.nil_append, Nat.zero_add, List.append_nil] at hA
 clear hx
 refine ⟨(show BlockIs _ b5 [.int .i64 1, .int .i64 kind, .int .u64 num, .string foot, .int .u64 req, .string path, .int .i64 mode, .int .u64 n, .int .i64 time, .int .i64 r, .int .i64 t, .int .i64 q, .string ef, .int .u64 en, .int .i64 e0, .int .i64 e1, .int .i64 e2, .int .i64 e3, .int .i64 e4, .int .i64 e5, .int .i64 e6, .int .i64 e7] 44 from hA.get (A := .cells b5 [.int .i64 1, .int .i64 kind, .int .u64 num, .string foot, .int .u64 req, .string path, .int .i64 mode, .int .u64 n, .int .i64 time, .int .i64 r, .int .i64 t, .int .i64 q, .string ef, .int .u64 en, .int .i64 e0, .int .i64 e1, .int .i64 e2, .int .i64 e3, .int .i64 e4, .int .i64 e5, .int .i64 e6, .int .i64 e7] 44) sR), ?_⟩
 simp only [Cm.val]
 go_frame
 refine wpAnyH_one (i := 8) (by kernel_rfl) ?_
 refine opCall_at (i := 8) (d := some 31) (R := fun u w' => At [rowN (.slice lx l.length lc) l] zq [rowN u (noteL l (keyC ⟨kind, num, foot, req, path, mode, n, time⟩) r t q)] w') rfl rfl rfl (fn := 23) (args := #[.slice lx l.length lc, .agg #[.int .i64 kind, .int .u64 num, .string foot, .int .u64 req, .string path, .int .i64 mode, .int .u64 n, .int .i64 time], .agg #[.int .i64 r, .int .i64 t], .int .i64 q]) (by simp [execOp, go_sem, Act.eval, Act.put]) (noteR_any (hA.sep1 (A := rowN (.slice lx l.length lc) l) sZ) ⟨kind, num, foot, req, path, mode, n, time⟩ hf hp r t q hl) ?_
 intro v31 yq hT
 have hB := hA.call1 (A := rowN (.slice lx l.length lc) l) sZ hT
 clear hA; have hA := hB; clear hB
 try simp only [List.cons_append, List.nil_append, Nat.zero_add, List.append_nil] at hA
 clear hT
 refine ⟨(show BlockIs _ b5 [.int .i64 1, .int .i64 kind, .int .u64 num, .string foot, .int .u64 req, .string path, .int .i64 mode, .int .u64 n, .int .i64 time, .int .i64 r, .int .i64 t, .int .i64 q, .string ef, .int .u64 en, .int .i64 e0, .int .i64 e1, .int .i64 e2, .int .i64 e3, .int .i64 e4, .int .i64 e5, .int .i64 e6, .int .i64 e7] 44 from hA.get (A := .cells b5 [.int .i64 1, .int .i64 kind, .int .u64 num, .string foot, .int .u64 req, .string path, .int .i64 mode, .int .u64 n, .int .i64 time, .int .i64 r, .int .i64 t, .int .i64 q, .string ef, .int .u64 en, .int .i64 e0, .int .i64 e1, .int .i64 e2, .int .i64 e3, .int .i64 e4, .int .i64 e5, .int .i64 e6, .int .i64 e7] 44) sR), ?_⟩
 go_frame
 have hS0 := (show BlockIs _ b5 [.int .i64 1, .int .i64 kind, .int .u64 num, .string foot, .int .u64 req, .string path, .int .i64 mode, .int .u64 n, .int .i64 time, .int .i64 r, .int .i64 t, .int .i64 q, .string ef, .int .u64 en, .int .i64 e0, .int .i64 e1, .int .i64 e2, .int .i64 e3, .int .i64 e4, .int .i64 e5, .int .i64 e6, .int .i64 e7] 44 from hA.get (A := .cells b5 [.int .i64 1, .int .i64 kind, .int .u64 num, .string foot, .int .u64 req, .string path, .int .i64 mode, .int .u64 n, .int .i64 time, .int .i64 r, .int .i64 t, .int .i64 q, .string ef, .int .u64 en, .int .i64 e0, .int .i64 e1, .int .i64 e2, .int .i64 e3, .int .i64 e4, .int .i64 e5, .int .i64 e6, .int .i64 e7] 44) sR)
 refine tZ 9 6 (v31) (r := (fun w' hS => by simp [execOp, go_sem, Act.eval, Act.put])) (s := hS0) (h := ?_)
 go_frame
 refine tZ 10 7 ((.bool true)) (r := (fun w' hS => by simp [execOp, go_sem, Act.eval, Act.put])) (s := hS0) (h := ?_)
 go_frame
 refine wpAnyH_done (by kernel_rfl) ?_ _
 try go_frame
 have hF := hA.facts; (try simp only [uZ] at hA hF)
 go_wp2_with (first | ((with_reducible refine gst ?_); refine wT hA ?_; clear hF hA; intro w1 hA hF; (try simp only [uZ] at hA hF)) | ((with_reducible refine gbx ?_); refine wC hA ?_; clear hF hA; intro b1 w1 hA hb1 hF; (try simp only [uZ] at hA hF)))
 refine bodyPost_ret (v := .tuple #[v31, .bool true]) (by simp [results, Tryz.results9, go_sem]) rfl ⟨_, rfl, hA.pick pZ⟩
theorem stq0 {w : World} {p m : Nat} {es : List En} {lx : Option Addr} {lc : Nat} {l : List En} (h : Sep [IxP p m es, rowN (.slice lx l.length lc) l] w) (hl : l.length ≤ 1000000) (kd : Int) (h1 : kd ≠ 1) (h2 : kd ≠ 2) (kind num : Int) (foot : ByteArray) (req : Int) (path : ByteArray) (mode n time r t q : Int) (ef : ByteArray) (en e0 e1 e2 e3 e4 e5 e6 e7 : Int) :
 Calls Tryz.prog 9 #[.pointer (some ⟨p, 0, none⟩), .slice lx l.length lc, .agg #[.int .i64 kd, .int .i64 kind, .int .u64 num, .string foot, .int .u64 req, .string path, .int .i64 mode, .int .u64 n, .int .i64 time, .int .i64 r, .int .i64 t, .int .i64 q, .string ef, .int .u64 en, .int .i64 e0, .int .i64 e1, .int .i64 e2, .int .i64 e3, .int .i64 e4, .int .i64 e5, .int .i64 e6, .int .i64 e7]] w (StepQ w p m es (es) (.slice lx l.length lc) l (l)) := by
 have hA := At.start h
 have hF := hA.facts
 clear h
 have e1 : (kd == 1) = false := by simpa using h1
 have e2 : (kd == 2) = false := by simpa using h2
 clear h1 h2
 have hF := hA.facts; (try simp only [uZ] at hA hF)
 go_enter Tryz.func9, Tryz.ntmps9
 go_wp2_with (first | ((with_reducible refine gbx ?_); refine wH 44 [.int .i64 kd, .int .i64 kind, .int .u64 num, .string foot, .int .u64 req, .string path, .int .i64 mode, .int .u64 n, .int .i64 time, .int .i64 r, .int .i64 t, .int .i64 q, .string ef, .int .u64 en, .int .i64 e0, .int .i64 e1, .int .i64 e2, .int .i64 e3, .int .i64 e4, .int .i64 e5, .int .i64 e6, .int .i64 e7] hA ?_; clear hF hA; intro b5 w1 hA hb5 hF; (try simp only [uZ] at hA hF)) | ((with_reducible refine gst ?_); refine wT hA ?_; clear hF hA; intro w1 hA hF; (try simp only [uZ] at hA hF)) | ((with_reducible refine gbx ?_); refine wC hA ?_; clear hF hA; intro b1 w1 hA hb1 hF; (try simp only [uZ] at hA hF)))
 refine bodyPost_ret (v := .tuple #[.slice lx l.length lc, .bool true]) (by simp [results, Tryz.results9, go_sem]) rfl ⟨_, rfl, hA.pick pZ⟩
theorem stq2 {w : World} {p m : Nat} {es : List En} {lx : Option Addr} {lc : Nat} {l : List En} (h : Sep [IxP p m es, rowN (.slice lx l.length lc) l] w) (hl : l.length ≤ 1000000) (kind num : Int) (foot : ByteArray) (req : Int) (path : ByteArray) (mode n time r t q : Int) (ef : ByteArray) (en e0 e1 e2 e3 e4 e5 e6 e7 : Int) (hef : ef.size ≤ 1000) (h0 : 0 ≤ en) (h1 : en < big64) :
 Calls Tryz.prog 9 #[.pointer (some ⟨p, 0, none⟩), .slice lx l.length lc, .agg #[.int .i64 2, .int .i64 kind, .int .u64 num, .string foot, .int .u64 req, .string path, .int .i64 mode, .int .u64 n, .int .i64 time, .int .i64 r, .int .i64 t, .int .i64 q, .string ef, .int .u64 en, .int .i64 e0, .int .i64 e1, .int .i64 e2, .int .i64 e3, .int .i64 e4, .int .i64 e5, .int .i64 e6, .int .i64 e7]] w (StepQ w p m es (addE es ef en ⟨e0, e1, e2, e3, e4, e5, e6, e7⟩) (.slice lx l.length lc) l (addL l ef en ⟨e0, e1, e2, e3, e4, e5, e6, e7⟩)) := by
 obtain ⟨i0, hi0, hz0, hz1, hz2⟩ := info_parts infoN
 have hA := At.start h
 have hF := hA.facts
 clear h
 have hadd := fun (w1 : World) (q : Sep [IxP p m es] w1) => add_any q ⟨ef, en, ⟨e0, e1, e2, e3, e4, e5, e6, e7⟩⟩ hef h0 h1
 have hpr := fun w => Path.rightR_any ef w (by omega)
 have har := fun w => attrR_any ⟨e0, e1, e2, e3, e4, e5, e6, e7⟩ w
 simp only [En.val, En.ok, A8.val] at hadd har
 obtain ⟨rf, hrf⟩ : ∃ x, rightB (bl ef) = x := ⟨_, rfl⟩
 obtain ⟨ar, har0⟩ : ∃ x, A8.right ⟨e0, e1, e2, e3, e4, e5, e6, e7⟩ = x := ⟨_, rfl⟩
 rw [hrf] at hpr
 rw [har0] at har
 simp only [hrf, har0] at hadd
 have hla : addL l ef en ⟨e0, e1, e2, e3, e4, e5, e6, e7⟩ = if (rf && ar) = true then l ++ [⟨ef, en, ⟨e0, e1, e2, e3, e4, e5, e6, e7⟩⟩] else l := by unfold addL; rw [hrf, har0]
 rw [hla]
 clear hla hrf har0
 generalize addE es ef en ⟨e0, e1, e2, e3, e4, e5, e6, e7⟩ = es' at *
 have hF := hA.facts; (try simp only [uZ] at hA hF)
 cases rf
 · simp only [Bool.false_and, Bool.false_eq_true, if_false] at hadd ⊢
   go_enter Tryz.func9, Tryz.ntmps9
   go_wp2_with (first | ((with_reducible refine gbx ?_); refine wH 44 [.int .i64 2, .int .i64 kind, .int .u64 num, .string foot, .int .u64 req, .string path, .int .i64 mode, .int .u64 n, .int .i64 time, .int .i64 r, .int .i64 t, .int .i64 q, .string ef, .int .u64 en, .int .i64 e0, .int .i64 e1, .int .i64 e2, .int .i64 e3, .int .i64 e4, .int .i64 e5, .int .i64 e6, .int .i64 e7] hA ?_; clear hF hA; intro b5 w1 hA hb5 hF; (try simp only [uZ] at hA hF)) | ((with_reducible refine gst ?_); refine wT hA ?_; clear hF hA; intro w1 hA hF; (try simp only [uZ] at hA hF)) | ((with_reducible refine gbx ?_); refine wC hA ?_; clear hF hA; intro b1 w1 hA hb1 hF; (try simp only [uZ] at hA hF)))
   refine (hadd _ (hA.sep1 (A := IxP p m es) sR)).mono ?_
   clear hadd
   rintro e w1 ⟨rfl, hT⟩; have hB := hA.call1 sR hT; clear hF hA hT; have hA := hB; clear hB; have hF := hA.facts; (try simp only [uZ] at hA hF)
   go_wp2_with (first | ((with_reducible refine gst ?_); refine wT hA ?_; clear hF hA; intro w1 hA hF; (try simp only [uZ] at hA hF)) | ((with_reducible refine gbx ?_); refine wC hA ?_; clear hF hA; intro b1 w1 hA hb1 hF; (try simp only [uZ] at hA hF)))
   try go_frame
   have hm : Tryz.prog.follows .mixedOrders = true := by kernel_rfl
   have hAd := hA.drew
   clear hF hA
   have hA := hAd
   clear hAd
   refine wp_region_held (S := fun w' => BlockIs w' b5 [.int .i64 2, .int .i64 kind, .int .u64 num, .string foot, .int .u64 req, .string path, .int .i64 mode, .int .u64 n, .int .i64 time, .int .i64 r, .int .i64 t, .int .i64 q, .string ef, .int .u64 en, .int .i64 e0, .int .i64 e1, .int .i64 e2, .int .i64 e3, .int .i64 e4, .int .i64 e5, .int .i64 e6, .int .i64 e7] 44) hm ?_
   change wpAnyH _ _ _ _ _ 10 _ _ (World.drew _)
   generalize World.drew _ = w2 at *
   have hS0 := (show BlockIs _ b5 [.int .i64 2, .int .i64 kind, .int .u64 num, .string foot, .int .u64 req, .string path, .int .i64 mode, .int .u64 n, .int .i64 time, .int .i64 r, .int .i64 t, .int .i64 q, .string ef, .int .u64 en, .int .i64 e0, .int .i64 e1, .int .i64 e2, .int .i64 e3, .int .i64 e4, .int .i64 e5, .int .i64 e6, .int .i64 e7] 44 from hA.get (A := .cells b5 [.int .i64 2, .int .i64 kind, .int .u64 num, .string foot, .int .u64 req, .string path, .int .i64 mode, .int .u64 n, .int .i64 time, .int .i64 r, .int .i64 t, .int .i64 q, .string ef, .int .u64 en, .int .i64 e0, .int .i64 e1, .int .i64 e2, .int .i64 e3, .int .i64 e4, .int .i64 e5, .int .i64 e6, .int .i64 e7] 44) sR)
   refine tZ 0 38 ((.pointer (some ⟨b5, 12, none⟩))) (r := (fun w' hS => by kernel_rfl)) (s := hS0) (h := ?_)
   go_frame
   refine tZ 1 39 ((.pointer (some ⟨b5, 12, none⟩))) (r := (fun w' hS => by kernel_rfl)) (s := hS0) (h := ?_)
   go_frame
   refine tZ 2 40 ((.agg #[.string ef, .int .u64 en])) (r := (fun w' hS => run_load_row (ty := 37) (n := 2) rfl (by exact rfl) hS (by kernel_rfl) (by kernel_rfl) rfl rfl)) (s := hS0) (h := ?_)
   go_frame
   refine tZ 3 41 ((.pointer (some ⟨b5, 12, none⟩))) (r := (fun w' hS => by kernel_rfl)) (s := hS0) (h := ?_)
   go_frame
   refine tZ 4 42 ((.pointer (some ⟨b5, 14, none⟩))) (r := (fun w' hS => by kernel_rfl)) (s := hS0) (h := ?_)
   go_frame
   refine tZ 5 43 ((.agg #[.int .i64 e0, .int .i64 e1, .int .i64 e2, .int .i64 e3, .int .i64 e4, .int .i64 e5, .int .i64 e6, .int .i64 e7])) (r := (fun w' hS => run_load_row (ty := 40) (n := 8) rfl (by exact rfl) hS (by kernel_rfl) (by kernel_rfl) rfl rfl)) (s := hS0) (h := ?_)
   go_frame
   clear hS0
   refine wpAnyH_two (i := 6) (j := 7) (by kernel_rfl) ?_ ?_
   · skip
     refine opAlloc_at (i := 6) (d := some 9) rfl rfl rfl (E := 37) rfl (z := .agg #[.string .empty, .int .u64 0]) (vs := [.string .empty, .int .u64 0]) (by kernel_rfl) (by first | exact rfl | kernel_rfl) hA ?_
     intro bK z6 hB
     clear hA; have hA := hB; clear hB
     refine ⟨(show BlockIs _ b5 [.int .i64 2, .int .i64 kind, .int .u64 num, .string foot, .int .u64 req, .string path, .int .i64 mode, .int .u64 n, .int .i64 time, .int .i64 r, .int .i64 t, .int .i64 q, .string ef, .int .u64 en, .int .i64 e0, .int .i64 e1, .int .i64 e2, .int .i64 e3, .int .i64 e4, .int .i64 e5, .int .i64 e6, .int .i64 e7] 44 from hA.get (A := .cells b5 [.int .i64 2, .int .i64 kind, .int .u64 num, .string foot, .int .u64 req, .string path, .int .i64 mode, .int .u64 n, .int .i64 time, .int .i64 r, .int .i64 t, .int .i64 q, .string ef, .int .u64 en, .int .i64 e0, .int .i64 e1, .int .i64 e2, .int .i64 e3, .int .i64 e4, .int .i64 e5, .int .i64 e6, .int .i64 e7] 44) sR), ?_⟩
     go_frame
     refine wpAnyH_one (i := 7) (by kernel_rfl) ?_
     refine opAlloc_at (i := 7) (d := some 10) rfl rfl rfl (E := 51) rfl (z := .agg #[.int .i64 0, .int .i64 0, .int .i64 0, .int .i64 0, .int .i64 0, .int .i64 0, .int .i64 0, .int .i64 0]) (vs := [.int .i64 0, .int .i64 0, .int .i64 0, .int .i64 0, .int .i64 0, .int .i64 0, .int .i64 0, .int .i64 0]) (by kernel_rfl) (by first | exact rfl | kernel_rfl) hA ?_
     intro bA z7 hB
     clear hA; have hA := hB; clear hB
     refine ⟨(show BlockIs _ b5 [.int .i64 2, .int .i64 kind, .int .u64 num, .string foot, .int .u64 req, .string path, .int .i64 mode, .int .u64 n, .int .i64 time, .int .i64 r, .int .i64 t, .int .i64 q, .string ef, .int .u64 en, .int .i64 e0, .int .i64 e1, .int .i64 e2, .int .i64 e3, .int .i64 e4, .int .i64 e5, .int .i64 e6, .int .i64 e7] 44 from hA.get (A := .cells b5 [.int .i64 2, .int .i64 kind, .int .u64 num, .string foot, .int .u64 req, .string path, .int .i64 mode, .int .u64 n, .int .i64 time, .int .i64 r, .int .i64 t, .int .i64 q, .string ef, .int .u64 en, .int .i64 e0, .int .i64 e1, .int .i64 e2, .int .i64 e3, .int .i64 e4, .int .i64 e5, .int .i64 e6, .int .i64 e7] 44) sR), ?_⟩
     go_frame
     refine wpAnyH_one (i := 8) (by kernel_rfl) ?_
     refine opStore_at (i := 8) (x := .tmp 9) (y := .tmp 40) (ty := 37) (b := bK) (j := 0) (v := .agg #[.string ef, .int .u64 en]) (vs := [.string ef, .int .u64 en]) rfl rfl rfl rfl (by (try simp only [Act.eval, eV]) <;> exact rfl) (by (try simp only [Act.eval, eV]) <;> exact rfl) (by first | exact rfl | kernel_rfl) hA (c := [.string .empty, .int .u64 0]) sR (by kernel_rfl) (by simp [Value.oneCell']) (by simp) ?_
     intro y8 hB
     clear hA; have hA := hB; clear hB
     simp only [setL, List.set_cons_zero, List.set_cons_succ] at hA
     refine ⟨(show BlockIs _ b5 [.int .i64 2, .int .i64 kind, .int .u64 num, .string foot, .int .u64 req, .string path, .int .i64 mode, .int .u64 n, .int .i64 time, .int .i64 r, .int .i64 t, .int .i64 q, .string ef, .int .u64 en, .int .i64 e0, .int .i64 e1, .int .i64 e2, .int .i64 e3, .int .i64 e4, .int .i64 e5, .int .i64 e6, .int .i64 e7] 44 from hA.get (A := .cells b5 [.int .i64 2, .int .i64 kind, .int .u64 num, .string foot, .int .u64 req, .string path, .int .i64 mode, .int .u64 n, .int .i64 time, .int .i64 r, .int .i64 t, .int .i64 q, .string ef, .int .u64 en, .int .i64 e0, .int .i64 e1, .int .i64 e2, .int .i64 e3, .int .i64 e4, .int .i64 e5, .int .i64 e6, .int .i64 e7] 44) sR), ?_⟩
     try go_frame
     refine wpAnyH_one (i := 9) (by kernel_rfl) ?_
     refine opStore_at (i := 9) (x := .tmp 10) (y := .tmp 43) (ty := 51) (b := bA) (j := 0) (v := .agg #[.int .i64 e0, .int .i64 e1, .int .i64 e2, .int .i64 e3, .int .i64 e4, .int .i64 e5, .int .i64 e6, .int .i64 e7]) (vs := [.int .i64 e0, .int .i64 e1, .int .i64 e2, .int .i64 e3, .int .i64 e4, .int .i64 e5, .int .i64 e6, .int .i64 e7]) rfl rfl rfl rfl (by (try simp only [Act.eval, eV]) <;> exact rfl) (by (try simp only [Act.eval, eV]) <;> exact rfl) (by first | exact rfl | kernel_rfl) hA (c := [.int .i64 0, .int .i64 0, .int .i64 0, .int .i64 0, .int .i64 0, .int .i64 0, .int .i64 0, .int .i64 0]) sR (by kernel_rfl) (by simp [Value.oneCell']) (by simp) ?_
     intro y9 hB
     clear hA; have hA := hB; clear hB
     simp only [setL, List.set_cons_zero, List.set_cons_succ] at hA
     refine ⟨(show BlockIs _ b5 [.int .i64 2, .int .i64 kind, .int .u64 num, .string foot, .int .u64 req, .string path, .int .i64 mode, .int .u64 n, .int .i64 time, .int .i64 r, .int .i64 t, .int .i64 q, .string ef, .int .u64 en, .int .i64 e0, .int .i64 e1, .int .i64 e2, .int .i64 e3, .int .i64 e4, .int .i64 e5, .int .i64 e6, .int .i64 e7] 44 from hA.get (A := .cells b5 [.int .i64 2, .int .i64 kind, .int .u64 num, .string foot, .int .u64 req, .string path, .int .i64 mode, .int .u64 n, .int .i64 time, .int .i64 r, .int .i64 t, .int .i64 q, .string ef, .int .u64 en, .int .i64 e0, .int .i64 e1, .int .i64 e2, .int .i64 e3, .int .i64 e4, .int .i64 e5, .int .i64 e6, .int .i64 e7] 44) sR), ?_⟩
     try go_frame
     refine wpAnyH_done (by kernel_rfl) ?_ _
     try go_frame
     have hF := hA.facts; (try simp only [uZ] at hA hF)
     go_wp2_with (first | ((with_reducible refine gst ?_); refine wT hA ?_; clear hF hA; intro w1 hA hF; (try simp only [uZ] at hA hF)) | ((with_reducible refine gbx ?_); refine wC hA ?_; clear hF hA; intro b1 w1 hA hb1 hF; (try simp only [uZ] at hA hF)))
     refine (hpr _).mono ?_
     rintro e w1 ⟨rfl, hx⟩
     have hB := hA.ext hx
     clear hF hA hx; have hA := hB; clear hB
     have hF := hA.facts; (try simp only [uZ] at hA hF)
     go_wp2_with (first | ((with_reducible refine gst ?_); refine wT hA ?_; clear hF hA; intro w1 hA hF; (try simp only [uZ] at hA hF)) | ((with_reducible refine gbx ?_); refine wC hA ?_; clear hF hA; intro b1 w1 hA hb1 hF; (try simp only [uZ] at hA hF)))
     refine bodyPost_ret (v := .tuple #[.slice lx l.length lc, .bool true]) (by simp [results, Tryz.results9, go_sem]) rfl ⟨_, rfl, hA.pick pZ⟩
   · skip
     refine opAlloc_at (i := 7) (d := some 10) rfl rfl rfl (E := 51) rfl (z := .agg #[.int .i64 0, .int .i64 0, .int .i64 0, .int .i64 0, .int .i64 0, .int .i64 0, .int .i64 0, .int .i64 0]) (vs := [.int .i64 0, .int .i64 0, .int .i64 0, .int .i64 0, .int .i64 0, .int .i64 0, .int .i64 0, .int .i64 0]) (by kernel_rfl) (by first | exact rfl | kernel_rfl) hA ?_
     intro bA z7 hB
     clear hA; have hA := hB; clear hB
     refine ⟨(show BlockIs _ b5 [.int .i64 2, .int .i64 kind, .int .u64 num, .string foot, .int .u64 req, .string path, .int .i64 mode, .int .u64 n, .int .i64 time, .int .i64 r, .int .i64 t, .int .i64 q, .string ef, .int .u64 en, .int .i64 e0, .int .i64 e1, .int .i64 e2, .int .i64 e3, .int .i64 e4, .int .i64 e5, .int .i64 e6, .int .i64 e7] 44 from hA.get (A := .cells b5 [.int .i64 2, .int .i64 kind, .int .u64 num, .string foot, .int .u64 req, .string path, .int .i64 mode, .int .u64 n, .int .i64 time, .int .i64 r, .int .i64 t, .int .i64 q, .string ef, .int .u64 en, .int .i64 e0, .int .i64 e1, .int .i64 e2, .int .i64 e3, .int .i64 e4, .int .i64 e5, .int .i64 e6, .int .i64 e7] 44) sR), ?_⟩
     go_frame
     refine wpAnyH_one (i := 6) (by kernel_rfl) ?_
     refine opAlloc_at (i := 6) (d := some 9) rfl rfl rfl (E := 37) rfl (z := .agg #[.string .empty, .int .u64 0]) (vs := [.string .empty, .int .u64 0]) (by kernel_rfl) (by first | exact rfl | kernel_rfl) hA ?_
     intro bK z6 hB
     clear hA; have hA := hB; clear hB
     refine ⟨(show BlockIs _ b5 [.int .i64 2, .int .i64 kind, .int .u64 num, .string foot, .int .u64 req, .string path, .int .i64 mode, .int .u64 n, .int .i64 time, .int .i64 r, .int .i64 t, .int .i64 q, .string ef, .int .u64 en, .int .i64 e0, .int .i64 e1, .int .i64 e2, .int .i64 e3, .int .i64 e4, .int .i64 e5, .int .i64 e6, .int .i64 e7] 44 from hA.get (A := .cells b5 [.int .i64 2, .int .i64 kind, .int .u64 num, .string foot, .int .u64 req, .string path, .int .i64 mode, .int .u64 n, .int .i64 time, .int .i64 r, .int .i64 t, .int .i64 q, .string ef, .int .u64 en, .int .i64 e0, .int .i64 e1, .int .i64 e2, .int .i64 e3, .int .i64 e4, .int .i64 e5, .int .i64 e6, .int .i64 e7] 44) sR), ?_⟩
     go_frame
     refine wpAnyH_one (i := 8) (by kernel_rfl) ?_
     refine opStore_at (i := 8) (x := .tmp 9) (y := .tmp 40) (ty := 37) (b := bK) (j := 0) (v := .agg #[.string ef, .int .u64 en]) (vs := [.string ef, .int .u64 en]) rfl rfl rfl rfl (by (try simp only [Act.eval, eV]) <;> exact rfl) (by (try simp only [Act.eval, eV]) <;> exact rfl) (by first | exact rfl | kernel_rfl) hA (c := [.string .empty, .int .u64 0]) sR (by kernel_rfl) (by simp [Value.oneCell']) (by simp) ?_
     intro y8 hB
     clear hA; have hA := hB; clear hB
     simp only [setL, List.set_cons_zero, List.set_cons_succ] at hA
     refine ⟨(show BlockIs _ b5 [.int .i64 2, .int .i64 kind, .int .u64 num, .string foot, .int .u64 req, .string path, .int .i64 mode, .int .u64 n, .int .i64 time, .int .i64 r, .int .i64 t, .int .i64 q, .string ef, .int .u64 en, .int .i64 e0, .int .i64 e1, .int .i64 e2, .int .i64 e3, .int .i64 e4, .int .i64 e5, .int .i64 e6, .int .i64 e7] 44 from hA.get (A := .cells b5 [.int .i64 2, .int .i64 kind, .int .u64 num, .string foot, .int .u64 req, .string path, .int .i64 mode, .int .u64 n, .int .i64 time, .int .i64 r, .int .i64 t, .int .i64 q, .string ef, .int .u64 en, .int .i64 e0, .int .i64 e1, .int .i64 e2, .int .i64 e3, .int .i64 e4, .int .i64 e5, .int .i64 e6, .int .i64 e7] 44) sR), ?_⟩
     try go_frame
     refine wpAnyH_one (i := 9) (by kernel_rfl) ?_
     refine opStore_at (i := 9) (x := .tmp 10) (y := .tmp 43) (ty := 51) (b := bA) (j := 0) (v := .agg #[.int .i64 e0, .int .i64 e1, .int .i64 e2, .int .i64 e3, .int .i64 e4, .int .i64 e5, .int .i64 e6, .int .i64 e7]) (vs := [.int .i64 e0, .int .i64 e1, .int .i64 e2, .int .i64 e3, .int .i64 e4, .int .i64 e5, .int .i64 e6, .int .i64 e7]) rfl rfl rfl rfl (by (try simp only [Act.eval, eV]) <;> exact rfl) (by (try simp only [Act.eval, eV]) <;> exact rfl) (by first | exact rfl | kernel_rfl) hA (c := [.int .i64 0, .int .i64 0, .int .i64 0, .int .i64 0, .int .i64 0, .int .i64 0, .int .i64 0, .int .i64 0]) sR (by kernel_rfl) (by simp [Value.oneCell']) (by simp) ?_
     intro y9 hB
     clear hA; have hA := hB; clear hB
     simp only [setL, List.set_cons_zero, List.set_cons_succ] at hA
     refine ⟨(show BlockIs _ b5 [.int .i64 2, .int .i64 kind, .int .u64 num, .string foot, .int .u64 req, .string path, .int .i64 mode, .int .u64 n, .int .i64 time, .int .i64 r, .int .i64 t, .int .i64 q, .string ef, .int .u64 en, .int .i64 e0, .int .i64 e1, .int .i64 e2, .int .i64 e3, .int .i64 e4, .int .i64 e5, .int .i64 e6, .int .i64 e7] 44 from hA.get (A := .cells b5 [.int .i64 2, .int .i64 kind, .int .u64 num, .string foot, .int .u64 req, .string path, .int .i64 mode, .int .u64 n, .int .i64 time, .int .i64 r, .int .i64 t, .int .i64 q, .string ef, .int .u64 en, .int .i64 e0, .int .i64 e1, .int .i64 e2, .int .i64 e3, .int .i64 e4, .int .i64 e5, .int .i64 e6, .int .i64 e7] 44) sR), ?_⟩
     try go_frame
     refine wpAnyH_done (by kernel_rfl) ?_ _
     try go_frame
     have hF := hA.facts; (try simp only [uZ] at hA hF)
     go_wp2_with (first | ((with_reducible refine gst ?_); refine wT hA ?_; clear hF hA; intro w1 hA hF; (try simp only [uZ] at hA hF)) | ((with_reducible refine gbx ?_); refine wC hA ?_; clear hF hA; intro b1 w1 hA hb1 hF; (try simp only [uZ] at hA hF)))
     refine (hpr _).mono ?_
     rintro e w1 ⟨rfl, hx⟩
     have hB := hA.ext hx
     clear hF hA hx; have hA := hB; clear hB
     have hF := hA.facts; (try simp only [uZ] at hA hF)
     go_wp2_with (first | ((with_reducible refine gst ?_); refine wT hA ?_; clear hF hA; intro w1 hA hF; (try simp only [uZ] at hA hF)) | ((with_reducible refine gbx ?_); refine wC hA ?_; clear hF hA; intro b1 w1 hA hb1 hF; (try simp only [uZ] at hA hF)))
     refine bodyPost_ret (v := .tuple #[.slice lx l.length lc, .bool true]) (by simp [results, Tryz.results9, go_sem]) rfl ⟨_, rfl, hA.pick pZ⟩
 · cases ar
   · simp only [Bool.and_false, Bool.false_eq_true, if_false] at hadd ⊢
     go_enter Tryz.func9, Tryz.ntmps9
     go_wp2_with (first | ((with_reducible refine gbx ?_); refine wH 44 [.int .i64 2, .int .i64 kind, .int .u64 num, .string foot, .int .u64 req, .string path, .int .i64 mode, .int .u64 n, .int .i64 time, .int .i64 r, .int .i64 t, .int .i64 q, .string ef, .int .u64 en, .int .i64 e0, .int .i64 e1, .int .i64 e2, .int .i64 e3, .int .i64 e4, .int .i64 e5, .int .i64 e6, .int .i64 e7] hA ?_; clear hF hA; intro b5 w1 hA hb5 hF; (try simp only [uZ] at hA hF)) | ((with_reducible refine gst ?_); refine wT hA ?_; clear hF hA; intro w1 hA hF; (try simp only [uZ] at hA hF)) | ((with_reducible refine gbx ?_); refine wC hA ?_; clear hF hA; intro b1 w1 hA hb1 hF; (try simp only [uZ] at hA hF)))
     refine (hadd _ (hA.sep1 (A := IxP p m es) sR)).mono ?_
     clear hadd
     rintro e w1 ⟨rfl, hT⟩; have hB := hA.call1 sR hT; clear hF hA hT; have hA := hB; clear hB; have hF := hA.facts; (try simp only [uZ] at hA hF)
     go_wp2_with (first | ((with_reducible refine gst ?_); refine wT hA ?_; clear hF hA; intro w1 hA hF; (try simp only [uZ] at hA hF)) | ((with_reducible refine gbx ?_); refine wC hA ?_; clear hF hA; intro b1 w1 hA hb1 hF; (try simp only [uZ] at hA hF)))
     try go_frame
     have hm : Tryz.prog.follows .mixedOrders = true := by kernel_rfl
     have hAd := hA.drew
     clear hF hA
     have hA := hAd
     clear hAd
     refine wp_region_held (S := fun w' => BlockIs w' b5 [.int .i64 2, .int .i64 kind, .int .u64 num, .string foot, .int .u64 req, .string path, .int .i64 mode, .int .u64 n, .int .i64 time, .int .i64 r, .int .i64 t, .int .i64 q, .string ef, .int .u64 en, .int .i64 e0, .int .i64 e1, .int .i64 e2, .int .i64 e3, .int .i64 e4, .int .i64 e5, .int .i64 e6, .int .i64 e7] 44) hm ?_
     change wpAnyH _ _ _ _ _ 10 _ _ (World.drew _)
     generalize World.drew _ = w2 at *
     have hS0 := (show BlockIs _ b5 [.int .i64 2, .int .i64 kind, .int .u64 num, .string foot, .int .u64 req, .string path, .int .i64 mode, .int .u64 n, .int .i64 time, .int .i64 r, .int .i64 t, .int .i64 q, .string ef, .int .u64 en, .int .i64 e0, .int .i64 e1, .int .i64 e2, .int .i64 e3, .int .i64 e4, .int .i64 e5, .int .i64 e6, .int .i64 e7] 44 from hA.get (A := .cells b5 [.int .i64 2, .int .i64 kind, .int .u64 num, .string foot, .int .u64 req, .string path, .int .i64 mode, .int .u64 n, .int .i64 time, .int .i64 r, .int .i64 t, .int .i64 q, .string ef, .int .u64 en, .int .i64 e0, .int .i64 e1, .int .i64 e2, .int .i64 e3, .int .i64 e4, .int .i64 e5, .int .i64 e6, .int .i64 e7] 44) sR)
     refine tZ 0 38 ((.pointer (some ⟨b5, 12, none⟩))) (r := (fun w' hS => by kernel_rfl)) (s := hS0) (h := ?_)
     go_frame
     refine tZ 1 39 ((.pointer (some ⟨b5, 12, none⟩))) (r := (fun w' hS => by kernel_rfl)) (s := hS0) (h := ?_)
     go_frame
     refine tZ 2 40 ((.agg #[.string ef, .int .u64 en])) (r := (fun w' hS => run_load_row (ty := 37) (n := 2) rfl (by exact rfl) hS (by kernel_rfl) (by kernel_rfl) rfl rfl)) (s := hS0) (h := ?_)
     go_frame
     refine tZ 3 41 ((.pointer (some ⟨b5, 12, none⟩))) (r := (fun w' hS => by kernel_rfl)) (s := hS0) (h := ?_)
     go_frame
     refine tZ 4 42 ((.pointer (some ⟨b5, 14, none⟩))) (r := (fun w' hS => by kernel_rfl)) (s := hS0) (h := ?_)
     go_frame
     refine tZ 5 43 ((.agg #[.int .i64 e0, .int .i64 e1, .int .i64 e2, .int .i64 e3, .int .i64 e4, .int .i64 e5, .int .i64 e6, .int .i64 e7])) (r := (fun w' hS => run_load_row (ty := 40) (n := 8) rfl (by exact rfl) hS (by kernel_rfl) (by kernel_rfl) rfl rfl)) (s := hS0) (h := ?_)
     go_frame
     clear hS0
     refine wpAnyH_two (i := 6) (j := 7) (by kernel_rfl) ?_ ?_
     · skip
       refine opAlloc_at (i := 6) (d := some 9) rfl rfl rfl (E := 37) rfl (z := .agg #[.string .empty, .int .u64 0]) (vs := [.string .empty, .int .u64 0]) (by kernel_rfl) (by first | exact rfl | kernel_rfl) hA ?_
       intro bK z6 hB
       clear hA; have hA := hB; clear hB
       refine ⟨(show BlockIs _ b5 [.int .i64 2, .int .i64 kind, .int .u64 num, .string foot, .int .u64 req, .string path, .int .i64 mode, .int .u64 n, .int .i64 time, .int .i64 r, .int .i64 t, .int .i64 q, .string ef, .int .u64 en, .int .i64 e0, .int .i64 e1, .int .i64 e2, .int .i64 e3, .int .i64 e4, .int .i64 e5, .int .i64 e6, .int .i64 e7] 44 from hA.get (A := .cells b5 [.int .i64 2, .int .i64 kind, .int .u64 num, .string foot, .int .u64 req, .string path, .int .i64 mode, .int .u64 n, .int .i64 time, .int .i64 r, .int .i64 t, .int .i64 q, .string ef, .int .u64 en, .int .i64 e0, .int .i64 e1, .int .i64 e2, .int .i64 e3, .int .i64 e4, .int .i64 e5, .int .i64 e6, .int .i64 e7] 44) sR), ?_⟩
       go_frame
       refine wpAnyH_one (i := 7) (by kernel_rfl) ?_
       refine opAlloc_at (i := 7) (d := some 10) rfl rfl rfl (E := 51) rfl (z := .agg #[.int .i64 0, .int .i64 0, .int .i64 0, .int .i64 0, .int .i64 0, .int .i64 0, .int .i64 0, .int .i64 0]) (vs := [.int .i64 0, .int .i64 0, .int .i64 0, .int .i64 0, .int .i64 0, .int .i64 0, .int .i64 0, .int .i64 0]) (by kernel_rfl) (by first | exact rfl | kernel_rfl) hA ?_
       intro bA z7 hB
       clear hA; have hA := hB; clear hB
       refine ⟨(show BlockIs _ b5 [.int .i64 2, .int .i64 kind, .int .u64 num, .string foot, .int .u64 req, .string path, .int .i64 mode, .int .u64 n, .int .i64 time, .int .i64 r, .int .i64 t, .int .i64 q, .string ef, .int .u64 en, .int .i64 e0, .int .i64 e1, .int .i64 e2, .int .i64 e3, .int .i64 e4, .int .i64 e5, .int .i64 e6, .int .i64 e7] 44 from hA.get (A := .cells b5 [.int .i64 2, .int .i64 kind, .int .u64 num, .string foot, .int .u64 req, .string path, .int .i64 mode, .int .u64 n, .int .i64 time, .int .i64 r, .int .i64 t, .int .i64 q, .string ef, .int .u64 en, .int .i64 e0, .int .i64 e1, .int .i64 e2, .int .i64 e3, .int .i64 e4, .int .i64 e5, .int .i64 e6, .int .i64 e7] 44) sR), ?_⟩
       go_frame
       refine wpAnyH_one (i := 8) (by kernel_rfl) ?_
       refine opStore_at (i := 8) (x := .tmp 9) (y := .tmp 40) (ty := 37) (b := bK) (j := 0) (v := .agg #[.string ef, .int .u64 en]) (vs := [.string ef, .int .u64 en]) rfl rfl rfl rfl (by (try simp only [Act.eval, eV]) <;> exact rfl) (by (try simp only [Act.eval, eV]) <;> exact rfl) (by first | exact rfl | kernel_rfl) hA (c := [.string .empty, .int .u64 0]) sR (by kernel_rfl) (by simp [Value.oneCell']) (by simp) ?_
       intro y8 hB
       clear hA; have hA := hB; clear hB
       simp only [setL, List.set_cons_zero, List.set_cons_succ] at hA
       refine ⟨(show BlockIs _ b5 [.int .i64 2, .int .i64 kind, .int .u64 num, .string foot, .int .u64 req, .string path, .int .i64 mode, .int .u64 n, .int .i64 time, .int .i64 r, .int .i64 t, .int .i64 q, .string ef, .int .u64 en, .int .i64 e0, .int .i64 e1, .int .i64 e2, .int .i64 e3, .int .i64 e4, .int .i64 e5, .int .i64 e6, .int .i64 e7] 44 from hA.get (A := .cells b5 [.int .i64 2, .int .i64 kind, .int .u64 num, .string foot, .int .u64 req, .string path, .int .i64 mode, .int .u64 n, .int .i64 time, .int .i64 r, .int .i64 t, .int .i64 q, .string ef, .int .u64 en, .int .i64 e0, .int .i64 e1, .int .i64 e2, .int .i64 e3, .int .i64 e4, .int .i64 e5, .int .i64 e6, .int .i64 e7] 44) sR), ?_⟩
       try go_frame
       refine wpAnyH_one (i := 9) (by kernel_rfl) ?_
       refine opStore_at (i := 9) (x := .tmp 10) (y := .tmp 43) (ty := 51) (b := bA) (j := 0) (v := .agg #[.int .i64 e0, .int .i64 e1, .int .i64 e2, .int .i64 e3, .int .i64 e4, .int .i64 e5, .int .i64 e6, .int .i64 e7]) (vs := [.int .i64 e0, .int .i64 e1, .int .i64 e2, .int .i64 e3, .int .i64 e4, .int .i64 e5, .int .i64 e6, .int .i64 e7]) rfl rfl rfl rfl (by (try simp only [Act.eval, eV]) <;> exact rfl) (by (try simp only [Act.eval, eV]) <;> exact rfl) (by first | exact rfl | kernel_rfl) hA (c := [.int .i64 0, .int .i64 0, .int .i64 0, .int .i64 0, .int .i64 0, .int .i64 0, .int .i64 0, .int .i64 0]) sR (by kernel_rfl) (by simp [Value.oneCell']) (by simp) ?_
       intro y9 hB
       clear hA; have hA := hB; clear hB
       simp only [setL, List.set_cons_zero, List.set_cons_succ] at hA
       refine ⟨(show BlockIs _ b5 [.int .i64 2, .int .i64 kind, .int .u64 num, .string foot, .int .u64 req, .string path, .int .i64 mode, .int .u64 n, .int .i64 time, .int .i64 r, .int .i64 t, .int .i64 q, .string ef, .int .u64 en, .int .i64 e0, .int .i64 e1, .int .i64 e2, .int .i64 e3, .int .i64 e4, .int .i64 e5, .int .i64 e6, .int .i64 e7] 44 from hA.get (A := .cells b5 [.int .i64 2, .int .i64 kind, .int .u64 num, .string foot, .int .u64 req, .string path, .int .i64 mode, .int .u64 n, .int .i64 time, .int .i64 r, .int .i64 t, .int .i64 q, .string ef, .int .u64 en, .int .i64 e0, .int .i64 e1, .int .i64 e2, .int .i64 e3, .int .i64 e4, .int .i64 e5, .int .i64 e6, .int .i64 e7] 44) sR), ?_⟩
       try go_frame
       refine wpAnyH_done (by kernel_rfl) ?_ _
       try go_frame
       have hF := hA.facts; (try simp only [uZ] at hA hF)
       go_wp2_with (first | ((with_reducible refine gst ?_); refine wT hA ?_; clear hF hA; intro w1 hA hF; (try simp only [uZ] at hA hF)) | ((with_reducible refine gbx ?_); refine wC hA ?_; clear hF hA; intro b1 w1 hA hb1 hF; (try simp only [uZ] at hA hF)))
       refine (hpr _).mono ?_
       rintro e w1 ⟨rfl, hx⟩
       have hB := hA.ext hx
       clear hF hA hx; have hA := hB; clear hB
       have hF := hA.facts; (try simp only [uZ] at hA hF)
       go_wp2_with (first | ((with_reducible refine gst ?_); refine wT hA ?_; clear hF hA; intro w1 hA hF; (try simp only [uZ] at hA hF)) | ((with_reducible refine gbx ?_); refine wC hA ?_; clear hF hA; intro b1 w1 hA hb1 hF; (try simp only [uZ] at hA hF)))
       refine (har _).mono ?_
       rintro e w1 ⟨rfl, hx⟩
       have hB := hA.ext hx
       clear hF hA hx; have hA := hB; clear hB
       have hF := hA.facts; (try simp only [uZ] at hA hF)
       go_wp2_with (first | ((with_reducible refine gst ?_); refine wT hA ?_; clear hF hA; intro w1 hA hF; (try simp only [uZ] at hA hF)) | ((with_reducible refine gbx ?_); refine wC hA ?_; clear hF hA; intro b1 w1 hA hb1 hF; (try simp only [uZ] at hA hF)))
       refine bodyPost_ret (v := .tuple #[.slice lx l.length lc, .bool true]) (by simp [results, Tryz.results9, go_sem]) rfl ⟨_, rfl, hA.pick pZ⟩
     · skip
       refine opAlloc_at (i := 7) (d := some 10) rfl rfl rfl (E := 51) rfl (z := .agg #[.int .i64 0, .int .i64 0, .int .i64 0, .int .i64 0, .int .i64 0, .int .i64 0, .int .i64 0, .int .i64 0]) (vs := [.int .i64 0, .int .i64 0, .int .i64 0, .int .i64 0, .int .i64 0, .int .i64 0, .int .i64 0, .int .i64 0]) (by kernel_rfl) (by first | exact rfl | kernel_rfl) hA ?_
       intro bA z7 hB
       clear hA; have hA := hB; clear hB
       refine ⟨(show BlockIs _ b5 [.int .i64 2, .int .i64 kind, .int .u64 num, .string foot, .int .u64 req, .string path, .int .i64 mode, .int .u64 n, .int .i64 time, .int .i64 r, .int .i64 t, .int .i64 q, .string ef, .int .u64 en, .int .i64 e0, .int .i64 e1, .int .i64 e2, .int .i64 e3, .int .i64 e4, .int .i64 e5, .int .i64 e6, .int .i64 e7] 44 from hA.get (A := .cells b5 [.int .i64 2, .int .i64 kind, .int .u64 num, .string foot, .int .u64 req, .string path, .int .i64 mode, .int .u64 n, .int .i64 time, .int .i64 r, .int .i64 t, .int .i64 q, .string ef, .int .u64 en, .int .i64 e0, .int .i64 e1, .int .i64 e2, .int .i64 e3, .int .i64 e4, .int .i64 e5, .int .i64 e6, .int .i64 e7] 44) sR), ?_⟩
       go_frame
       refine wpAnyH_one (i := 6) (by kernel_rfl) ?_
       refine opAlloc_at (i := 6) (d := some 9) rfl rfl rfl (E := 37) rfl (z := .agg #[.string .empty, .int .u64 0]) (vs := [.string .empty, .int .u64 0]) (by kernel_rfl) (by first | exact rfl | kernel_rfl) hA ?_
       intro bK z6 hB
       clear hA; have hA := hB; clear hB
       refine ⟨(show BlockIs _ b5 [.int .i64 2, .int .i64 kind, .int .u64 num, .string foot, .int .u64 req, .string path, .int .i64 mode, .int .u64 n, .int .i64 time, .int .i64 r, .int .i64 t, .int .i64 q, .string ef, .int .u64 en, .int .i64 e0, .int .i64 e1, .int .i64 e2, .int .i64 e3, .int .i64 e4, .int .i64 e5, .int .i64 e6, .int .i64 e7] 44 from hA.get (A := .cells b5 [.int .i64 2, .int .i64 kind, .int .u64 num, .string foot, .int .u64 req, .string path, .int .i64 mode, .int .u64 n, .int .i64 time, .int .i64 r, .int .i64 t, .int .i64 q, .string ef, .int .u64 en, .int .i64 e0, .int .i64 e1, .int .i64 e2, .int .i64 e3, .int .i64 e4, .int .i64 e5, .int .i64 e6, .int .i64 e7] 44) sR), ?_⟩
       go_frame
       refine wpAnyH_one (i := 8) (by kernel_rfl) ?_
       refine opStore_at (i := 8) (x := .tmp 9) (y := .tmp 40) (ty := 37) (b := bK) (j := 0) (v := .agg #[.string ef, .int .u64 en]) (vs := [.string ef, .int .u64 en]) rfl rfl rfl rfl (by (try simp only [Act.eval, eV]) <;> exact rfl) (by (try simp only [Act.eval, eV]) <;> exact rfl) (by first | exact rfl | kernel_rfl) hA (c := [.string .empty, .int .u64 0]) sR (by kernel_rfl) (by simp [Value.oneCell']) (by simp) ?_
       intro y8 hB
       clear hA; have hA := hB; clear hB
       simp only [setL, List.set_cons_zero, List.set_cons_succ] at hA
       refine ⟨(show BlockIs _ b5 [.int .i64 2, .int .i64 kind, .int .u64 num, .string foot, .int .u64 req, .string path, .int .i64 mode, .int .u64 n, .int .i64 time, .int .i64 r, .int .i64 t, .int .i64 q, .string ef, .int .u64 en, .int .i64 e0, .int .i64 e1, .int .i64 e2, .int .i64 e3, .int .i64 e4, .int .i64 e5, .int .i64 e6, .int .i64 e7] 44 from hA.get (A := .cells b5 [.int .i64 2, .int .i64 kind, .int .u64 num, .string foot, .int .u64 req, .string path, .int .i64 mode, .int .u64 n, .int .i64 time, .int .i64 r, .int .i64 t, .int .i64 q, .string ef, .int .u64 en, .int .i64 e0, .int .i64 e1, .int .i64 e2, .int .i64 e3, .int .i64 e4, .int .i64 e5, .int .i64 e6, .int .i64 e7] 44) sR), ?_⟩
       try go_frame
       refine wpAnyH_one (i := 9) (by kernel_rfl) ?_
       refine opStore_at (i := 9) (x := .tmp 10) (y := .tmp 43) (ty := 51) (b := bA) (j := 0) (v := .agg #[.int .i64 e0, .int .i64 e1, .int .i64 e2, .int .i64 e3, .int .i64 e4, .int .i64 e5, .int .i64 e6, .int .i64 e7]) (vs := [.int .i64 e0, .int .i64 e1, .int .i64 e2, .int .i64 e3, .int .i64 e4, .int .i64 e5, .int .i64 e6, .int .i64 e7]) rfl rfl rfl rfl (by (try simp only [Act.eval, eV]) <;> exact rfl) (by (try simp only [Act.eval, eV]) <;> exact rfl) (by first | exact rfl | kernel_rfl) hA (c := [.int .i64 0, .int .i64 0, .int .i64 0, .int .i64 0, .int .i64 0, .int .i64 0, .int .i64 0, .int .i64 0]) sR (by kernel_rfl) (by simp [Value.oneCell']) (by simp) ?_
       intro y9 hB
       clear hA; have hA := hB; clear hB
       simp only [setL, List.set_cons_zero, List.set_cons_succ] at hA
       refine ⟨(show BlockIs _ b5 [.int .i64 2, .int .i64 kind, .int .u64 num, .string foot, .int .u64 req, .string path, .int .i64 mode, .int .u64 n, .int .i64 time, .int .i64 r, .int .i64 t, .int .i64 q, .string ef, .int .u64 en, .int .i64 e0, .int .i64 e1, .int .i64 e2, .int .i64 e3, .int .i64 e4, .int .i64 e5, .int .i64 e6, .int .i64 e7] 44 from hA.get (A := .cells b5 [.int .i64 2, .int .i64 kind, .int .u64 num, .string foot, .int .u64 req, .string path, .int .i64 mode, .int .u64 n, .int .i64 time, .int .i64 r, .int .i64 t, .int .i64 q, .string ef, .int .u64 en, .int .i64 e0, .int .i64 e1, .int .i64 e2, .int .i64 e3, .int .i64 e4, .int .i64 e5, .int .i64 e6, .int .i64 e7] 44) sR), ?_⟩
       try go_frame
       refine wpAnyH_done (by kernel_rfl) ?_ _
       try go_frame
       have hF := hA.facts; (try simp only [uZ] at hA hF)
       go_wp2_with (first | ((with_reducible refine gst ?_); refine wT hA ?_; clear hF hA; intro w1 hA hF; (try simp only [uZ] at hA hF)) | ((with_reducible refine gbx ?_); refine wC hA ?_; clear hF hA; intro b1 w1 hA hb1 hF; (try simp only [uZ] at hA hF)))
       refine (hpr _).mono ?_
       rintro e w1 ⟨rfl, hx⟩
       have hB := hA.ext hx
       clear hF hA hx; have hA := hB; clear hB
       have hF := hA.facts; (try simp only [uZ] at hA hF)
       go_wp2_with (first | ((with_reducible refine gst ?_); refine wT hA ?_; clear hF hA; intro w1 hA hF; (try simp only [uZ] at hA hF)) | ((with_reducible refine gbx ?_); refine wC hA ?_; clear hF hA; intro b1 w1 hA hb1 hF; (try simp only [uZ] at hA hF)))
       refine (har _).mono ?_
       rintro e w1 ⟨rfl, hx⟩
       have hB := hA.ext hx
       clear hF hA hx; have hA := hB; clear hB
       have hF := hA.facts; (try simp only [uZ] at hA hF)
       go_wp2_with (first | ((with_reducible refine gst ?_); refine wT hA ?_; clear hF hA; intro w1 hA hF; (try simp only [uZ] at hA hF)) | ((with_reducible refine gbx ?_); refine wC hA ?_; clear hF hA; intro b1 w1 hA hb1 hF; (try simp only [uZ] at hA hF)))
       refine bodyPost_ret (v := .tuple #[.slice lx l.length lc, .bool true]) (by simp [results, Tryz.results9, go_sem]) rfl ⟨_, rfl, hA.pick pZ⟩
   · simp only [Bool.and_true, if_true] at hadd ⊢
     go_enter Tryz.func9, Tryz.ntmps9
     go_wp2_with (first | ((with_reducible refine gbx ?_); refine wH 44 [.int .i64 2, .int .i64 kind, .int .u64 num, .string foot, .int .u64 req, .string path, .int .i64 mode, .int .u64 n, .int .i64 time, .int .i64 r, .int .i64 t, .int .i64 q, .string ef, .int .u64 en, .int .i64 e0, .int .i64 e1, .int .i64 e2, .int .i64 e3, .int .i64 e4, .int .i64 e5, .int .i64 e6, .int .i64 e7] hA ?_; clear hF hA; intro b5 w1 hA hb5 hF; (try simp only [uZ] at hA hF)) | ((with_reducible refine gst ?_); refine wT hA ?_; clear hF hA; intro w1 hA hF; (try simp only [uZ] at hA hF)) | ((with_reducible refine gbx ?_); refine wC hA ?_; clear hF hA; intro b1 w1 hA hb1 hF; (try simp only [uZ] at hA hF)))
     refine (hadd _ (hA.sep1 (A := IxP p m es) sR)).mono ?_
     clear hadd
     rintro e w1 ⟨rfl, hT⟩; have hB := hA.call1 sR hT; clear hF hA hT; have hA := hB; clear hB; have hF := hA.facts; (try simp only [uZ] at hA hF)
     go_wp2_with (first | ((with_reducible refine gst ?_); refine wT hA ?_; clear hF hA; intro w1 hA hF; (try simp only [uZ] at hA hF)) | ((with_reducible refine gbx ?_); refine wC hA ?_; clear hF hA; intro b1 w1 hA hb1 hF; (try simp only [uZ] at hA hF)))
     try go_frame
     have hm : Tryz.prog.follows .mixedOrders = true := by kernel_rfl
     have hAd := hA.drew
     clear hF hA
     have hA := hAd
     clear hAd
     refine wp_region_held (S := fun w' => BlockIs w' b5 [.int .i64 2, .int .i64 kind, .int .u64 num, .string foot, .int .u64 req, .string path, .int .i64 mode, .int .u64 n, .int .i64 time, .int .i64 r, .int .i64 t, .int .i64 q, .string ef, .int .u64 en, .int .i64 e0, .int .i64 e1, .int .i64 e2, .int .i64 e3, .int .i64 e4, .int .i64 e5, .int .i64 e6, .int .i64 e7] 44) hm ?_
     change wpAnyH _ _ _ _ _ 10 _ _ (World.drew _)
     generalize World.drew _ = w2 at *
     have hS0 := (show BlockIs _ b5 [.int .i64 2, .int .i64 kind, .int .u64 num, .string foot, .int .u64 req, .string path, .int .i64 mode, .int .u64 n, .int .i64 time, .int .i64 r, .int .i64 t, .int .i64 q, .string ef, .int .u64 en, .int .i64 e0, .int .i64 e1, .int .i64 e2, .int .i64 e3, .int .i64 e4, .int .i64 e5, .int .i64 e6, .int .i64 e7] 44 from hA.get (A := .cells b5 [.int .i64 2, .int .i64 kind, .int .u64 num, .string foot, .int .u64 req, .string path, .int .i64 mode, .int .u64 n, .int .i64 time, .int .i64 r, .int .i64 t, .int .i64 q, .string ef, .int .u64 en, .int .i64 e0, .int .i64 e1, .int .i64 e2, .int .i64 e3, .int .i64 e4, .int .i64 e5, .int .i64 e6, .int .i64 e7] 44) sR)
     refine tZ 0 38 ((.pointer (some ⟨b5, 12, none⟩))) (r := (fun w' hS => by kernel_rfl)) (s := hS0) (h := ?_)
     go_frame
     refine tZ 1 39 ((.pointer (some ⟨b5, 12, none⟩))) (r := (fun w' hS => by kernel_rfl)) (s := hS0) (h := ?_)
     go_frame
     refine tZ 2 40 ((.agg #[.string ef, .int .u64 en])) (r := (fun w' hS => run_load_row (ty := 37) (n := 2) rfl (by exact rfl) hS (by kernel_rfl) (by kernel_rfl) rfl rfl)) (s := hS0) (h := ?_)
     go_frame
     refine tZ 3 41 ((.pointer (some ⟨b5, 12, none⟩))) (r := (fun w' hS => by kernel_rfl)) (s := hS0) (h := ?_)
     go_frame
     refine tZ 4 42 ((.pointer (some ⟨b5, 14, none⟩))) (r := (fun w' hS => by kernel_rfl)) (s := hS0) (h := ?_)
     go_frame
     refine tZ 5 43 ((.agg #[.int .i64 e0, .int .i64 e1, .int .i64 e2, .int .i64 e3, .int .i64 e4, .int .i64 e5, .int .i64 e6, .int .i64 e7])) (r := (fun w' hS => run_load_row (ty := 40) (n := 8) rfl (by exact rfl) hS (by kernel_rfl) (by kernel_rfl) rfl rfl)) (s := hS0) (h := ?_)
     go_frame
     clear hS0
     refine wpAnyH_two (i := 6) (j := 7) (by kernel_rfl) ?_ ?_
     · skip
       refine opAlloc_at (i := 6) (d := some 9) rfl rfl rfl (E := 37) rfl (z := .agg #[.string .empty, .int .u64 0]) (vs := [.string .empty, .int .u64 0]) (by kernel_rfl) (by first | exact rfl | kernel_rfl) hA ?_
       intro bK z6 hB
       clear hA; have hA := hB; clear hB
       refine ⟨(show BlockIs _ b5 [.int .i64 2, .int .i64 kind, .int .u64 num, .string foot, .int .u64 req, .string path, .int .i64 mode, .int .u64 n, .int .i64 time, .int .i64 r, .int .i64 t, .int .i64 q, .string ef, .int .u64 en, .int .i64 e0, .int .i64 e1, .int .i64 e2, .int .i64 e3, .int .i64 e4, .int .i64 e5, .int .i64 e6, .int .i64 e7] 44 from hA.get (A := .cells b5 [.int .i64 2, .int .i64 kind, .int .u64 num, .string foot, .int .u64 req, .string path, .int .i64 mode, .int .u64 n, .int .i64 time, .int .i64 r, .int .i64 t, .int .i64 q, .string ef, .int .u64 en, .int .i64 e0, .int .i64 e1, .int .i64 e2, .int .i64 e3, .int .i64 e4, .int .i64 e5, .int .i64 e6, .int .i64 e7] 44) sR), ?_⟩
       go_frame
       refine wpAnyH_one (i := 7) (by kernel_rfl) ?_
       refine opAlloc_at (i := 7) (d := some 10) rfl rfl rfl (E := 51) rfl (z := .agg #[.int .i64 0, .int .i64 0, .int .i64 0, .int .i64 0, .int .i64 0, .int .i64 0, .int .i64 0, .int .i64 0]) (vs := [.int .i64 0, .int .i64 0, .int .i64 0, .int .i64 0, .int .i64 0, .int .i64 0, .int .i64 0, .int .i64 0]) (by kernel_rfl) (by first | exact rfl | kernel_rfl) hA ?_
       intro bA z7 hB
       clear hA; have hA := hB; clear hB
       refine ⟨(show BlockIs _ b5 [.int .i64 2, .int .i64 kind, .int .u64 num, .string foot, .int .u64 req, .string path, .int .i64 mode, .int .u64 n, .int .i64 time, .int .i64 r, .int .i64 t, .int .i64 q, .string ef, .int .u64 en, .int .i64 e0, .int .i64 e1, .int .i64 e2, .int .i64 e3, .int .i64 e4, .int .i64 e5, .int .i64 e6, .int .i64 e7] 44 from hA.get (A := .cells b5 [.int .i64 2, .int .i64 kind, .int .u64 num, .string foot, .int .u64 req, .string path, .int .i64 mode, .int .u64 n, .int .i64 time, .int .i64 r, .int .i64 t, .int .i64 q, .string ef, .int .u64 en, .int .i64 e0, .int .i64 e1, .int .i64 e2, .int .i64 e3, .int .i64 e4, .int .i64 e5, .int .i64 e6, .int .i64 e7] 44) sR), ?_⟩
       go_frame
       refine wpAnyH_one (i := 8) (by kernel_rfl) ?_
       refine opStore_at (i := 8) (x := .tmp 9) (y := .tmp 40) (ty := 37) (b := bK) (j := 0) (v := .agg #[.string ef, .int .u64 en]) (vs := [.string ef, .int .u64 en]) rfl rfl rfl rfl (by (try simp only [Act.eval, eV]) <;> exact rfl) (by (try simp only [Act.eval, eV]) <;> exact rfl) (by first | exact rfl | kernel_rfl) hA (c := [.string .empty, .int .u64 0]) sR (by kernel_rfl) (by simp [Value.oneCell']) (by simp) ?_
       intro y8 hB
       clear hA; have hA := hB; clear hB
       simp only [setL, List.set_cons_zero, List.set_cons_succ] at hA
       refine ⟨(show BlockIs _ b5 [.int .i64 2, .int .i64 kind, .int .u64 num, .string foot, .int .u64 req, .string path, .int .i64 mode, .int .u64 n, .int .i64 time, .int .i64 r, .int .i64 t, .int .i64 q, .string ef, .int .u64 en, .int .i64 e0, .int .i64 e1, .int .i64 e2, .int .i64 e3, .int .i64 e4, .int .i64 e5, .int .i64 e6, .int .i64 e7] 44 from hA.get (A := .cells b5 [.int .i64 2, .int .i64 kind, .int .u64 num, .string foot, .int .u64 req, .string path, .int .i64 mode, .int .u64 n, .int .i64 time, .int .i64 r, .int .i64 t, .int .i64 q, .string ef, .int .u64 en, .int .i64 e0, .int .i64 e1, .int .i64 e2, .int .i64 e3, .int .i64 e4, .int .i64 e5, .int .i64 e6, .int .i64 e7] 44) sR), ?_⟩
       try go_frame
       refine wpAnyH_one (i := 9) (by kernel_rfl) ?_
       refine opStore_at (i := 9) (x := .tmp 10) (y := .tmp 43) (ty := 51) (b := bA) (j := 0) (v := .agg #[.int .i64 e0, .int .i64 e1, .int .i64 e2, .int .i64 e3, .int .i64 e4, .int .i64 e5, .int .i64 e6, .int .i64 e7]) (vs := [.int .i64 e0, .int .i64 e1, .int .i64 e2, .int .i64 e3, .int .i64 e4, .int .i64 e5, .int .i64 e6, .int .i64 e7]) rfl rfl rfl rfl (by (try simp only [Act.eval, eV]) <;> exact rfl) (by (try simp only [Act.eval, eV]) <;> exact rfl) (by first | exact rfl | kernel_rfl) hA (c := [.int .i64 0, .int .i64 0, .int .i64 0, .int .i64 0, .int .i64 0, .int .i64 0, .int .i64 0, .int .i64 0]) sR (by kernel_rfl) (by simp [Value.oneCell']) (by simp) ?_
       intro y9 hB
       clear hA; have hA := hB; clear hB
       simp only [setL, List.set_cons_zero, List.set_cons_succ] at hA
       refine ⟨(show BlockIs _ b5 [.int .i64 2, .int .i64 kind, .int .u64 num, .string foot, .int .u64 req, .string path, .int .i64 mode, .int .u64 n, .int .i64 time, .int .i64 r, .int .i64 t, .int .i64 q, .string ef, .int .u64 en, .int .i64 e0, .int .i64 e1, .int .i64 e2, .int .i64 e3, .int .i64 e4, .int .i64 e5, .int .i64 e6, .int .i64 e7] 44 from hA.get (A := .cells b5 [.int .i64 2, .int .i64 kind, .int .u64 num, .string foot, .int .u64 req, .string path, .int .i64 mode, .int .u64 n, .int .i64 time, .int .i64 r, .int .i64 t, .int .i64 q, .string ef, .int .u64 en, .int .i64 e0, .int .i64 e1, .int .i64 e2, .int .i64 e3, .int .i64 e4, .int .i64 e5, .int .i64 e6, .int .i64 e7] 44) sR), ?_⟩
       try go_frame
       refine wpAnyH_done (by kernel_rfl) ?_ _
       try go_frame
       have hF := hA.facts; (try simp only [uZ] at hA hF)
       go_wp2_with (first | ((with_reducible refine gst ?_); refine wT hA ?_; clear hF hA; intro w1 hA hF; (try simp only [uZ] at hA hF)) | ((with_reducible refine gbx ?_); refine wC hA ?_; clear hF hA; intro b1 w1 hA hb1 hF; (try simp only [uZ] at hA hF)))
       refine (hpr _).mono ?_
       rintro e w1 ⟨rfl, hx⟩
       have hB := hA.ext hx
       clear hF hA hx; have hA := hB; clear hB
       have hF := hA.facts; (try simp only [uZ] at hA hF)
       go_wp2_with (first | ((with_reducible refine gst ?_); refine wT hA ?_; clear hF hA; intro w1 hA hF; (try simp only [uZ] at hA hF)) | ((with_reducible refine gbx ?_); refine wC hA ?_; clear hF hA; intro b1 w1 hA hb1 hF; (try simp only [uZ] at hA hF)))
       refine (har _).mono ?_
       rintro e w1 ⟨rfl, hx⟩
       have hB := hA.ext hx
       clear hF hA hx; have hA := hB; clear hB
       have hF := hA.facts; (try simp only [uZ] at hA hF)
       go_wp2_with (first | ((with_reducible refine gst ?_); refine wT hA ?_; clear hF hA; intro w1 hA hF; (try simp only [uZ] at hA hF)) | ((with_reducible refine gbx ?_); refine wC hA ?_; clear hF hA; intro b1 w1 hA hb1 hF; (try simp only [uZ] at hA hF)))
       have hB := hA.row_nil 53 10
       clear hF hA; have hA := hB; clear hB
       have hF := hA.facts
       try go_frame
       have hm : Tryz.prog.follows .mixedOrders = true := by kernel_rfl
       have hAd := hA.drew
       clear hF hA
       have hA := hAd
       clear hAd
       refine wp_region_held (S := fun w' => BlockIs w' bK [.string ef, .int .u64 en] 37 ∧ BlockIs w' bA [.int .i64 e0, .int .i64 e1, .int .i64 e2, .int .i64 e3, .int .i64 e4, .int .i64 e5, .int .i64 e6, .int .i64 e7] 51) hm ?_
       change wpAnyH _ _ _ _ _ 15 _ _ (World.drew _)
       generalize World.drew _ = w2 at *
       have hS0 := (show BlockIs _ bK [.string ef, .int .u64 en] 37 ∧ BlockIs _ bA [.int .i64 e0, .int .i64 e1, .int .i64 e2, .int .i64 e3, .int .i64 e4, .int .i64 e5, .int .i64 e6, .int .i64 e7] 51 from ⟨hA.get (A := .cells bK [.string ef, .int .u64 en] 37) sR, hA.get (A := .cells bA [.int .i64 e0, .int .i64 e1, .int .i64 e2, .int .i64 e3, .int .i64 e4, .int .i64 e5, .int .i64 e6, .int .i64 e7] 51) sR⟩)
       refine tZ 1 57 (.slice lx l.length lc) (r := (fun w' hS => by simp [execOp, go_sem, Act.eval, Act.put])) (s := hS0) (h := ?_)
       go_frame
       refine tZ 3 59 ((.pointer (some ⟨bK, 0, none⟩))) (r := (fun w' hS => by kernel_rfl)) (s := hS0) (h := ?_)
       go_frame
       refine tZ 4 60 ((.string ef)) (r := (fun w' hS => run_load_one (b := bK) (j := 0) rfl (by exact rfl) hS.1 (by kernel_rfl) rfl)) (s := hS0) (h := ?_)
       go_frame
       refine tZ 5 61 ((.pointer (some ⟨bK, 1, none⟩))) (r := (fun w' hS => by kernel_rfl)) (s := hS0) (h := ?_)
       go_frame
       refine tZ 6 62 ((.int .u64 en)) (r := (fun w' hS => run_load_one (b := bK) (j := 1) rfl (by exact rfl) hS.1 (by kernel_rfl) rfl)) (s := hS0) (h := ?_)
       go_frame
       refine tZ 7 63 ((.agg #[.int .i64 e0, .int .i64 e1, .int .i64 e2, .int .i64 e3, .int .i64 e4, .int .i64 e5, .int .i64 e6, .int .i64 e7])) (r := (fun w' hS => run_load_row (ty := 51) (n := 8) rfl (by exact rfl) hS.2 (by kernel_rfl) (by kernel_rfl) rfl rfl)) (s := hS0) (h := ?_)
       go_frame
       refine tZ 8 64 ((.agg #[.string ef, .int .u64 en, .int .i64 e0, .int .i64 e1, .int .i64 e2, .int .i64 e3, .int .i64 e4, .int .i64 e5, .int .i64 e6, .int .i64 e7])) (r := (fun w' hS => by kernel_rfl)) (s := hS0) (h := ?_)
       go_frame
       refine tZ 11 67 ((.int .i64 0)) (r := (fun w' hS => by simp [execOp, go_sem, Act.eval, Act.put])) (s := hS0) (h := ?_)
       go_frame
       refine tZ 12 68 ((.bool true)) (r := (fun w' hS => by kernel_rfl)) (s := hS0) (h := ?_)
       go_frame
       clear hS0
       refine wpAnyH_two (i := 0) (j := 9) (by kernel_rfl) ?_ ?_
       · skip
         refine opZero_at 10 (i := 0) (d := some 56) (e := 53) rfl rfl rfl rfl (fun _ => by kernel_rfl) hA ?_
         intro g0 x0 hB
         clear hA; have hA := hB; clear hB
         (try simp only [Nat.zero_add, List.append_nil, List.nil_append] at hA)
         refine ⟨(show BlockIs _ bK [.string ef, .int .u64 en] 37 ∧ BlockIs _ bA [.int .i64 e0, .int .i64 e1, .int .i64 e2, .int .i64 e3, .int .i64 e4, .int .i64 e5, .int .i64 e6, .int .i64 e7] 51 from ⟨hA.get (A := .cells bK [.string ef, .int .u64 en] 37) sR, hA.get (A := .cells bA [.int .i64 e0, .int .i64 e1, .int .i64 e2, .int .i64 e3, .int .i64 e4, .int .i64 e5, .int .i64 e6, .int .i64 e7] 51) sR⟩), ?_⟩
         go_frame
         refine wpAnyH_two (i := 2) (j := 9) (by kernel_rfl) ?_ ?_
         · skip
           refine opAppend_at (k := 2) (d := some 58) (e := 53) (size := 10) (v := .slice (some ⟨g0, 0, none⟩) 0 0) (xs := []) (n := 0) (m := l.length) (news := l.flatMap En.cells) rfl rfl rfl rfl (.tmp 56) (.tmp 57) 35 rfl Tryz.underlying35 hi0 hz0 hz1 hz2 rfl (by omega) hA sR (by (try simp only [Act.eval, eV]) <;> exact rfl) (by (try simp only [Act.eval, eV]) <;> exact rfl) (flatN_len l) (hA.row_reads (v := .slice lx l.length lc) (n := l.length) (xs := l.flatMap En.cells) sZ) (flatN_one l) (by unfold maxLen; omega) (by omega) ?_
           intro v1 x2 hB
           clear hA; have hA := hB; clear hB
           (try simp only [Nat.zero_add, List.append_nil, List.nil_append] at hA)
           refine ⟨(show BlockIs _ bK [.string ef, .int .u64 en] 37 ∧ BlockIs _ bA [.int .i64 e0, .int .i64 e1, .int .i64 e2, .int .i64 e3, .int .i64 e4, .int .i64 e5, .int .i64 e6, .int .i64 e7] 51 from ⟨hA.get (A := .cells bK [.string ef, .int .u64 en] 37) sR, hA.get (A := .cells bA [.int .i64 e0, .int .i64 e1, .int .i64 e2, .int .i64 e3, .int .i64 e4, .int .i64 e5, .int .i64 e6, .int .i64 e7] 51) sR⟩), ?_⟩
           go_frame
           refine wpAnyH_one (i := 9) (by kernel_rfl) ?_
           refine opOne_at (i := 9) (d := some 65) (e := 53) rfl rfl rfl rfl (by (try simp only [Act.eval, eV]) <;> exact rfl) (vs := [.string ef, .int .u64 en, .int .i64 e0, .int .i64 e1, .int .i64 e2, .int .i64 e3, .int .i64 e4, .int .i64 e5, .int .i64 e6, .int .i64 e7]) (fun _ => by kernel_rfl) hA ?_
           intro b9 x9 hB
           clear hA; have hA := hB; clear hB
           (try simp only [Nat.zero_add, List.append_nil, List.nil_append] at hA)
           refine ⟨(show BlockIs _ bK [.string ef, .int .u64 en] 37 ∧ BlockIs _ bA [.int .i64 e0, .int .i64 e1, .int .i64 e2, .int .i64 e3, .int .i64 e4, .int .i64 e5, .int .i64 e6, .int .i64 e7] 51 from ⟨hA.get (A := .cells bK [.string ef, .int .u64 en] 37) sR, hA.get (A := .cells bA [.int .i64 e0, .int .i64 e1, .int .i64 e2, .int .i64 e3, .int .i64 e4, .int .i64 e5, .int .i64 e6, .int .i64 e7] 51) sR⟩), ?_⟩
           go_frame
           refine wpAnyH_one (i := 10) (by kernel_rfl) ?_
           refine opAppend_at (k := 10) (d := some 66) (e := 53) (size := 10) (v := v1) (xs := l.flatMap En.cells) (n := l.length) (m := 1) (news := [.string ef, .int .u64 en, .int .i64 e0, .int .i64 e1, .int .i64 e2, .int .i64 e3, .int .i64 e4, .int .i64 e5, .int .i64 e6, .int .i64 e7]) rfl rfl rfl rfl (.tmp 58) (.tmp 65) 35 rfl Tryz.underlying35 hi0 hz0 hz1 hz2 rfl (by omega) hA sR (by (try simp only [Act.eval, eV]) <;> exact rfl) (by (try simp only [Act.eval, eV]) <;> exact rfl) rfl (hA.cells_reads sZ _ _) (by intro u hu; simp only [List.mem_cons, List.not_mem_nil, or_false] at hu; rcases hu with rfl | rfl | rfl | rfl | rfl | rfl | rfl | rfl | rfl | rfl <;> rfl) (by unfold maxLen; omega) (by omega) ?_
           intro v2 x10 hB
           clear hA; have hA := hB; clear hB
           (try simp only [Nat.zero_add, List.append_nil, List.nil_append] at hA)
           refine ⟨(show BlockIs _ bK [.string ef, .int .u64 en] 37 ∧ BlockIs _ bA [.int .i64 e0, .int .i64 e1, .int .i64 e2, .int .i64 e3, .int .i64 e4, .int .i64 e5, .int .i64 e6, .int .i64 e7] 51 from ⟨hA.get (A := .cells bK [.string ef, .int .u64 en] 37) sR, hA.get (A := .cells bA [.int .i64 e0, .int .i64 e1, .int .i64 e2, .int .i64 e3, .int .i64 e4, .int .i64 e5, .int .i64 e6, .int .i64 e7] 51) sR⟩), ?_⟩
           go_frame
           have hS0 := (show BlockIs _ bK [.string ef, .int .u64 en] 37 ∧ BlockIs _ bA [.int .i64 e0, .int .i64 e1, .int .i64 e2, .int .i64 e3, .int .i64 e4, .int .i64 e5, .int .i64 e6, .int .i64 e7] 51 from ⟨hA.get (A := .cells bK [.string ef, .int .u64 en] 37) sR, hA.get (A := .cells bA [.int .i64 e0, .int .i64 e1, .int .i64 e2, .int .i64 e3, .int .i64 e4, .int .i64 e5, .int .i64 e6, .int .i64 e7] 51) sR⟩)
           refine tZ 13 6 (v2) (r := (fun w' hS => by simp [execOp, go_sem, Act.eval, Act.put])) (s := hS0) (h := ?_)
           go_frame
           refine tZ 14 7 ((.bool true)) (r := (fun w' hS => by simp [execOp, go_sem, Act.eval, Act.put])) (s := hS0) (h := ?_)
           go_frame
           refine wpAnyH_done (by kernel_rfl) ?_ _
           try go_frame
           have hF := hA.facts; (try simp only [uZ] at hA hF)
           go_wp2_with (first | ((with_reducible refine gst ?_); refine wT hA ?_; clear hF hA; intro w1 hA hF; (try simp only [uZ] at hA hF)) | ((with_reducible refine gbx ?_); refine wC hA ?_; clear hF hA; intro b1 w1 hA hb1 hF; (try simp only [uZ] at hA hF)))
           have hA := (show At _ _ (rowN v2 (l ++ [⟨ef, en, ⟨e0, e1, e2, e3, e4, e5, e6, e7⟩⟩]) :: _) _ from (rowN_snoc v2 l ⟨ef, en, ⟨e0, e1, e2, e3, e4, e5, e6, e7⟩⟩) ▸ hA)
           refine bodyPost_ret (v := .tuple #[v2, .bool true]) (by simp [results, Tryz.results9, go_sem]) rfl ⟨_, rfl, hA.pick pZ⟩
         · skip
           refine opOne_at (i := 9) (d := some 65) (e := 53) rfl rfl rfl rfl (by (try simp only [Act.eval, eV]) <;> exact rfl) (vs := [.string ef, .int .u64 en, .int .i64 e0, .int .i64 e1, .int .i64 e2, .int .i64 e3, .int .i64 e4, .int .i64 e5, .int .i64 e6, .int .i64 e7]) (fun _ => by kernel_rfl) hA ?_
           intro b9 x9 hB
           clear hA; have hA := hB; clear hB
           (try simp only [Nat.zero_add, List.append_nil, List.nil_append] at hA)
           refine ⟨(show BlockIs _ bK [.string ef, .int .u64 en] 37 ∧ BlockIs _ bA [.int .i64 e0, .int .i64 e1, .int .i64 e2, .int .i64 e3, .int .i64 e4, .int .i64 e5, .int .i64 e6, .int .i64 e7] 51 from ⟨hA.get (A := .cells bK [.string ef, .int .u64 en] 37) sR, hA.get (A := .cells bA [.int .i64 e0, .int .i64 e1, .int .i64 e2, .int .i64 e3, .int .i64 e4, .int .i64 e5, .int .i64 e6, .int .i64 e7] 51) sR⟩), ?_⟩
           go_frame
           refine wpAnyH_one (i := 2) (by kernel_rfl) ?_
           refine opAppend_at (k := 2) (d := some 58) (e := 53) (size := 10) (v := .slice (some ⟨g0, 0, none⟩) 0 0) (xs := []) (n := 0) (m := l.length) (news := l.flatMap En.cells) rfl rfl rfl rfl (.tmp 56) (.tmp 57) 35 rfl Tryz.underlying35 hi0 hz0 hz1 hz2 rfl (by omega) hA sR (by (try simp only [Act.eval, eV]) <;> exact rfl) (by (try simp only [Act.eval, eV]) <;> exact rfl) (flatN_len l) (hA.row_reads (v := .slice lx l.length lc) (n := l.length) (xs := l.flatMap En.cells) sZ) (flatN_one l) (by unfold maxLen; omega) (by omega) ?_
           intro v1 x2 hB
           clear hA; have hA := hB; clear hB
           (try simp only [Nat.zero_add, List.append_nil, List.nil_append] at hA)
           refine ⟨(show BlockIs _ bK [.string ef, .int .u64 en] 37 ∧ BlockIs _ bA [.int .i64 e0, .int .i64 e1, .int .i64 e2, .int .i64 e3, .int .i64 e4, .int .i64 e5, .int .i64 e6, .int .i64 e7] 51 from ⟨hA.get (A := .cells bK [.string ef, .int .u64 en] 37) sR, hA.get (A := .cells bA [.int .i64 e0, .int .i64 e1, .int .i64 e2, .int .i64 e3, .int .i64 e4, .int .i64 e5, .int .i64 e6, .int .i64 e7] 51) sR⟩), ?_⟩
           go_frame
           refine wpAnyH_one (i := 10) (by kernel_rfl) ?_
           refine opAppend_at (k := 10) (d := some 66) (e := 53) (size := 10) (v := v1) (xs := l.flatMap En.cells) (n := l.length) (m := 1) (news := [.string ef, .int .u64 en, .int .i64 e0, .int .i64 e1, .int .i64 e2, .int .i64 e3, .int .i64 e4, .int .i64 e5, .int .i64 e6, .int .i64 e7]) rfl rfl rfl rfl (.tmp 58) (.tmp 65) 35 rfl Tryz.underlying35 hi0 hz0 hz1 hz2 rfl (by omega) hA sR (by (try simp only [Act.eval, eV]) <;> exact rfl) (by (try simp only [Act.eval, eV]) <;> exact rfl) rfl (hA.cells_reads sZ _ _) (by intro u hu; simp only [List.mem_cons, List.not_mem_nil, or_false] at hu; rcases hu with rfl | rfl | rfl | rfl | rfl | rfl | rfl | rfl | rfl | rfl <;> rfl) (by unfold maxLen; omega) (by omega) ?_
           intro v2 x10 hB
           clear hA; have hA := hB; clear hB
           (try simp only [Nat.zero_add, List.append_nil, List.nil_append] at hA)
           refine ⟨(show BlockIs _ bK [.string ef, .int .u64 en] 37 ∧ BlockIs _ bA [.int .i64 e0, .int .i64 e1, .int .i64 e2, .int .i64 e3, .int .i64 e4, .int .i64 e5, .int .i64 e6, .int .i64 e7] 51 from ⟨hA.get (A := .cells bK [.string ef, .int .u64 en] 37) sR, hA.get (A := .cells bA [.int .i64 e0, .int .i64 e1, .int .i64 e2, .int .i64 e3, .int .i64 e4, .int .i64 e5, .int .i64 e6, .int .i64 e7] 51) sR⟩), ?_⟩
           go_frame
           have hS0 := (show BlockIs _ bK [.string ef, .int .u64 en] 37 ∧ BlockIs _ bA [.int .i64 e0, .int .i64 e1, .int .i64 e2, .int .i64 e3, .int .i64 e4, .int .i64 e5, .int .i64 e6, .int .i64 e7] 51 from ⟨hA.get (A := .cells bK [.string ef, .int .u64 en] 37) sR, hA.get (A := .cells bA [.int .i64 e0, .int .i64 e1, .int .i64 e2, .int .i64 e3, .int .i64 e4, .int .i64 e5, .int .i64 e6, .int .i64 e7] 51) sR⟩)
           refine tZ 13 6 (v2) (r := (fun w' hS => by simp [execOp, go_sem, Act.eval, Act.put])) (s := hS0) (h := ?_)
           go_frame
           refine tZ 14 7 ((.bool true)) (r := (fun w' hS => by simp [execOp, go_sem, Act.eval, Act.put])) (s := hS0) (h := ?_)
           go_frame
           refine wpAnyH_done (by kernel_rfl) ?_ _
           try go_frame
           have hF := hA.facts; (try simp only [uZ] at hA hF)
           go_wp2_with (first | ((with_reducible refine gst ?_); refine wT hA ?_; clear hF hA; intro w1 hA hF; (try simp only [uZ] at hA hF)) | ((with_reducible refine gbx ?_); refine wC hA ?_; clear hF hA; intro b1 w1 hA hb1 hF; (try simp only [uZ] at hA hF)))
           have hA := (show At _ _ (rowN v2 (l ++ [⟨ef, en, ⟨e0, e1, e2, e3, e4, e5, e6, e7⟩⟩]) :: _) _ from (rowN_snoc v2 l ⟨ef, en, ⟨e0, e1, e2, e3, e4, e5, e6, e7⟩⟩) ▸ hA)
           refine bodyPost_ret (v := .tuple #[v2, .bool true]) (by simp [results, Tryz.results9, go_sem]) rfl ⟨_, rfl, hA.pick pZ⟩
       · skip
         refine opOne_at (i := 9) (d := some 65) (e := 53) rfl rfl rfl rfl (by (try simp only [Act.eval, eV]) <;> exact rfl) (vs := [.string ef, .int .u64 en, .int .i64 e0, .int .i64 e1, .int .i64 e2, .int .i64 e3, .int .i64 e4, .int .i64 e5, .int .i64 e6, .int .i64 e7]) (fun _ => by kernel_rfl) hA ?_
         intro b9 x9 hB
         clear hA; have hA := hB; clear hB
         (try simp only [Nat.zero_add, List.append_nil, List.nil_append] at hA)
         refine ⟨(show BlockIs _ bK [.string ef, .int .u64 en] 37 ∧ BlockIs _ bA [.int .i64 e0, .int .i64 e1, .int .i64 e2, .int .i64 e3, .int .i64 e4, .int .i64 e5, .int .i64 e6, .int .i64 e7] 51 from ⟨hA.get (A := .cells bK [.string ef, .int .u64 en] 37) sR, hA.get (A := .cells bA [.int .i64 e0, .int .i64 e1, .int .i64 e2, .int .i64 e3, .int .i64 e4, .int .i64 e5, .int .i64 e6, .int .i64 e7] 51) sR⟩), ?_⟩
         go_frame
         refine wpAnyH_one (i := 0) (by kernel_rfl) ?_
         refine opZero_at 10 (i := 0) (d := some 56) (e := 53) rfl rfl rfl rfl (fun _ => by kernel_rfl) hA ?_
         intro g0 x0 hB
         clear hA; have hA := hB; clear hB
         (try simp only [Nat.zero_add, List.append_nil, List.nil_append] at hA)
         refine ⟨(show BlockIs _ bK [.string ef, .int .u64 en] 37 ∧ BlockIs _ bA [.int .i64 e0, .int .i64 e1, .int .i64 e2, .int .i64 e3, .int .i64 e4, .int .i64 e5, .int .i64 e6, .int .i64 e7] 51 from ⟨hA.get (A := .cells bK [.string ef, .int .u64 en] 37) sR, hA.get (A := .cells bA [.int .i64 e0, .int .i64 e1, .int .i64 e2, .int .i64 e3, .int .i64 e4, .int .i64 e5, .int .i64 e6, .int .i64 e7] 51) sR⟩), ?_⟩
         go_frame
         refine wpAnyH_one (i := 2) (by kernel_rfl) ?_
         refine opAppend_at (k := 2) (d := some 58) (e := 53) (size := 10) (v := .slice (some ⟨g0, 0, none⟩) 0 0) (xs := []) (n := 0) (m := l.length) (news := l.flatMap En.cells) rfl rfl rfl rfl (.tmp 56) (.tmp 57) 35 rfl Tryz.underlying35 hi0 hz0 hz1 hz2 rfl (by omega) hA sR (by (try simp only [Act.eval, eV]) <;> exact rfl) (by (try simp only [Act.eval, eV]) <;> exact rfl) (flatN_len l) (hA.row_reads (v := .slice lx l.length lc) (n := l.length) (xs := l.flatMap En.cells) sZ) (flatN_one l) (by unfold maxLen; omega) (by omega) ?_
         intro v1 x2 hB
         clear hA; have hA := hB; clear hB
         (try simp only [Nat.zero_add, List.append_nil, List.nil_append] at hA)
         refine ⟨(show BlockIs _ bK [.string ef, .int .u64 en] 37 ∧ BlockIs _ bA [.int .i64 e0, .int .i64 e1, .int .i64 e2, .int .i64 e3, .int .i64 e4, .int .i64 e5, .int .i64 e6, .int .i64 e7] 51 from ⟨hA.get (A := .cells bK [.string ef, .int .u64 en] 37) sR, hA.get (A := .cells bA [.int .i64 e0, .int .i64 e1, .int .i64 e2, .int .i64 e3, .int .i64 e4, .int .i64 e5, .int .i64 e6, .int .i64 e7] 51) sR⟩), ?_⟩
         go_frame
         refine wpAnyH_one (i := 10) (by kernel_rfl) ?_
         refine opAppend_at (k := 10) (d := some 66) (e := 53) (size := 10) (v := v1) (xs := l.flatMap En.cells) (n := l.length) (m := 1) (news := [.string ef, .int .u64 en, .int .i64 e0, .int .i64 e1, .int .i64 e2, .int .i64 e3, .int .i64 e4, .int .i64 e5, .int .i64 e6, .int .i64 e7]) rfl rfl rfl rfl (.tmp 58) (.tmp 65) 35 rfl Tryz.underlying35 hi0 hz0 hz1 hz2 rfl (by omega) hA sR (by (try simp only [Act.eval, eV]) <;> exact rfl) (by (try simp only [Act.eval, eV]) <;> exact rfl) rfl (hA.cells_reads sZ _ _) (by intro u hu; simp only [List.mem_cons, List.not_mem_nil, or_false] at hu; rcases hu with rfl | rfl | rfl | rfl | rfl | rfl | rfl | rfl | rfl | rfl <;> rfl) (by unfold maxLen; omega) (by omega) ?_
         intro v2 x10 hB
         clear hA; have hA := hB; clear hB
         (try simp only [Nat.zero_add, List.append_nil, List.nil_append] at hA)
         refine ⟨(show BlockIs _ bK [.string ef, .int .u64 en] 37 ∧ BlockIs _ bA [.int .i64 e0, .int .i64 e1, .int .i64 e2, .int .i64 e3, .int .i64 e4, .int .i64 e5, .int .i64 e6, .int .i64 e7] 51 from ⟨hA.get (A := .cells bK [.string ef, .int .u64 en] 37) sR, hA.get (A := .cells bA [.int .i64 e0, .int .i64 e1, .int .i64 e2, .int .i64 e3, .int .i64 e4, .int .i64 e5, .int .i64 e6, .int .i64 e7] 51) sR⟩), ?_⟩
         go_frame
         have hS0 := (show BlockIs _ bK [.string ef, .int .u64 en] 37 ∧ BlockIs _ bA [.int .i64 e0, .int .i64 e1, .int .i64 e2, .int .i64 e3, .int .i64 e4, .int .i64 e5, .int .i64 e6, .int .i64 e7] 51 from ⟨hA.get (A := .cells bK [.string ef, .int .u64 en] 37) sR, hA.get (A := .cells bA [.int .i64 e0, .int .i64 e1, .int .i64 e2, .int .i64 e3, .int .i64 e4, .int .i64 e5, .int .i64 e6, .int .i64 e7] 51) sR⟩)
         refine tZ 13 6 (v2) (r := (fun w' hS => by simp [execOp, go_sem, Act.eval, Act.put])) (s := hS0) (h := ?_)
         go_frame
         refine tZ 14 7 ((.bool true)) (r := (fun w' hS => by simp [execOp, go_sem, Act.eval, Act.put])) (s := hS0) (h := ?_)
         go_frame
         refine wpAnyH_done (by kernel_rfl) ?_ _
         try go_frame
         have hF := hA.facts; (try simp only [uZ] at hA hF)
         go_wp2_with (first | ((with_reducible refine gst ?_); refine wT hA ?_; clear hF hA; intro w1 hA hF; (try simp only [uZ] at hA hF)) | ((with_reducible refine gbx ?_); refine wC hA ?_; clear hF hA; intro b1 w1 hA hb1 hF; (try simp only [uZ] at hA hF)))
         have hA := (show At _ _ (rowN v2 (l ++ [⟨ef, en, ⟨e0, e1, e2, e3, e4, e5, e6, e7⟩⟩]) :: _) _ from (rowN_snoc v2 l ⟨ef, en, ⟨e0, e1, e2, e3, e4, e5, e6, e7⟩⟩) ▸ hA)
         refine bodyPost_ret (v := .tuple #[v2, .bool true]) (by simp [results, Tryz.results9, go_sem]) rfl ⟨_, rfl, hA.pick pZ⟩
     · skip
       refine opAlloc_at (i := 7) (d := some 10) rfl rfl rfl (E := 51) rfl (z := .agg #[.int .i64 0, .int .i64 0, .int .i64 0, .int .i64 0, .int .i64 0, .int .i64 0, .int .i64 0, .int .i64 0]) (vs := [.int .i64 0, .int .i64 0, .int .i64 0, .int .i64 0, .int .i64 0, .int .i64 0, .int .i64 0, .int .i64 0]) (by kernel_rfl) (by first | exact rfl | kernel_rfl) hA ?_
       intro bA z7 hB
       clear hA; have hA := hB; clear hB
       refine ⟨(show BlockIs _ b5 [.int .i64 2, .int .i64 kind, .int .u64 num, .string foot, .int .u64 req, .string path, .int .i64 mode, .int .u64 n, .int .i64 time, .int .i64 r, .int .i64 t, .int .i64 q, .string ef, .int .u64 en, .int .i64 e0, .int .i64 e1, .int .i64 e2, .int .i64 e3, .int .i64 e4, .int .i64 e5, .int .i64 e6, .int .i64 e7] 44 from hA.get (A := .cells b5 [.int .i64 2, .int .i64 kind, .int .u64 num, .string foot, .int .u64 req, .string path, .int .i64 mode, .int .u64 n, .int .i64 time, .int .i64 r, .int .i64 t, .int .i64 q, .string ef, .int .u64 en, .int .i64 e0, .int .i64 e1, .int .i64 e2, .int .i64 e3, .int .i64 e4, .int .i64 e5, .int .i64 e6, .int .i64 e7] 44) sR), ?_⟩
       go_frame
       refine wpAnyH_one (i := 6) (by kernel_rfl) ?_
       refine opAlloc_at (i := 6) (d := some 9) rfl rfl rfl (E := 37) rfl (z := .agg #[.string .empty, .int .u64 0]) (vs := [.string .empty, .int .u64 0]) (by kernel_rfl) (by first | exact rfl | kernel_rfl) hA ?_
       intro bK z6 hB
       clear hA; have hA := hB; clear hB
       refine ⟨(show BlockIs _ b5 [.int .i64 2, .int .i64 kind, .int .u64 num, .string foot, .int .u64 req, .string path, .int .i64 mode, .int .u64 n, .int .i64 time, .int .i64 r, .int .i64 t, .int .i64 q, .string ef, .int .u64 en, .int .i64 e0, .int .i64 e1, .int .i64 e2, .int .i64 e3, .int .i64 e4, .int .i64 e5, .int .i64 e6, .int .i64 e7] 44 from hA.get (A := .cells b5 [.int .i64 2, .int .i64 kind, .int .u64 num, .string foot, .int .u64 req, .string path, .int .i64 mode, .int .u64 n, .int .i64 time, .int .i64 r, .int .i64 t, .int .i64 q, .string ef, .int .u64 en, .int .i64 e0, .int .i64 e1, .int .i64 e2, .int .i64 e3, .int .i64 e4, .int .i64 e5, .int .i64 e6, .int .i64 e7] 44) sR), ?_⟩
       go_frame
       refine wpAnyH_one (i := 8) (by kernel_rfl) ?_
       refine opStore_at (i := 8) (x := .tmp 9) (y := .tmp 40) (ty := 37) (b := bK) (j := 0) (v := .agg #[.string ef, .int .u64 en]) (vs := [.string ef, .int .u64 en]) rfl rfl rfl rfl (by (try simp only [Act.eval, eV]) <;> exact rfl) (by (try simp only [Act.eval, eV]) <;> exact rfl) (by first | exact rfl | kernel_rfl) hA (c := [.string .empty, .int .u64 0]) sR (by kernel_rfl) (by simp [Value.oneCell']) (by simp) ?_
       intro y8 hB
       clear hA; have hA := hB; clear hB
       simp only [setL, List.set_cons_zero, List.set_cons_succ] at hA
       refine ⟨(show BlockIs _ b5 [.int .i64 2, .int .i64 kind, .int .u64 num, .string foot, .int .u64 req, .string path, .int .i64 mode, .int .u64 n, .int .i64 time, .int .i64 r, .int .i64 t, .int .i64 q, .string ef, .int .u64 en, .int .i64 e0, .int .i64 e1, .int .i64 e2, .int .i64 e3, .int .i64 e4, .int .i64 e5, .int .i64 e6, .int .i64 e7] 44 from hA.get (A := .cells b5 [.int .i64 2, .int .i64 kind, .int .u64 num, .string foot, .int .u64 req, .string path, .int .i64 mode, .int .u64 n, .int .i64 time, .int .i64 r, .int .i64 t, .int .i64 q, .string ef, .int .u64 en, .int .i64 e0, .int .i64 e1, .int .i64 e2, .int .i64 e3, .int .i64 e4, .int .i64 e5, .int .i64 e6, .int .i64 e7] 44) sR), ?_⟩
       try go_frame
       refine wpAnyH_one (i := 9) (by kernel_rfl) ?_
       refine opStore_at (i := 9) (x := .tmp 10) (y := .tmp 43) (ty := 51) (b := bA) (j := 0) (v := .agg #[.int .i64 e0, .int .i64 e1, .int .i64 e2, .int .i64 e3, .int .i64 e4, .int .i64 e5, .int .i64 e6, .int .i64 e7]) (vs := [.int .i64 e0, .int .i64 e1, .int .i64 e2, .int .i64 e3, .int .i64 e4, .int .i64 e5, .int .i64 e6, .int .i64 e7]) rfl rfl rfl rfl (by (try simp only [Act.eval, eV]) <;> exact rfl) (by (try simp only [Act.eval, eV]) <;> exact rfl) (by first | exact rfl | kernel_rfl) hA (c := [.int .i64 0, .int .i64 0, .int .i64 0, .int .i64 0, .int .i64 0, .int .i64 0, .int .i64 0, .int .i64 0]) sR (by kernel_rfl) (by simp [Value.oneCell']) (by simp) ?_
       intro y9 hB
       clear hA; have hA := hB; clear hB
       simp only [setL, List.set_cons_zero, List.set_cons_succ] at hA
       refine ⟨(show BlockIs _ b5 [.int .i64 2, .int .i64 kind, .int .u64 num, .string foot, .int .u64 req, .string path, .int .i64 mode, .int .u64 n, .int .i64 time, .int .i64 r, .int .i64 t, .int .i64 q, .string ef, .int .u64 en, .int .i64 e0, .int .i64 e1, .int .i64 e2, .int .i64 e3, .int .i64 e4, .int .i64 e5, .int .i64 e6, .int .i64 e7] 44 from hA.get (A := .cells b5 [.int .i64 2, .int .i64 kind, .int .u64 num, .string foot, .int .u64 req, .string path, .int .i64 mode, .int .u64 n, .int .i64 time, .int .i64 r, .int .i64 t, .int .i64 q, .string ef, .int .u64 en, .int .i64 e0, .int .i64 e1, .int .i64 e2, .int .i64 e3, .int .i64 e4, .int .i64 e5, .int .i64 e6, .int .i64 e7] 44) sR), ?_⟩
       try go_frame
       refine wpAnyH_done (by kernel_rfl) ?_ _
       try go_frame
       have hF := hA.facts; (try simp only [uZ] at hA hF)
       go_wp2_with (first | ((with_reducible refine gst ?_); refine wT hA ?_; clear hF hA; intro w1 hA hF; (try simp only [uZ] at hA hF)) | ((with_reducible refine gbx ?_); refine wC hA ?_; clear hF hA; intro b1 w1 hA hb1 hF; (try simp only [uZ] at hA hF)))
       refine (hpr _).mono ?_
       rintro e w1 ⟨rfl, hx⟩
       have hB := hA.ext hx
       clear hF hA hx; have hA := hB; clear hB
       have hF := hA.facts; (try simp only [uZ] at hA hF)
       go_wp2_with (first | ((with_reducible refine gst ?_); refine wT hA ?_; clear hF hA; intro w1 hA hF; (try simp only [uZ] at hA hF)) | ((with_reducible refine gbx ?_); refine wC hA ?_; clear hF hA; intro b1 w1 hA hb1 hF; (try simp only [uZ] at hA hF)))
       refine (har _).mono ?_
       rintro e w1 ⟨rfl, hx⟩
       have hB := hA.ext hx
       clear hF hA hx; have hA := hB; clear hB
       have hF := hA.facts; (try simp only [uZ] at hA hF)
       go_wp2_with (first | ((with_reducible refine gst ?_); refine wT hA ?_; clear hF hA; intro w1 hA hF; (try simp only [uZ] at hA hF)) | ((with_reducible refine gbx ?_); refine wC hA ?_; clear hF hA; intro b1 w1 hA hb1 hF; (try simp only [uZ] at hA hF)))
       have hB := hA.row_nil 53 10
       clear hF hA; have hA := hB; clear hB
       have hF := hA.facts
       try go_frame
       have hm : Tryz.prog.follows .mixedOrders = true := by kernel_rfl
       have hAd := hA.drew
       clear hF hA
       have hA := hAd
       clear hAd
       refine wp_region_held (S := fun w' => BlockIs w' bK [.string ef, .int .u64 en] 37 ∧ BlockIs w' bA [.int .i64 e0, .int .i64 e1, .int .i64 e2, .int .i64 e3, .int .i64 e4, .int .i64 e5, .int .i64 e6, .int .i64 e7] 51) hm ?_
       change wpAnyH _ _ _ _ _ 15 _ _ (World.drew _)
       generalize World.drew _ = w2 at *
       have hS0 := (show BlockIs _ bK [.string ef, .int .u64 en] 37 ∧ BlockIs _ bA [.int .i64 e0, .int .i64 e1, .int .i64 e2, .int .i64 e3, .int .i64 e4, .int .i64 e5, .int .i64 e6, .int .i64 e7] 51 from ⟨hA.get (A := .cells bK [.string ef, .int .u64 en] 37) sR, hA.get (A := .cells bA [.int .i64 e0, .int .i64 e1, .int .i64 e2, .int .i64 e3, .int .i64 e4, .int .i64 e5, .int .i64 e6, .int .i64 e7] 51) sR⟩)
       refine tZ 1 57 (.slice lx l.length lc) (r := (fun w' hS => by simp [execOp, go_sem, Act.eval, Act.put])) (s := hS0) (h := ?_)
       go_frame
       refine tZ 3 59 ((.pointer (some ⟨bK, 0, none⟩))) (r := (fun w' hS => by kernel_rfl)) (s := hS0) (h := ?_)
       go_frame
       refine tZ 4 60 ((.string ef)) (r := (fun w' hS => run_load_one (b := bK) (j := 0) rfl (by exact rfl) hS.1 (by kernel_rfl) rfl)) (s := hS0) (h := ?_)
       go_frame
       refine tZ 5 61 ((.pointer (some ⟨bK, 1, none⟩))) (r := (fun w' hS => by kernel_rfl)) (s := hS0) (h := ?_)
       go_frame
       refine tZ 6 62 ((.int .u64 en)) (r := (fun w' hS => run_load_one (b := bK) (j := 1) rfl (by exact rfl) hS.1 (by kernel_rfl) rfl)) (s := hS0) (h := ?_)
       go_frame
       refine tZ 7 63 ((.agg #[.int .i64 e0, .int .i64 e1, .int .i64 e2, .int .i64 e3, .int .i64 e4, .int .i64 e5, .int .i64 e6, .int .i64 e7])) (r := (fun w' hS => run_load_row (ty := 51) (n := 8) rfl (by exact rfl) hS.2 (by kernel_rfl) (by kernel_rfl) rfl rfl)) (s := hS0) (h := ?_)
       go_frame
       refine tZ 8 64 ((.agg #[.string ef, .int .u64 en, .int .i64 e0, .int .i64 e1, .int .i64 e2, .int .i64 e3, .int .i64 e4, .int .i64 e5, .int .i64 e6, .int .i64 e7])) (r := (fun w' hS => by kernel_rfl)) (s := hS0) (h := ?_)
       go_frame
       refine tZ 11 67 ((.int .i64 0)) (r := (fun w' hS => by simp [execOp, go_sem, Act.eval, Act.put])) (s := hS0) (h := ?_)
       go_frame
       refine tZ 12 68 ((.bool true)) (r := (fun w' hS => by kernel_rfl)) (s := hS0) (h := ?_)
       go_frame
       clear hS0
       refine wpAnyH_two (i := 0) (j := 9) (by kernel_rfl) ?_ ?_
       · skip
         refine opZero_at 10 (i := 0) (d := some 56) (e := 53) rfl rfl rfl rfl (fun _ => by kernel_rfl) hA ?_
         intro g0 x0 hB
         clear hA; have hA := hB; clear hB
         (try simp only [Nat.zero_add, List.append_nil, List.nil_append] at hA)
         refine ⟨(show BlockIs _ bK [.string ef, .int .u64 en] 37 ∧ BlockIs _ bA [.int .i64 e0, .int .i64 e1, .int .i64 e2, .int .i64 e3, .int .i64 e4, .int .i64 e5, .int .i64 e6, .int .i64 e7] 51 from ⟨hA.get (A := .cells bK [.string ef, .int .u64 en] 37) sR, hA.get (A := .cells bA [.int .i64 e0, .int .i64 e1, .int .i64 e2, .int .i64 e3, .int .i64 e4, .int .i64 e5, .int .i64 e6, .int .i64 e7] 51) sR⟩), ?_⟩
         go_frame
         refine wpAnyH_two (i := 2) (j := 9) (by kernel_rfl) ?_ ?_
         · skip
           refine opAppend_at (k := 2) (d := some 58) (e := 53) (size := 10) (v := .slice (some ⟨g0, 0, none⟩) 0 0) (xs := []) (n := 0) (m := l.length) (news := l.flatMap En.cells) rfl rfl rfl rfl (.tmp 56) (.tmp 57) 35 rfl Tryz.underlying35 hi0 hz0 hz1 hz2 rfl (by omega) hA sR (by (try simp only [Act.eval, eV]) <;> exact rfl) (by (try simp only [Act.eval, eV]) <;> exact rfl) (flatN_len l) (hA.row_reads (v := .slice lx l.length lc) (n := l.length) (xs := l.flatMap En.cells) sZ) (flatN_one l) (by unfold maxLen; omega) (by omega) ?_
           intro v1 x2 hB
           clear hA; have hA := hB; clear hB
           (try simp only [Nat.zero_add, List.append_nil, List.nil_append] at hA)
           refine ⟨(show BlockIs _ bK [.string ef, .int .u64 en] 37 ∧ BlockIs _ bA [.int .i64 e0, .int .i64 e1, .int .i64 e2, .int .i64 e3, .int .i64 e4, .int .i64 e5, .int .i64 e6, .int .i64 e7] 51 from ⟨hA.get (A := .cells bK [.string ef, .int .u64 en] 37) sR, hA.get (A := .cells bA [.int .i64 e0, .int .i64 e1, .int .i64 e2, .int .i64 e3, .int .i64 e4, .int .i64 e5, .int .i64 e6, .int .i64 e7] 51) sR⟩), ?_⟩
           go_frame
           refine wpAnyH_one (i := 9) (by kernel_rfl) ?_
           refine opOne_at (i := 9) (d := some 65) (e := 53) rfl rfl rfl rfl (by (try simp only [Act.eval, eV]) <;> exact rfl) (vs := [.string ef, .int .u64 en, .int .i64 e0, .int .i64 e1, .int .i64 e2, .int .i64 e3, .int .i64 e4, .int .i64 e5, .int .i64 e6, .int .i64 e7]) (fun _ => by kernel_rfl) hA ?_
           intro b9 x9 hB
           clear hA; have hA := hB; clear hB
           (try simp only [Nat.zero_add, List.append_nil, List.nil_append] at hA)
           refine ⟨(show BlockIs _ bK [.string ef, .int .u64 en] 37 ∧ BlockIs _ bA [.int .i64 e0, .int .i64 e1, .int .i64 e2, .int .i64 e3, .int .i64 e4, .int .i64 e5, .int .i64 e6, .int .i64 e7] 51 from ⟨hA.get (A := .cells bK [.string ef, .int .u64 en] 37) sR, hA.get (A := .cells bA [.int .i64 e0, .int .i64 e1, .int .i64 e2, .int .i64 e3, .int .i64 e4, .int .i64 e5, .int .i64 e6, .int .i64 e7] 51) sR⟩), ?_⟩
           go_frame
           refine wpAnyH_one (i := 10) (by kernel_rfl) ?_
           refine opAppend_at (k := 10) (d := some 66) (e := 53) (size := 10) (v := v1) (xs := l.flatMap En.cells) (n := l.length) (m := 1) (news := [.string ef, .int .u64 en, .int .i64 e0, .int .i64 e1, .int .i64 e2, .int .i64 e3, .int .i64 e4, .int .i64 e5, .int .i64 e6, .int .i64 e7]) rfl rfl rfl rfl (.tmp 58) (.tmp 65) 35 rfl Tryz.underlying35 hi0 hz0 hz1 hz2 rfl (by omega) hA sR (by (try simp only [Act.eval, eV]) <;> exact rfl) (by (try simp only [Act.eval, eV]) <;> exact rfl) rfl (hA.cells_reads sZ _ _) (by intro u hu; simp only [List.mem_cons, List.not_mem_nil, or_false] at hu; rcases hu with rfl | rfl | rfl | rfl | rfl | rfl | rfl | rfl | rfl | rfl <;> rfl) (by unfold maxLen; omega) (by omega) ?_
           intro v2 x10 hB
           clear hA; have hA := hB; clear hB
           (try simp only [Nat.zero_add, List.append_nil, List.nil_append] at hA)
           refine ⟨(show BlockIs _ bK [.string ef, .int .u64 en] 37 ∧ BlockIs _ bA [.int .i64 e0, .int .i64 e1, .int .i64 e2, .int .i64 e3, .int .i64 e4, .int .i64 e5, .int .i64 e6, .int .i64 e7] 51 from ⟨hA.get (A := .cells bK [.string ef, .int .u64 en] 37) sR, hA.get (A := .cells bA [.int .i64 e0, .int .i64 e1, .int .i64 e2, .int .i64 e3, .int .i64 e4, .int .i64 e5, .int .i64 e6, .int .i64 e7] 51) sR⟩), ?_⟩
           go_frame
           have hS0 := (show BlockIs _ bK [.string ef, .int .u64 en] 37 ∧ BlockIs _ bA [.int .i64 e0, .int .i64 e1, .int .i64 e2, .int .i64 e3, .int .i64 e4, .int .i64 e5, .int .i64 e6, .int .i64 e7] 51 from ⟨hA.get (A := .cells bK [.string ef, .int .u64 en] 37) sR, hA.get (A := .cells bA [.int .i64 e0, .int .i64 e1, .int .i64 e2, .int .i64 e3, .int .i64 e4, .int .i64 e5, .int .i64 e6, .int .i64 e7] 51) sR⟩)
           refine tZ 13 6 (v2) (r := (fun w' hS => by simp [execOp, go_sem, Act.eval, Act.put])) (s := hS0) (h := ?_)
           go_frame
           refine tZ 14 7 ((.bool true)) (r := (fun w' hS => by simp [execOp, go_sem, Act.eval, Act.put])) (s := hS0) (h := ?_)
           go_frame
           refine wpAnyH_done (by kernel_rfl) ?_ _
           try go_frame
           have hF := hA.facts; (try simp only [uZ] at hA hF)
           go_wp2_with (first | ((with_reducible refine gst ?_); refine wT hA ?_; clear hF hA; intro w1 hA hF; (try simp only [uZ] at hA hF)) | ((with_reducible refine gbx ?_); refine wC hA ?_; clear hF hA; intro b1 w1 hA hb1 hF; (try simp only [uZ] at hA hF)))
           have hA := (show At _ _ (rowN v2 (l ++ [⟨ef, en, ⟨e0, e1, e2, e3, e4, e5, e6, e7⟩⟩]) :: _) _ from (rowN_snoc v2 l ⟨ef, en, ⟨e0, e1, e2, e3, e4, e5, e6, e7⟩⟩) ▸ hA)
           refine bodyPost_ret (v := .tuple #[v2, .bool true]) (by simp [results, Tryz.results9, go_sem]) rfl ⟨_, rfl, hA.pick pZ⟩
         · skip
           refine opOne_at (i := 9) (d := some 65) (e := 53) rfl rfl rfl rfl (by (try simp only [Act.eval, eV]) <;> exact rfl) (vs := [.string ef, .int .u64 en, .int .i64 e0, .int .i64 e1, .int .i64 e2, .int .i64 e3, .int .i64 e4, .int .i64 e5, .int .i64 e6, .int .i64 e7]) (fun _ => by kernel_rfl) hA ?_
           intro b9 x9 hB
           clear hA; have hA := hB; clear hB
           (try simp only [Nat.zero_add, List.append_nil, List.nil_append] at hA)
           refine ⟨(show BlockIs _ bK [.string ef, .int .u64 en] 37 ∧ BlockIs _ bA [.int .i64 e0, .int .i64 e1, .int .i64 e2, .int .i64 e3, .int .i64 e4, .int .i64 e5, .int .i64 e6, .int .i64 e7] 51 from ⟨hA.get (A := .cells bK [.string ef, .int .u64 en] 37) sR, hA.get (A := .cells bA [.int .i64 e0, .int .i64 e1, .int .i64 e2, .int .i64 e3, .int .i64 e4, .int .i64 e5, .int .i64 e6, .int .i64 e7] 51) sR⟩), ?_⟩
           go_frame
           refine wpAnyH_one (i := 2) (by kernel_rfl) ?_
           refine opAppend_at (k := 2) (d := some 58) (e := 53) (size := 10) (v := .slice (some ⟨g0, 0, none⟩) 0 0) (xs := []) (n := 0) (m := l.length) (news := l.flatMap En.cells) rfl rfl rfl rfl (.tmp 56) (.tmp 57) 35 rfl Tryz.underlying35 hi0 hz0 hz1 hz2 rfl (by omega) hA sR (by (try simp only [Act.eval, eV]) <;> exact rfl) (by (try simp only [Act.eval, eV]) <;> exact rfl) (flatN_len l) (hA.row_reads (v := .slice lx l.length lc) (n := l.length) (xs := l.flatMap En.cells) sZ) (flatN_one l) (by unfold maxLen; omega) (by omega) ?_
           intro v1 x2 hB
           clear hA; have hA := hB; clear hB
           (try simp only [Nat.zero_add, List.append_nil, List.nil_append] at hA)
           refine ⟨(show BlockIs _ bK [.string ef, .int .u64 en] 37 ∧ BlockIs _ bA [.int .i64 e0, .int .i64 e1, .int .i64 e2, .int .i64 e3, .int .i64 e4, .int .i64 e5, .int .i64 e6, .int .i64 e7] 51 from ⟨hA.get (A := .cells bK [.string ef, .int .u64 en] 37) sR, hA.get (A := .cells bA [.int .i64 e0, .int .i64 e1, .int .i64 e2, .int .i64 e3, .int .i64 e4, .int .i64 e5, .int .i64 e6, .int .i64 e7] 51) sR⟩), ?_⟩
           go_frame
           refine wpAnyH_one (i := 10) (by kernel_rfl) ?_
           refine opAppend_at (k := 10) (d := some 66) (e := 53) (size := 10) (v := v1) (xs := l.flatMap En.cells) (n := l.length) (m := 1) (news := [.string ef, .int .u64 en, .int .i64 e0, .int .i64 e1, .int .i64 e2, .int .i64 e3, .int .i64 e4, .int .i64 e5, .int .i64 e6, .int .i64 e7]) rfl rfl rfl rfl (.tmp 58) (.tmp 65) 35 rfl Tryz.underlying35 hi0 hz0 hz1 hz2 rfl (by omega) hA sR (by (try simp only [Act.eval, eV]) <;> exact rfl) (by (try simp only [Act.eval, eV]) <;> exact rfl) rfl (hA.cells_reads sZ _ _) (by intro u hu; simp only [List.mem_cons, List.not_mem_nil, or_false] at hu; rcases hu with rfl | rfl | rfl | rfl | rfl | rfl | rfl | rfl | rfl | rfl <;> rfl) (by unfold maxLen; omega) (by omega) ?_
           intro v2 x10 hB
           clear hA; have hA := hB; clear hB
           (try simp only [Nat.zero_add, List.append_nil, List.nil_append] at hA)
           refine ⟨(show BlockIs _ bK [.string ef, .int .u64 en] 37 ∧ BlockIs _ bA [.int .i64 e0, .int .i64 e1, .int .i64 e2, .int .i64 e3, .int .i64 e4, .int .i64 e5, .int .i64 e6, .int .i64 e7] 51 from ⟨hA.get (A := .cells bK [.string ef, .int .u64 en] 37) sR, hA.get (A := .cells bA [.int .i64 e0, .int .i64 e1, .int .i64 e2, .int .i64 e3, .int .i64 e4, .int .i64 e5, .int .i64 e6, .int .i64 e7] 51) sR⟩), ?_⟩
           go_frame
           have hS0 := (show BlockIs _ bK [.string ef, .int .u64 en] 37 ∧ BlockIs _ bA [.int .i64 e0, .int .i64 e1, .int .i64 e2, .int .i64 e3, .int .i64 e4, .int .i64 e5, .int .i64 e6, .int .i64 e7] 51 from ⟨hA.get (A := .cells bK [.string ef, .int .u64 en] 37) sR, hA.get (A := .cells bA [.int .i64 e0, .int .i64 e1, .int .i64 e2, .int .i64 e3, .int .i64 e4, .int .i64 e5, .int .i64 e6, .int .i64 e7] 51) sR⟩)
           refine tZ 13 6 (v2) (r := (fun w' hS => by simp [execOp, go_sem, Act.eval, Act.put])) (s := hS0) (h := ?_)
           go_frame
           refine tZ 14 7 ((.bool true)) (r := (fun w' hS => by simp [execOp, go_sem, Act.eval, Act.put])) (s := hS0) (h := ?_)
           go_frame
           refine wpAnyH_done (by kernel_rfl) ?_ _
           try go_frame
           have hF := hA.facts; (try simp only [uZ] at hA hF)
           go_wp2_with (first | ((with_reducible refine gst ?_); refine wT hA ?_; clear hF hA; intro w1 hA hF; (try simp only [uZ] at hA hF)) | ((with_reducible refine gbx ?_); refine wC hA ?_; clear hF hA; intro b1 w1 hA hb1 hF; (try simp only [uZ] at hA hF)))
           have hA := (show At _ _ (rowN v2 (l ++ [⟨ef, en, ⟨e0, e1, e2, e3, e4, e5, e6, e7⟩⟩]) :: _) _ from (rowN_snoc v2 l ⟨ef, en, ⟨e0, e1, e2, e3, e4, e5, e6, e7⟩⟩) ▸ hA)
           refine bodyPost_ret (v := .tuple #[v2, .bool true]) (by simp [results, Tryz.results9, go_sem]) rfl ⟨_, rfl, hA.pick pZ⟩
       · skip
         refine opOne_at (i := 9) (d := some 65) (e := 53) rfl rfl rfl rfl (by (try simp only [Act.eval, eV]) <;> exact rfl) (vs := [.string ef, .int .u64 en, .int .i64 e0, .int .i64 e1, .int .i64 e2, .int .i64 e3, .int .i64 e4, .int .i64 e5, .int .i64 e6, .int .i64 e7]) (fun _ => by kernel_rfl) hA ?_
         intro b9 x9 hB
         clear hA; have hA := hB; clear hB
         (try simp only [Nat.zero_add, List.append_nil, List.nil_append] at hA)
         refine ⟨(show BlockIs _ bK [.string ef, .int .u64 en] 37 ∧ BlockIs _ bA [.int .i64 e0, .int .i64 e1, .int .i64 e2, .int .i64 e3, .int .i64 e4, .int .i64 e5, .int .i64 e6, .int .i64 e7] 51 from ⟨hA.get (A := .cells bK [.string ef, .int .u64 en] 37) sR, hA.get (A := .cells bA [.int .i64 e0, .int .i64 e1, .int .i64 e2, .int .i64 e3, .int .i64 e4, .int .i64 e5, .int .i64 e6, .int .i64 e7] 51) sR⟩), ?_⟩
         go_frame
         refine wpAnyH_one (i := 0) (by kernel_rfl) ?_
         refine opZero_at 10 (i := 0) (d := some 56) (e := 53) rfl rfl rfl rfl (fun _ => by kernel_rfl) hA ?_
         intro g0 x0 hB
         clear hA; have hA := hB; clear hB
         (try simp only [Nat.zero_add, List.append_nil, List.nil_append] at hA)
         refine ⟨(show BlockIs _ bK [.string ef, .int .u64 en] 37 ∧ BlockIs _ bA [.int .i64 e0, .int .i64 e1, .int .i64 e2, .int .i64 e3, .int .i64 e4, .int .i64 e5, .int .i64 e6, .int .i64 e7] 51 from ⟨hA.get (A := .cells bK [.string ef, .int .u64 en] 37) sR, hA.get (A := .cells bA [.int .i64 e0, .int .i64 e1, .int .i64 e2, .int .i64 e3, .int .i64 e4, .int .i64 e5, .int .i64 e6, .int .i64 e7] 51) sR⟩), ?_⟩
         go_frame
         refine wpAnyH_one (i := 2) (by kernel_rfl) ?_
         refine opAppend_at (k := 2) (d := some 58) (e := 53) (size := 10) (v := .slice (some ⟨g0, 0, none⟩) 0 0) (xs := []) (n := 0) (m := l.length) (news := l.flatMap En.cells) rfl rfl rfl rfl (.tmp 56) (.tmp 57) 35 rfl Tryz.underlying35 hi0 hz0 hz1 hz2 rfl (by omega) hA sR (by (try simp only [Act.eval, eV]) <;> exact rfl) (by (try simp only [Act.eval, eV]) <;> exact rfl) (flatN_len l) (hA.row_reads (v := .slice lx l.length lc) (n := l.length) (xs := l.flatMap En.cells) sZ) (flatN_one l) (by unfold maxLen; omega) (by omega) ?_
         intro v1 x2 hB
         clear hA; have hA := hB; clear hB
         (try simp only [Nat.zero_add, List.append_nil, List.nil_append] at hA)
         refine ⟨(show BlockIs _ bK [.string ef, .int .u64 en] 37 ∧ BlockIs _ bA [.int .i64 e0, .int .i64 e1, .int .i64 e2, .int .i64 e3, .int .i64 e4, .int .i64 e5, .int .i64 e6, .int .i64 e7] 51 from ⟨hA.get (A := .cells bK [.string ef, .int .u64 en] 37) sR, hA.get (A := .cells bA [.int .i64 e0, .int .i64 e1, .int .i64 e2, .int .i64 e3, .int .i64 e4, .int .i64 e5, .int .i64 e6, .int .i64 e7] 51) sR⟩), ?_⟩
         go_frame
         refine wpAnyH_one (i := 10) (by kernel_rfl) ?_
         refine opAppend_at (k := 10) (d := some 66) (e := 53) (size := 10) (v := v1) (xs := l.flatMap En.cells) (n := l.length) (m := 1) (news := [.string ef, .int .u64 en, .int .i64 e0, .int .i64 e1, .int .i64 e2, .int .i64 e3, .int .i64 e4, .int .i64 e5, .int .i64 e6, .int .i64 e7]) rfl rfl rfl rfl (.tmp 58) (.tmp 65) 35 rfl Tryz.underlying35 hi0 hz0 hz1 hz2 rfl (by omega) hA sR (by (try simp only [Act.eval, eV]) <;> exact rfl) (by (try simp only [Act.eval, eV]) <;> exact rfl) rfl (hA.cells_reads sZ _ _) (by intro u hu; simp only [List.mem_cons, List.not_mem_nil, or_false] at hu; rcases hu with rfl | rfl | rfl | rfl | rfl | rfl | rfl | rfl | rfl | rfl <;> rfl) (by unfold maxLen; omega) (by omega) ?_
         intro v2 x10 hB
         clear hA; have hA := hB; clear hB
         (try simp only [Nat.zero_add, List.append_nil, List.nil_append] at hA)
         refine ⟨(show BlockIs _ bK [.string ef, .int .u64 en] 37 ∧ BlockIs _ bA [.int .i64 e0, .int .i64 e1, .int .i64 e2, .int .i64 e3, .int .i64 e4, .int .i64 e5, .int .i64 e6, .int .i64 e7] 51 from ⟨hA.get (A := .cells bK [.string ef, .int .u64 en] 37) sR, hA.get (A := .cells bA [.int .i64 e0, .int .i64 e1, .int .i64 e2, .int .i64 e3, .int .i64 e4, .int .i64 e5, .int .i64 e6, .int .i64 e7] 51) sR⟩), ?_⟩
         go_frame
         have hS0 := (show BlockIs _ bK [.string ef, .int .u64 en] 37 ∧ BlockIs _ bA [.int .i64 e0, .int .i64 e1, .int .i64 e2, .int .i64 e3, .int .i64 e4, .int .i64 e5, .int .i64 e6, .int .i64 e7] 51 from ⟨hA.get (A := .cells bK [.string ef, .int .u64 en] 37) sR, hA.get (A := .cells bA [.int .i64 e0, .int .i64 e1, .int .i64 e2, .int .i64 e3, .int .i64 e4, .int .i64 e5, .int .i64 e6, .int .i64 e7] 51) sR⟩)
         refine tZ 13 6 (v2) (r := (fun w' hS => by simp [execOp, go_sem, Act.eval, Act.put])) (s := hS0) (h := ?_)
         go_frame
         refine tZ 14 7 ((.bool true)) (r := (fun w' hS => by simp [execOp, go_sem, Act.eval, Act.put])) (s := hS0) (h := ?_)
         go_frame
         refine wpAnyH_done (by kernel_rfl) ?_ _
         try go_frame
         have hF := hA.facts; (try simp only [uZ] at hA hF)
         go_wp2_with (first | ((with_reducible refine gst ?_); refine wT hA ?_; clear hF hA; intro w1 hA hF; (try simp only [uZ] at hA hF)) | ((with_reducible refine gbx ?_); refine wC hA ?_; clear hF hA; intro b1 w1 hA hb1 hF; (try simp only [uZ] at hA hF)))
         have hA := (show At _ _ (rowN v2 (l ++ [⟨ef, en, ⟨e0, e1, e2, e3, e4, e5, e6, e7⟩⟩]) :: _) _ from (rowN_snoc v2 l ⟨ef, en, ⟨e0, e1, e2, e3, e4, e5, e6, e7⟩⟩) ▸ hA)
         refine bodyPost_ret (v := .tuple #[v2, .bool true]) (by simp [results, Tryz.results9, go_sem]) rfl ⟨_, rfl, hA.pick pZ⟩
theorem noteL_step (l : List En) (o : Op12) : (if o.kind = 1 then noteL l (keyC o.c) o.r o.t o.q else if o.kind = 2 then addL l o.e.foot o.e.num o.e.a else l) = stepL l o := by
 unfold stepL opN noteL addL
 by_cases h1 : o.kind = 1
 · simp only [h1, if_true]
   cases keyC o.c with
   | none => rfl
   | some k => by_cases hr : rightI o.r o.t = true <;> simp [hr]
 · by_cases h2 : o.kind = 2
   · simp only [h2, if_true]
     by_cases hr : (rightB (bl o.e.foot) && o.e.a.right) = true <;> simp [hr]
   · simp only [h1, h2, if_false]
theorem stepQ_any {w : World} {p m : Nat} {es : List En} {v : Value} {l : List En} (h : Sep [IxP p m es, rowN v l] w) (hl : l.length ≤ 1000000) (o : Op12) (ho : o.ok) :
 Calls Tryz.prog 9 #[.pointer (some ⟨p, 0, none⟩), v, .agg o.cells.toArray] w (StepQ w p m es (stepE es o) v l (stepL l o)) := by
 obtain ⟨lx, lc, rfl, _⟩ := (At.start h).row_form (v := v) (xs := l.flatMap En.cells) sZ
 rw [← noteL_step]
 obtain ⟨kd, ⟨kind, num, foot, req, path, mode, n, time⟩, r, t, q, ⟨ef, en, ⟨e0, e1, e2, e3, e4, e5, e6, e7⟩⟩⟩ := o
 obtain ⟨a1, a2, a3, a4, a5, a6, a7⟩ := ho
 unfold stepE
 by_cases h1 : kd = 1
 · subst h1
   rw [if_pos rfl, if_pos rfl]
   exact stq1 h hl kind num foot req path mode n time r t q ef en e0 e1 e2 e3 e4 e5 e6 e7 a1 a2 a3 a4
 · rw [if_neg h1, if_neg h1]
   by_cases h2 : kd = 2
   · subst h2
     rw [if_pos rfl, if_pos rfl]
     exact stq2 h hl kind num foot req path mode n time r t q ef en e0 e1 e2 e3 e4 e5 e6 e7 a5 a6 a7
   · rw [if_neg h2, if_neg h2]
     exact stq0 h hl kd h1 h2 kind num foot req path mode n time r t q ef en e0 e1 e2 e3 e4 e5 e6 e7
end Go.Proofs.YtgbpfgdjnhbcgaaGreatDoor.Ix
end
