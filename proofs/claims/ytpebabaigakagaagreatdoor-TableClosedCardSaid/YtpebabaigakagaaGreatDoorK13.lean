/- LockI, CmdM, TabM, joined. -/
import Derived.Test.YtpebabaigakagaaGreatDoorK12
import Derived.Test.YtpebabaigakagaaGreatDoorK10
import Derived.Test.YtpebabaigakagaaGreatDoorK7
import Derived.Test.YtpebabaigakagaaGreatDoorK6
section
namespace Go.Proofs.YtpebabaigakagaaGreatDoor.Lock
open Go.RowKit
open Go.Maps (Keyed)
open Path (bl rightB overB)
set_option linter.unusedSimpArgs false
set_option linter.unusedVariables false

section
variable {w : World} {b : Bk} {p f : ByteArray} {n mode : Int}
theorem remove_none (h : find b.es p n f = none) : b.st.remove p n f = b.st := by
  unfold S3.remove Bk.st
  congr 1
  rw [List.filter_eq_self]
  intro e he
  have := find_none_iff.1 h e he
  simp only [Ent.is, Bool.not_eq_true', decide_eq_false_iff_not]
  exact this
theorem keys_of {es : List Ent} (h : (ents es).Pairwise (fun p q => p.1 ≠ q.1)) : es.Pairwise (fun a b => a.key ≠ b.key) := by
  unfold ents at h
  rw [List.pairwise_map] at h
  exact h
theorem is_key {a e : Ent} (h : a.is e.path e.num e.foot = true) : a.key = e.key := by
  simp [Ent.is] at h
  simp [Ent.key, keyV, h]
theorem remove_mid {l1 l2 : List Ent} {e : Ent} (hk : (l1 ++ e :: l2).Pairwise (fun a b => a.key ≠ b.key)) : (l1 ++ e :: l2).filter (fun x => !x.is e.path e.num e.foot) = l1 ++ l2 := by
  have h1 := List.pairwise_append.1 hk
  have h2 := List.pairwise_cons.1 h1.2.1
  have he : e.is e.path e.num e.foot = true := by simp [Ent.is]
  have f1 : l1.filter (fun x => !x.is e.path e.num e.foot) = l1 := by
    rw [List.filter_eq_self]
    intro x hx
    cases hq : x.is e.path e.num e.foot with
    | false => rfl
    | true => exact absurd (is_key hq) (h1.2.2 x hx e (by simp))
  have f2 : l2.filter (fun x => !x.is e.path e.num e.foot) = l2 := by
    rw [List.filter_eq_self]
    intro x hx
    cases hq : x.is e.path e.num e.foot with
    | false => rfl
    | true => exact absurd (is_key hq).symm (h2.1 x hx)
  rw [List.filter_append, List.filter_cons, he, f1, f2]
  rfl
set_option maxRecDepth 100000 in
set_option maxHeartbeats 2000000 in
theorem remove_no (h : Sep [BookP b] w) (hp : p.size ≤ maxLen) (h0 : 0 ≤ n) (h1 : n < big64) (hf : f.size ≤ maxLen) (hfi : find b.es p n f = none) :
    Calls Tryz.prog 106 #[.pointer (some ⟨b.p, 0, none⟩), .string p, .agg #[.int .u64 n, .string f]] w fun e w' => e = .returned (.int .i64 52) ∧ At [BookP b] w [BookP b] w' := by
  obtain ⟨kl, hk⟩ := keyP hp h0 h1 hf
  have hA := begin0 h
  have hF := hA.facts
  have hmiss := Lib.hid (find_none hfi)
  clear h hfi
  unfold keyV at *
  (try simp only [uA] at hA); have hF := hA.facts; (try simp only [fA, and_true, true_and] at hF)
  go_enter Tryz.func106, Tryz.ntmps106
  go_wp2_with (first | ((with_reducible refine gbx ?_); refine wB (E := 25) hA ?_; clear hF hA; intro bS w1 hA hbS; (try simp only [uA] at hA); have hF := hA.facts; (try simp only [fA, and_true, true_and] at hF)) | ((with_reducible refine gst ?_); refine wS hA ?_; clear hF hA; intro w1 hA; (try simp only [uA] at hA); have hF := hA.facts; (try simp only [fA, and_true, true_and] at hF)) | ((with_reducible refine gbx ?_); refine wB hA ?_; clear hF hA; intro b1 w1 hA hb1; (try simp only [uA] at hA); have hF := hA.facts; (try simp only [fA, and_true, true_and] at hF)))
  (refine wp_region_new (a1 := ?a1_q4) (v := ?v_q4) 11 7 51 _ (.agg #[.string .empty, .int .u64 0, .string .empty, .int .i64 0, .int .u64 0, .int .i64 0]) [.string .empty, .int .u64 0, .string .empty, .int .i64 0, .int .u64 0, .int .i64 0] ([.string .empty, .int .u64 0, .string .empty, .int .i64 0, .int .u64 0, .int .i64 0]) (by kernel_rfl) (by kernel_rfl) rfl rfl ?hyd_q4 (by kernel_rfl) rfl hA ?h1_q4 ?hd_q4 ?hy_q4 ?hu_q4 ?hsz_q4 ?hus_q4 ?hl_q4 ?h2_q4); (case h1_q4 => (intro R wR hR; (try clear hF); (simp only [List.take_succ_cons, List.take_zero, List.drop_succ_cons, List.drop_zero]); (have hn1 := Cl.none hR); (have hn2 := Cl.none2 hR); (repeat (first | go_big_quiet_skip | (go_big_quiet_want; (first | (refine quiet_loads_at (ty := 25) (n := 2) rfl rfl sR (by kernel_rfl) (by kernel_rfl) (by first | assumption | ((try simp only [List.drop_succ_cons, List.drop_zero, List.take_succ_cons, List.take_zero]) <;> exact rfl)) (by exact rfl) ?_; go_frame; go_big_quiet_on) | ((refine quiet_look_none_at rfl rfl (by (try simp only [Act.eval, eV]) <;> exact rfl) (k := 90) (es := ents b.es) sR lawP Tryz.underlying88 hk hmiss.out (z := nullE.val) (fun _ => by kernel_rfl) ?_); go_frame; go_big_quiet_on) | (refine quiet_load_at rfl rfl sR (by kernel_rfl) (by first | assumption | exact rfl) ?_; go_frame; go_big_quiet_on) | (go_big_quiet_op; (first | go_big_quiet_on)))))); (refine wpQuiet_nil ?_); exact rfl)); (case hyd_q4 => rfl); (case hd_q4 => (first | decide | simp)); (case hy_q4 => ((try simp only [Act.eval, Array.getD_eq_getD_getElem?, List.getElem?_toArray, List.getElem?_cons_succ, List.getElem?_cons_zero, Option.getD_some]); exact rfl)); (case hu_q4 => exact rfl); (case hsz_q4 => kernel_rfl); (case hus_q4 => rfl); (case hl_q4 => rfl); (intro b1 w1 hB hb1; clear hF hA; have hA := hB; clear hB; (simp only [List.drop_succ_cons, List.drop_zero]); (try simp only [uA] at hA); have hF := hA.facts; (try simp only [fA, and_true, true_and] at hF); (try go_frame))
  go_wp2_with (first | ((with_reducible refine gst ?_); refine wS hA ?_; clear hF hA; intro w1 hA; (try simp only [uA] at hA); have hF := hA.facts; (try simp only [fA, and_true, true_and] at hF)) | ((with_reducible refine gbx ?_); refine wB hA ?_; clear hF hA; intro b1 w1 hA hb1; (try simp only [uA] at hA); have hF := hA.facts; (try simp only [fA, and_true, true_and] at hF)))
  go_ret
  exact ⟨rfl, close0 b hA sR sR sR⟩
set_option maxRecDepth 100000 in
set_option maxHeartbeats 2000000 in
theorem remove_yes (h : Sep [BookP b] w) (hp : p.size ≤ maxLen) (h0 : 0 ≤ n) (h1 : n < big64) (hf : f.size ≤ maxLen) {x : Ent} (hfi : find b.es p n f = some x) :
    Calls Tryz.prog 106 #[.pointer (some ⟨b.p, 0, none⟩), .string p, .agg #[.int .u64 n, .string f]] w fun e w' => e = .returned (.int .i64 0) ∧ At [BookP b] w [BookP (b.with (b.st.remove p n f))] w' := by
  obtain ⟨kl, hk⟩ := keyP hp h0 h1 hf
  have hA := begin0 h
  have hmem := Lib.hid (find_mem hfi)
  obtain ⟨l1, l2, hes, rfl, rfl, rfl, _⟩ := find_split hfi
  have hkeys := keys_of (MapAt.keys (hA.get (A := mapC b.m (ents b.es)) sR))
  rw [hes] at hkeys
  have hrem : b.st.remove x.path x.num x.foot = ⟨b.first, l1 ++ l2, b.cs⟩ := by
    unfold S3.remove Bk.st
    simp only [hes]
    rw [remove_mid hkeys]
  rw [hrem]
  have hF := hA.facts
  have hents : ents b.es = ents l1 ++ (x.key, x.val) :: ents l2 := by rw [hes]; simp [ents, ent]
  have hes' := Lib.hid hents
  clear h hfi hkeys hrem hes hents
  unfold Ent.val keyV at hmem
  unfold keyV at hk
  (try simp only [uA] at hA); have hF := hA.facts; (try simp only [fA, and_true, true_and] at hF)
  go_enter Tryz.func106, Tryz.ntmps106
  go_wp2_with (first | ((with_reducible refine gbx ?_); refine wB (E := 25) hA ?_; clear hF hA; intro bS w1 hA hbS; (try simp only [uA] at hA); have hF := hA.facts; (try simp only [fA, and_true, true_and] at hF)) | ((with_reducible refine gst ?_); refine wS hA ?_; clear hF hA; intro w1 hA; (try simp only [uA] at hA); have hF := hA.facts; (try simp only [fA, and_true, true_and] at hF)) | ((with_reducible refine gbx ?_); refine wB hA ?_; clear hF hA; intro b1 w1 hA hb1; (try simp only [uA] at hA); have hF := hA.facts; (try simp only [fA, and_true, true_and] at hF)))
  (refine wp_region_new (a1 := ?a1_q5) (v := ?v_q5) 11 7 51 _ (.agg #[.string .empty, .int .u64 0, .string .empty, .int .i64 0, .int .u64 0, .int .i64 0]) [.string .empty, .int .u64 0, .string .empty, .int .i64 0, .int .u64 0, .int .i64 0] ([.string x.path, .int .u64 x.num, .string x.foot, .int .i64 x.mode, .int .u64 x.n, .int .i64 x.stamp]) (by kernel_rfl) (by kernel_rfl) rfl rfl ?hyd_q5 (by kernel_rfl) rfl hA ?h1_q5 ?hd_q5 ?hy_q5 ?hu_q5 ?hsz_q5 ?hus_q5 ?hl_q5 ?h2_q5); (case h1_q5 => (intro R wR hR; (try clear hF); (simp only [List.take_succ_cons, List.take_zero, List.drop_succ_cons, List.drop_zero]); (have hn1 := Cl.none hR); (have hn2 := Cl.none2 hR); (repeat (first | go_big_quiet_skip | (go_big_quiet_want; (first | (refine quiet_loads_at (ty := 25) (n := 2) rfl rfl sR (by kernel_rfl) (by kernel_rfl) (by first | assumption | ((try simp only [List.drop_succ_cons, List.drop_zero, List.take_succ_cons, List.take_zero]) <;> exact rfl)) (by exact rfl) ?_; go_frame; go_big_quiet_on) | ((refine quiet_look_some_at rfl rfl (by (try simp only [Act.eval, eV]) <;> exact rfl) (k := 90) (es := ents b.es) sR lawP Tryz.underlying88 hk hmem.out ?_); go_frame; go_big_quiet_on) | (refine quiet_load_at rfl rfl sR (by kernel_rfl) (by first | assumption | exact rfl) ?_; go_frame; go_big_quiet_on) | (go_big_quiet_op; (first | go_big_quiet_on)))))); (refine wpQuiet_nil ?_); exact rfl)); (case hyd_q5 => rfl); (case hd_q5 => (first | decide | simp)); (case hy_q5 => ((try simp only [Act.eval, Array.getD_eq_getD_getElem?, List.getElem?_toArray, List.getElem?_cons_succ, List.getElem?_cons_zero, Option.getD_some]); exact rfl)); (case hu_q5 => exact rfl); (case hsz_q5 => kernel_rfl); (case hus_q5 => rfl); (case hl_q5 => rfl); (intro b1 w1 hB hb1; clear hF hA; have hA := hB; clear hB; (simp only [List.drop_succ_cons, List.drop_zero]); (try simp only [uA] at hA); have hF := hA.facts; (try simp only [fA, and_true, true_and] at hF); (try go_frame))
  go_wp2_with (first | ((with_reducible refine gst ?_); refine wS hA ?_; clear hF hA; intro w1 hA; (try simp only [uA] at hA); have hF := hA.facts; (try simp only [fA, and_true, true_and] at hF)) | ((with_reducible refine gbx ?_); refine wB hA ?_; clear hF hA; intro b1 w1 hA hb1; (try simp only [uA] at hA); have hF := hA.facts; (try simp only [fA, and_true, true_and] at hF)))
  try go_frame
  (refine wp_region_head 7 (Cl _ _ _) (by kernel_rfl) (by kernel_rfl) (Cl.drew hA) ?_); (simp only [List.take_succ_cons, List.take_zero, List.drop_succ_cons, List.drop_zero]); (have hn1 := Cl.none hA); (have hn2 := Cl.none2 hA); (repeat (first | go_big_quiet_skip | (go_big_quiet_want; (first | (refine quiet_loads_at (ty := 25) (n := 2) rfl rfl sR (by kernel_rfl) (by kernel_rfl) (by first | assumption | ((try simp only [List.drop_succ_cons, List.drop_zero, List.take_succ_cons, List.take_zero]) <;> exact rfl)) (by exact rfl) ?_; go_frame; go_big_quiet_on) | (refine quiet_load_at rfl rfl sR (by kernel_rfl) (by first | assumption | exact rfl) ?_; go_frame; go_big_quiet_on) | (go_big_quiet_op; (first | go_big_quiet_on))))))
  (refine wpQuiet_nil ?_); (intro w1 hB); (clear hF hA hn1 hn2); (have hA := Cl.out hB); (clear hB); (try simp only [uA] at hA); have hF := hA.facts; (try simp only [fA, and_true, true_and] at hF)
  unfold mapC at hA
  rw [hes'.out] at hA
  unfold Ent.key keyV at hA
  (try simp only [uA] at hA); have hF := hA.facts; (try simp only [fA, and_true, true_and] at hF)
  go_wp2_with (first | ((with_reducible refine gst ?_); refine wS hA ?_; clear hF hA; intro w1 hA; (try simp only [uA] at hA); have hF := hA.facts; (try simp only [fA, and_true, true_and] at hF)) | ((with_reducible refine gbx ?_); refine wB hA ?_; clear hF hA; intro b1 w1 hA hb1; (try simp only [uA] at hA); have hF := hA.facts; (try simp only [fA, and_true, true_and] at hF)) | (refine wpList_del_there_at rfl rfl rfl (by (try simp only [Act.eval, eV]) <;> exact rfl) hA (k := 90) sR lawP Tryz.underlying88 hk ?_; intro w1 hB; clear hF hA; have hA := hB; clear hB; (try simp only [uA] at hA); have hF := hA.facts; (try simp only [fA, and_true, true_and] at hF)))
  go_ret
  have hel : ents l1 ++ ents l2 = ents (l1 ++ l2) := by simp [ents]
  rw [hel] at hA
  exact ⟨rfl, close0 ⟨b.p, b.m, b.c, b.first, l1 ++ l2, b.cs⟩ hA sR sR sR⟩
/-- Remove -/
theorem remove_any (h : Sep [BookP b] w) (hp : p.size ≤ maxLen) (h0 : 0 ≤ n) (h1 : n < big64) (hf : f.size ≤ maxLen) :
    Calls Tryz.prog 106 #[.pointer (some ⟨b.p, 0, none⟩), .string p, .agg #[.int .u64 n, .string f]] w fun e w' => e = .returned (.int .i64 (if (find b.es p n f).isSome = true then 0 else 52)) ∧ At [BookP b] w [BookP (b.with (b.st.remove p n f))] w' := by
  cases hfi : find b.es p n f with
  | none =>
    have := remove_no h hp h0 h1 hf hfi
    rw [remove_none hfi]
    exact this
  | some x => exact remove_yes h hp h0 h1 hf hfi

set_option maxRecDepth 100000 in
set_option maxHeartbeats 2000000 in
/-- Could -/
theorem could_any (h : Sep [BookP b] w) (hp : p.size ≤ 1000000) (hok : ∀ x ∈ b.es, x.path.size ≤ 1000000 ∧ x.stamp ≤ 1000000000) :
    Calls Tryz.prog 130 #[.pointer (some ⟨b.p, 0, none⟩), .string p, .int .i64 mode] w fun e w' => e = .returned (.bool (couldD b.es p mode)) ∧ At [BookP b] w [BookP b] w' := by
  have hA := At.start h
  have hF := hA.facts
  have hr := right_any p mode
  have hcd : couldD b.es p mode = (rightM p mode && clearB b.es ⟨p, 0, .empty, mode, 0, maxS b.es p + 1⟩) := by
    rw [clear_could, Bool.and_comm]; rfl
  rw [hcd]
  have hst := fun (w1 : World) (q : Sep [BookP b] w1) => stamp_any q p hp hok
  have hcl := fun (w1 : World) (q : Sep [BookP b] w1) => clear_any q ⟨p, 0, .empty, mode, 0, maxS b.es p + 1⟩ hp (fun x hx => (hok x hx).1)
  generalize clearB b.es ⟨p, 0, .empty, mode, 0, maxS b.es p + 1⟩ = c at *
  simp only at hcl
  generalize maxS b.es p = ss at *
  generalize rightM p mode = r at *
  clear h hok hcd
  (try simp only [uA] at hA); have hF := hA.facts; (try simp only [fA, and_true, true_and] at hF)
  go_enter Tryz.func130, Tryz.ntmps130
  go_wp2_with (first | ((with_reducible refine gst ?_); refine wS hA ?_; clear hF hA; intro w1 hA; (try simp only [uA] at hA); have hF := hA.facts; (try simp only [fA, and_true, true_and] at hF)) | ((with_reducible refine gbx ?_); refine wB hA ?_; clear hF hA; intro b1 w1 hA hb1; (try simp only [uA] at hA); have hF := hA.facts; (try simp only [fA, and_true, true_and] at hF)))
  refine (hr w hp).mono ?_
  clear hr
  rintro e w2 ⟨rfl, hx⟩
  have hB := hA.ext hx
  clear hF hA hx; have hA := hB; clear hB
  (try simp only [uA] at hA); have hF := hA.facts; (try simp only [fA, and_true, true_and] at hF)
  cases r
  · go_wp2_with (first | ((with_reducible refine gst ?_); refine wS hA ?_; clear hF hA; intro w1 hA; (try simp only [uA] at hA); have hF := hA.facts; (try simp only [fA, and_true, true_and] at hF)) | ((with_reducible refine gbx ?_); refine wB hA ?_; clear hF hA; intro b1 w1 hA hb1; (try simp only [uA] at hA); have hF := hA.facts; (try simp only [fA, and_true, true_and] at hF)))
    go_ret
    exact ⟨rfl, hA.only1 sR⟩
  · go_wp2_with (first | ((with_reducible refine gst ?_); refine wS hA ?_; clear hF hA; intro w1 hA; (try simp only [uA] at hA); have hF := hA.facts; (try simp only [fA, and_true, true_and] at hF)) | ((with_reducible refine gbx ?_); refine wB hA ?_; clear hF hA; intro b1 w1 hA hb1; (try simp only [uA] at hA); have hF := hA.facts; (try simp only [fA, and_true, true_and] at hF)))
    refine (hst _ (hA.sep1 (A := BookP b) sR)).mono ?_
    clear hst
    rintro e w1 ⟨rfl, hT⟩; have hB := hA.call1 sR hT; clear hF hA hT; have hA := hB; clear hB; (try simp only [uA] at hA); have hF := hA.facts; (try simp only [fA, and_true, true_and] at hF)
    go_wp2_with (first | ((with_reducible refine gst ?_); refine wS hA ?_; clear hF hA; intro w1 hA; (try simp only [uA] at hA); have hF := hA.facts; (try simp only [fA, and_true, true_and] at hF)) | ((with_reducible refine gbx ?_); refine wB hA ?_; clear hF hA; intro b1 w1 hA hb1; (try simp only [uA] at hA); have hF := hA.facts; (try simp only [fA, and_true, true_and] at hF)))
    refine (hcl _ (hA.sep1 (A := BookP b) sR)).mono ?_
    clear hcl
    rintro e w1 ⟨rfl, hT⟩; have hB := hA.call1 sR hT; clear hF hA hT; have hA := hB; clear hB; (try simp only [uA] at hA); have hF := hA.facts; (try simp only [fA, and_true, true_and] at hF)
    go_wp2_with (first | ((with_reducible refine gst ?_); refine wS hA ?_; clear hF hA; intro w1 hA; (try simp only [uA] at hA); have hF := hA.facts; (try simp only [fA, and_true, true_and] at hF)) | ((with_reducible refine gbx ?_); refine wB hA ?_; clear hF hA; intro b1 w1 hA hb1; (try simp only [uA] at hA); have hF := hA.facts; (try simp only [fA, and_true, true_and] at hF)))
    go_ret
    exact ⟨rfl, hA.only1 sR⟩
end
end Go.Proofs.YtpebabaigakagaaGreatDoor.Lock
end

section
namespace Go.Proofs.YtpebabaigakagaaGreatDoor.Cmd
open Path (bl rightB overB)
set_option linter.unusedSimpArgs false
set_option linter.unusedVariables false

/-- a command -/
structure Cm where
  kind : Int
  num : Int
  foot : ByteArray
  req : Int
  path : ByteArray
  mode : Int
  n : Int
  time : Int
deriving DecidableEq
def Cm.cells (c : Cm) : List Value := [.int .i64 c.kind, .int .u64 c.num, .string c.foot, .int .u64 c.req, .string c.path, .int .i64 c.mode, .int .u64 c.n, .int .i64 c.time]
def Cm.val (c : Cm) : Value := .agg #[.int .i64 c.kind, .int .u64 c.num, .string c.foot, .int .u64 c.req, .string c.path, .int .i64 c.mode, .int .u64 c.n, .int .i64 c.time]
/-- what a kind has -/
structure Hs where
  session : Bool
  request : Bool
  path : Bool
  mode : Bool
  n : Bool
  time : Bool
def hasOf (k : Int) : Option Hs :=
  if k = 0 then some ⟨false, false, false, false, false, false⟩
  else if k = 1 then some ⟨true, true, false, false, true, true⟩
  else if k = 2 then some ⟨true, true, false, false, false, false⟩
  else if k = 3 then some ⟨true, true, false, false, false, true⟩
  else if k = 4 then some ⟨true, true, true, true, false, false⟩
  else if k = 5 then some ⟨true, true, true, true, false, false⟩
  else if k = 6 then some ⟨true, true, true, false, false, false⟩
  else if k = 7 then some ⟨true, true, true, false, true, false⟩
  else if k = 8 then some ⟨true, false, false, false, false, true⟩
  else none
def bareC (c : Cm) (h : Hs) : Cm := ⟨c.kind, if h.session then c.num else 0, if h.session then c.foot else .empty, if h.request then c.req else 0, if h.path then c.path else .empty, if h.mode then c.mode else 0, if h.n then c.n else 0, if h.time then c.time else 0⟩
def mostN (k : Int) : Int := if k = 1 then 1048576 else 9223372036854775807
/-- may a command be, whose kind has h? -/
def rightH (c : Cm) (h : Hs) : Bool := decide (c = bareC c h) && (!h.session || rightB (bl c.foot)) && (!h.request || !(c.req == 0)) && (!h.path || rightB (bl c.path)) && (!h.mode || !((c.mode != 1) && (c.mode != 2))) && (!h.n || !((c.n == 0) || decide (mostN c.kind < c.n))) && (decide (0 ≤ c.time) && decide (c.time ≤ 1099511627776))
def rightC (c : Cm) : Bool := match hasOf c.kind with
  | some h => rightH c h
  | none => false
/-- a command's footprint; false: none -/
def footC (c : Cm) : ByteArray × Bool := if rightC c then (match hasOf c.kind with
  | some h => if h.path then (c.path, true) else (c.foot, h.session)
  | none => (.empty, false)) else (.empty, false)
/-- what a command touches -/
def keyC (c : Cm) : Option (ByteArray × Int) := if (footC c).2 then some ((footC c).1, c.num) else none
end Go.Proofs.YtpebabaigakagaaGreatDoor.Cmd
end

section
namespace Go.Proofs.YtpebabaigakagaaGreatDoor.Tab
open Go.RowKit
open Path (bl rightB overB aboveB)
open Lease (Ses Ans fresh Turned)
open Lock (S3 Ent)
open Cmd (Cm rightC)
set_option linter.unusedSimpArgs false
set_option linter.unusedVariables false

/-- a session, but where it lies -/
def zs (s : Ses) : Ses := { s with blk := 0, tm := 0 }
theorem zs_zs (s : Ses) : zs (zs s) = zs s := rfl
theorem zs_is (s : Ses) (n : Int) (f : ByteArray) : (zs s).is n f = s.is n f := rfl
def lookA (S : List Ses) (n : Int) (f : ByteArray) : Ses := (Lease.find S n f).getD (fresh n f 0 0)
def updA (g : Ses → Ses) (n : Int) (f : ByteArray) : List Ses → List Ses
  | [] => [g (fresh n f 0 0)]
  | s :: S => if s.is n f then g s :: S else s :: updA g n f S
/-- sessions and locks -/
structure TS where
  S : List Ses
  L : S3
def ans0 : Ans := ⟨0, 0, false⟩
def ansE (e : Int) : Ans := ⟨e, 0, false⟩
/-- why a session can't ask for a path -/
def mayT (t : TS) (c : Cm) : Int := if (lookA t.S c.num c.foot).op = false then 50 else if aboveB (bl c.foot) (bl c.path) = false then 55 else 0
def addT (t : TS) (c : Cm) : TS × Ans :=
  (⟨t.S, t.L.add c.path c.num c.foot c.mode⟩, if t.L.may c.path c.num c.foot c.mode = 0 then ⟨0, (t.L.newE c.path c.num c.foot c.mode).n, Lock.couldD t.L.es c.path c.mode⟩ else ansE (t.L.may c.path c.num c.foot c.mode))
def tryT (t : TS) (c : Cm) : TS × Ans :=
  if Lock.couldD t.L.es c.path c.mode then addT t c else if t.L.may c.path c.num c.foot c.mode = 0 then (t, ansE 51) else (t, ansE (t.L.may c.path c.num c.foot c.mode))
def locksT (t : TS) (c : Cm) : TS × Ans :=
  if mayT t c ≠ 0 then (t, ansE (mayT t c))
  else if c.kind = 4 then addT t c
  else if c.kind = 5 then tryT t c
  else if c.kind = 6 then (⟨t.S, t.L.remove c.path c.num c.foot⟩, ansE (if (Lock.find t.L.es c.path c.num c.foot).isSome then 0 else 52))
  else (t, ansE (if Lock.checkD t.L.es c.path c.n then 0 else 52))
def opT (t : TS) (c : Cm) (g : Ses → Ses) (e : Int) : TS := if e = 0 then ⟨updA g c.num c.foot t.S, t.L⟩ else t
/-- a session that ended loses its locks -/
def endT (t : TS) (c : Cm) (e : Int) : TS := if e = 0 then ⟨updA Ses.ended c.num c.foot t.S, t.L.dropAll c.num c.foot⟩ else t
def doT (t : TS) (c : Cm) : TS × Ans :=
  if c.kind = 1 then (opT t c (fun s => s.opened c.n c.time) (Lease.openE (lookA t.S c.num c.foot) (Lease.cnt t.S c.foot)), ansE (Lease.openE (lookA t.S c.num c.foot) (Lease.cnt t.S c.foot)))
  else if c.kind = 2 then (endT t c (if (lookA t.S c.num c.foot).op then 0 else 50), ansE (if (lookA t.S c.num c.foot).op then 0 else 50))
  else if c.kind = 3 then (opT t c (fun s => s.kept c.time) (if (lookA t.S c.num c.foot).op then 0 else 50), ansE (if (lookA t.S c.num c.foot).op then 0 else 50))
  else locksT t c
def tellT (t : TS) (c : Cm) (a : Ans) : TS := opT t c (fun s => s.tell c.req a) (Lease.tellE (lookA t.S c.num c.foot) c.req)
/-- a command is applied -/
def applyT (t : TS) (c : Cm) : TS × Ans :=
  if rightC c = false ∨ c.kind = 0 then (t, ans0)
  else if c.kind = 8 then (endT t c (Lease.expB (lookA t.S c.num c.foot) c.time), ansE (Lease.expB (lookA t.S c.num c.foot) c.time))
  else match Lease.said (lookA t.S c.num c.foot).told c.req with
    | some a => (t, a)
    | none => if 256 ≤ (lookA t.S c.num c.foot).told.length then (t, ansE 14) else (tellT (doT t c).1 c (doT t c).2, (doT t c).2)

/-! ### Where sessions lie does not matter -/
theorem find_zs (ss : List Ses) (n : Int) (f : ByteArray) : Lease.find (ss.map zs) n f = (Lease.find ss n f).map zs := by
  unfold Lease.find
  induction ss with
  | nil => rfl
  | cons s ss ih =>
    rw [List.map_cons, List.find?_cons, List.find?_cons, zs_is]
    cases s.is n f
    · exact ih
    · rfl
theorem look_zs (ss : List Ses) (n : Int) (f : ByteArray) : lookA (ss.map zs) n f = zs (Lease.look ss n f) := by
  unfold lookA Lease.look
  rw [find_zs]
  cases Lease.find ss n f <;> rfl
theorem cnt_zs (ss : List Ses) (f : ByteArray) : Lease.cnt (ss.map zs) f = Lease.cnt ss f := by
  unfold Lease.cnt
  rw [List.filter_map, List.length_map]
  rfl
def keyE (s : Ses) : Int × ByteArray := (s.num, s.foot)
theorem is_key {s : Ses} {n : Int} {f : ByteArray} : s.is n f = true ↔ keyE s = (n, f) := by unfold Lease.Ses.is keyE; simp
theorem upd_none {g : Ses → Ses} {n : Int} {f : ByteArray} : ∀ {S : List Ses}, Lease.find S n f = none → updA g n f S = S ++ [g (fresh n f 0 0)]
  | [], _ => rfl
  | s :: S, h => by
    unfold Lease.find at h
    rw [List.find?_cons] at h
    cases hq : s.is n f with
    | true => rw [hq] at h; cases h
    | false =>
      rw [hq] at h
      unfold updA
      rw [hq, if_neg (by decide), upd_none (S := S) h]
      rfl
theorem upd_mid {g : Ses → Ses} {n : Int} {f : ByteArray} {s : Ses} {l2 : List Ses} (hs : s.is n f = true) : ∀ {l1 : List Ses}, (∀ x ∈ l1, x.is n f = false) → updA g n f (l1 ++ s :: l2) = l1 ++ g s :: l2
  | [], _ => by simp [updA, hs]
  | x :: l1, h => by
    have h1 := h x (by simp)
    have ih := upd_mid (g := g) (l2 := l2) hs (l1 := l1) fun y hy => h y (by simp [hy])
    simp [updA, h1, ih]
/-- the keys are apart -/
def Kn (ss : List Ses) : Prop := (ss.map keyE).Nodup
theorem turned_upd {ss ss' : List Ses} {n : Int} {f : ByteArray} {g : Ses → Ses} (hk : Kn ss) (ht : Turned ss n f g ss') (hg : ∀ s, zs (g s) = g (zs s)) : ss'.map zs = updA g n f (ss.map zs) := by
  rcases ht with ⟨l1, s, l2, hf, rfl, rfl⟩ | ⟨hf, b, t, rfl⟩
  · have hs : s.is n f = true := by unfold Lease.find at hf; simpa using List.find?_some hf
    have hl : ∀ x ∈ l1.map zs, x.is n f = false := fun x hx => by
      obtain ⟨y, hy, rfl⟩ := List.mem_map.1 hx
      cases q : (zs y).is n f with
      | false => rfl
      | true =>
        unfold Kn at hk
        rw [List.map_append, List.map_cons] at hk
        have h1 := (List.nodup_append.1 hk).2.2 (keyE y) (List.mem_map.2 ⟨y, hy, rfl⟩) (keyE s) (by simp)
        exact absurd ((is_key.1 q).trans (is_key.1 hs).symm) h1
    rw [List.map_append, List.map_cons, List.map_append, List.map_cons, upd_mid (s := zs s) (by rw [zs_is]; exact hs) hl, hg]
  · rw [List.map_append, List.map_cons, List.map_nil, hg, upd_none (by rw [find_zs, hf]; rfl)]
    rfl
theorem kn_turned {ss ss' : List Ses} {n : Int} {f : ByteArray} {g : Ses → Ses} (hk : Kn ss) (ht : Turned ss n f g ss') (hg : ∀ s, keyE (g s) = keyE s) : Kn ss' := by
  rcases ht with ⟨l1, s, l2, hf, rfl, rfl⟩ | ⟨hf, b, t, rfl⟩
  · unfold Kn at *
    rw [List.map_append, List.map_cons, hg, ← List.map_cons, ← List.map_append]
    exact hk
  · unfold Kn at *
    rw [List.map_append, List.map_cons, List.map_nil, hg]
    refine List.nodup_append.2 ⟨hk, by simp, fun a ha b hb e => ?_⟩
    rw [List.mem_singleton.1 hb] at e
    obtain ⟨x, hx, rfl⟩ := List.mem_map.1 ha
    have h1 := List.find?_eq_none.1 (show ss.find? (·.is n f) = none from hf) x hx
    exact h1 (is_key.2 e)
/-- the table's part -/
abbrev headT (t p q : Nat) : Part := Part.cells t [.pointer (some ⟨p, 0, none⟩), .pointer (some ⟨q, 0, none⟩)] 75
def TabP (t p m : Nat) (ss : List Ses) (b : Lock.Bk) : Part := Part.all [headT t p b.p, Lease.BookP p m ss, Lock.BookP b]
theorem tab_eqv (t p m : Nat) (ss : List Ses) (b : Lock.Bk) (F : List Part) : Eqv (TabP t p m ss b :: F) (headT t p b.p :: Lease.BookP p m ss :: Lock.BookP b :: F) := Eqv.all [headT t p b.p, Lease.BookP p m ss, Lock.BookP b] F
theorem tab_begin {w : World} {t p m : Nat} {ss : List Ses} {b : Lock.Bk} (h : Sep [TabP t p m ss b] w) : At [TabP t p m ss b] w [headT t p b.p, Lease.BookP p m ss, Lock.BookP b] w := (At.start h).to (tab_eqv t p m ss b [])
theorem tab_close {L0 : List Part} {w0 w : World} {t p m : Nat} {ss : List Ses} {b : Lock.Bk} (h : At L0 w0 [headT t p b.p, Lease.BookP p m ss, Lock.BookP b] w) : At L0 w0 [TabP t p m ss b] w := h.to (tab_eqv t p m ss b []).symm
/-- a table and its model -/
structure TRel (ss : List Ses) (b : Lock.Bk) (t : TS) : Prop where
  S : ss.map zs = t.S
  L : b.st = t.L
/-- what every play keeps of sessions -/
structure SInv (S : List Ses) (m : Nat) : Prop where
  keys : Kn S
  num : ∀ s ∈ S, 0 ≤ s.num ∧ s.num < Lease.big64
  foot : ∀ s ∈ S, s.foot.size ≤ 1000
  len : S.length ≤ m
/-- what every play of at most k commands keeps -/
structure TInv (t : TS) (k : Nat) : Prop where
  s : SInv t.S (2 * k)
  lock : Lock.Inv t.L k
/-- a command that may be gone through -/
structure CmOk (c : Cm) : Prop where
  num : 0 ≤ c.num ∧ c.num < Lease.big64
  foot : c.foot.size ≤ 100
  path : c.path.size ≤ 100
theorem upd_key {g : Ses → Ses} {n : Int} {f : ByteArray} (hg : ∀ s, keyE (g s) = keyE s) : ∀ {S : List Ses} {x : Ses}, x ∈ updA g n f S → keyE x = (n, f) ∨ ∃ y ∈ S, keyE y = keyE x
  | [], x, h => by rw [List.mem_singleton.1 h, hg]; exact .inl rfl
  | s :: S, x, h => by
    unfold updA at h
    split at h
    · rcases List.mem_cons.1 h with rfl | h
      · exact .inr ⟨s, by simp, (hg s).symm⟩
      · exact .inr ⟨x, by simp [h], rfl⟩
    · rcases List.mem_cons.1 h with rfl | h
      · exact .inr ⟨x, by simp, rfl⟩
      · rcases upd_key hg h with q | ⟨y, h1, h2⟩
        · exact .inl q
        · exact .inr ⟨y, by simp [h1], h2⟩
theorem upd_len (g : Ses → Ses) (n : Int) (f : ByteArray) : ∀ S : List Ses, (updA g n f S).length ≤ S.length + 1
  | [] => by simp [updA]
  | s :: S => by
    unfold updA
    split
    · simp
    · have := upd_len g n f S
      simp only [List.length_cons]
      omega
theorem upd_kn {g : Ses → Ses} {n : Int} {f : ByteArray} (hg : ∀ s, keyE (g s) = keyE s) : ∀ {S : List Ses}, Kn S → Kn (updA g n f S)
  | [], _ => by simp [updA, Kn]
  | s :: S, h => by
    unfold Kn at h
    rw [List.map_cons, List.nodup_cons] at h
    unfold updA
    split
    · unfold Kn
      rw [List.map_cons, hg, List.nodup_cons]
      exact h
    · rename_i hq
      unfold Kn
      rw [List.map_cons, List.nodup_cons]
      refine ⟨fun q => ?_, upd_kn hg h.2⟩
      obtain ⟨x, hx, e⟩ := List.mem_map.1 q
      rcases upd_key hg hx with q2 | ⟨y, h1, h2⟩
      · exact hq (is_key.2 (e.symm.trans q2))
      · exact h.1 (List.mem_map.2 ⟨y, h1, h2.trans e⟩)
theorem keyE_num {x y : Ses} (h : keyE x = keyE y) : x.num = y.num ∧ x.foot = y.foot := ⟨congrArg Prod.fst h, congrArg Prod.snd h⟩
theorem SInv.mono {S : List Ses} {m j : Nat} (h : SInv S m) (hj : m ≤ j) : SInv S j := { h with len := Nat.le_trans h.len hj }
theorem SInv.upd {S : List Ses} {m : Nat} {c : Cm} {g : Ses → Ses} (h : SInv S m) (hc : CmOk c) (hg : ∀ s, keyE (g s) = keyE s) : SInv (updA g c.num c.foot S) (m + 1) := by
  refine ⟨upd_kn hg h.keys, fun s hs => ?_, fun s hs => ?_, Nat.le_trans (upd_len g c.num c.foot S) (Nat.succ_le_succ h.len)⟩
  · rcases upd_key hg hs with q | ⟨y, q1, q2⟩
    · rw [show s.num = c.num from congrArg Prod.fst q]; exact hc.num
    · rw [← (keyE_num q2).1]; exact h.num y q1
  · rcases upd_key hg hs with q | ⟨y, q1, q2⟩
    · rw [show s.foot = c.foot from congrArg Prod.snd q]; exact Nat.le_trans hc.foot (by omega)
    · rw [← (keyE_num q2).2]; exact h.foot y q1
theorem op_ok {c : Cm} (hc : CmOk c) (kind mode : Int) : (⟨kind, mode, c.path, c.num, c.foot⟩ : Lock.Op).ok := ⟨hc.path, hc.num.1, hc.num.2, Nat.le_trans hc.foot (by unfold maxLen; omega)⟩
theorem inv_add {l : S3} {k : Nat} {c : Cm} (h : Lock.Inv l k) (hc : CmOk c) : Lock.Inv (l.add c.path c.num c.foot c.mode) (k + 1) := Lock.inv_step h (op_ok hc 1 c.mode)
theorem inv_remove {l : S3} {k : Nat} {c : Cm} (h : Lock.Inv l k) (hc : CmOk c) : Lock.Inv (l.remove c.path c.num c.foot) (k + 1) := Lock.inv_step h (op_ok hc 2 c.mode)
theorem inv_drop {l : S3} {k : Nat} {c : Cm} (h : Lock.Inv l k) (hc : CmOk c) : Lock.Inv (l.dropAll c.num c.foot) (k + 1) := Lock.inv_step h (op_ok hc 3 c.mode)
theorem opT_inv {t : TS} {m : Nat} {c : Cm} {g : Ses → Ses} (e : Int) (h : SInv t.S m) (hc : CmOk c) (hg : ∀ s, keyE (g s) = keyE s) : SInv (opT t c g e).S (m + 1) ∧ (opT t c g e).L = t.L := by
  unfold opT
  split
  · exact ⟨h.upd hc hg, rfl⟩
  · exact ⟨h.mono (by omega), rfl⟩
theorem endT_inv {t : TS} {m k : Nat} {c : Cm} (e : Int) (h : SInv t.S m) (hl : Lock.Inv t.L k) (hc : CmOk c) : SInv (endT t c e).S (m + 1) ∧ Lock.Inv (endT t c e).L (k + 1) := by
  unfold endT
  split
  · exact ⟨h.upd hc fun s => rfl, inv_drop hl hc⟩
  · exact ⟨h.mono (by omega), hl.mono (by omega)⟩
theorem addT_inv {t : TS} {m k : Nat} {c : Cm} (h : SInv t.S m) (hl : Lock.Inv t.L k) (hc : CmOk c) : SInv (addT t c).1.S (m + 1) ∧ Lock.Inv (addT t c).1.L (k + 1) := ⟨h.mono (by omega), inv_add hl hc⟩
theorem doT_inv {t : TS} {m k : Nat} {c : Cm} (h : SInv t.S m) (hl : Lock.Inv t.L k) (hc : CmOk c) : SInv (doT t c).1.S (m + 1) ∧ Lock.Inv (doT t c).1.L (k + 1) := by
  have h0 : SInv t.S (m + 1) ∧ Lock.Inv t.L (k + 1) := ⟨h.mono (by omega), hl.mono (by omega)⟩
  unfold doT
  split
  · obtain ⟨q1, q2⟩ := opT_inv (Lease.openE (lookA t.S c.num c.foot) (Lease.cnt t.S c.foot)) (g := fun s => s.opened c.n c.time) h hc fun s => rfl
    exact ⟨q1, by rw [q2]; exact h0.2⟩
  split
  · exact endT_inv _ h hl hc
  split
  · obtain ⟨q1, q2⟩ := opT_inv (if (lookA t.S c.num c.foot).op then 0 else 50) (g := fun s => s.kept c.time) h hc fun s => rfl
    exact ⟨q1, by rw [q2]; exact h0.2⟩
  · unfold locksT
    split
    · exact h0
    split
    · exact addT_inv h hl hc
    split
    · unfold tryT
      split
      · exact addT_inv h hl hc
      split
      · exact h0
      · exact h0
    split
    · exact ⟨h0.1, inv_remove hl hc⟩
    · exact h0
theorem apply_inv {t : TS} {k : Nat} {c : Cm} (h : TInv t k) (hc : CmOk c) : TInv (applyT t c).1 (k + 1) := by
  have h0 : TInv t (k + 1) := ⟨h.s.mono (by omega), h.lock.mono (by omega)⟩
  unfold applyT
  split
  · exact h0
  split
  · obtain ⟨q1, q2⟩ := endT_inv (Lease.expB (lookA t.S c.num c.foot) c.time) h.s h.lock hc
    exact ⟨q1.mono (by omega), q2⟩
  split
  · exact h0
  split
  · exact h0
  · obtain ⟨q1, q2⟩ := doT_inv h.s h.lock hc
    obtain ⟨q3, q4⟩ := opT_inv (t := (doT t c).1) (Lease.tellE (lookA (doT t c).1.S c.num c.foot) c.req) (g := fun s => s.tell c.req (doT t c).2) q1 hc fun s => rfl
    exact ⟨q3.mono (by omega), by
      show Lock.Inv (opT _ _ _ _).L _
      rw [q4]; exact q2⟩
/-- commands, one after the other -/
def playT (t : TS) (l : List Cm) : TS := l.foldl (fun t c => (applyT t c).1) t
def toldT : TS → List Cm → List Ans
  | _, [] => []
  | t, c :: l => (applyT t c).2 :: toldT (applyT t c).1 l
theorem playT_snoc (t : TS) (l : List Cm) (c : Cm) : playT t (l ++ [c]) = (applyT (playT t l) c).1 := by unfold playT; rw [List.foldl_append]; rfl
theorem toldT_snoc : ∀ (l : List Cm) (t : TS) (c : Cm), toldT t (l ++ [c]) = toldT t l ++ [(applyT (playT t l) c).2]
  | [], _, _ => rfl
  | x :: l, t, c => by
    show (applyT t x).2 :: toldT _ (l ++ [c]) = _
    rw [toldT_snoc l]
    rfl
theorem play_inv {l : List Cm} (hl : ∀ c ∈ l, CmOk c) : ∀ {t : TS} {k : Nat}, TInv t k → TInv (playT t l) (k + l.length) := by
  induction l with
  | nil => exact fun h => h
  | cons c l ih =>
    intro t k h
    have h1 := ih (fun x hx => hl x (by simp [hx])) (apply_inv h (hl c (by simp)))
    have e : k + 1 + l.length = k + (c :: l).length := by simp only [List.length_cons]; omega
    rw [← e]
    exact h1
theorem new_inv {first : Int} (h0 : 0 ≤ first) (h1 : first < Lock.big64) : TInv ⟨[], ⟨first, [], []⟩⟩ 0 := ⟨⟨by simp [Kn], nofun, nofun, by simp⟩, Lock.inv_new h0 h1⟩
end Go.Proofs.YtpebabaigakagaaGreatDoor.Tab
end
