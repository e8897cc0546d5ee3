/- GraU, joined. -/
import Derived.Test.YtgicohkmfbbbdaaK12
import Derived.Deep.LoopGhost
section
namespace Go.Proofs.Ytgicohkmfbbbdaa.Gr
open Go.RowKit
open Tar (TS up up_same up_other popTo)
set_option linter.unusedSimpArgs false
set_option linter.unusedVariables false
attribute [-go_sem] run_eql_struct run_neq_struct run_eqGuard_agg

set_option maxRecDepth 100000 in
set_option maxHeartbeats 2000000 in
theorem enter_any {w : World} {kp : Nat} {ax : Option Addr} {cap : Nat} {sv wv : Value} {N : List Nd} {s : TS} (h : Sep [KnP kp ax cap sv wv N s] w) {i : Nat} {d : Nd} (hd : N[i]? = some d) (hs : Sm N s) :
    Calls Try.prog 60 #[.pointer (some ⟨kp, 0, none⟩), .int .i64 i] w (KnPost kp ax cap sv wv N s (Tar.enter s i) w) := by
  obtain ⟨i1, hi1, hz3, hz4, hz5⟩ := info_parts infoX
  obtain ⟨i2, hi2, hz6, hz7, hz8⟩ := info_parts infoF
  have hm : Try.prog.follows .mixedOrders = true := by kernel_rfl
  have hin : i < N.length := (List.getElem?_eq_some_iff.1 hd).1
  obtain ⟨hs1, hs2, hs3, hs4, hs5⟩ := hs
  have hrl : s.stk.reverse.length = s.stk.length := List.length_reverse
  have hrw : s.wk.reverse.length = s.wk.length := List.length_reverse
  have hA : At _ w [kHead kp ax cap sv wv N s, kRow ax cap N s, restX N, rowX sv s.stk.reverse, rowF wv s.wk.reverse] w := kn_begin h
  clear h
  (try simp only [uA] at hA); have hF := hA.facts; (try simp only [fZ] at hF)
  obtain ⟨bN, c, hax, hc1, hc2, hc3, hc4, hB⟩ := hA.row_open (e := 100) (size := 7) (ax := ax) (cap := cap) (n := N.length) (xs := flatN (ndL N s)) sZ (by omega)
  subst hax
  clear hF hA; have hA := hB; clear hB
  have hc4' : c.take ((ndL N s).length * 7) = flatN (ndL N s) := by rw [ndL_len]; exact hc4
  have hw1 := write_part Nd.cells_len hc4' (o := 4) (x' := (⟨d.id, d.na, d.nc, d.nx, s.low i, s.count + 1, s.on i, s.knot i⟩ : Nd)) (vs := [.int .i64 ((s.count : Int) + 1)]) (ndL_get hd s) (by simp [Nd.cells, setL]) (by show 4 + 1 ≤ 7; omega)
  have hg1 := set_get (y := (⟨d.id, d.na, d.nc, d.nx, s.low i, s.count + 1, s.on i, s.knot i⟩ : Nd)) (ndL_get hd s)
  rw [show (ndL N s).length = ((ndL N s).set i (⟨d.id, d.na, d.nc, d.nx, s.low i, s.count + 1, s.on i, s.knot i⟩ : Nd)).length from by rw [List.length_set]] at hw1
  have hw2 := write_part Nd.cells_len hw1 (o := 3) (x' := (⟨d.id, d.na, d.nc, d.nx, s.count + 1, s.count + 1, s.on i, s.knot i⟩ : Nd)) (vs := [.int .i64 ((s.count : Int) + 1)]) hg1 (by simp [Nd.cells, setL]) (by show 3 + 1 ≤ 7; omega)
  rw [set_set] at hw2
  have hg2 := set_get (y := (⟨d.id, d.na, d.nc, d.nx, s.count + 1, s.count + 1, s.on i, s.knot i⟩ : Nd)) (ndL_get hd s)
  rw [show ((ndL N s).set i (⟨d.id, d.na, d.nc, d.nx, s.low i, s.count + 1, s.on i, s.knot i⟩ : Nd)).length = ((ndL N s).set i (⟨d.id, d.na, d.nc, d.nx, s.count + 1, s.count + 1, s.on i, s.knot i⟩ : Nd)).length from by rw [List.length_set, List.length_set]] at hw2
  have hw3 := write_part Nd.cells_len hw2 (o := 5) (x' := (⟨d.id, d.na, d.nc, d.nx, s.count + 1, s.count + 1, true, s.knot i⟩ : Nd)) (vs := [.bool true]) hg2 rfl (by show 5 + 1 ≤ 7; omega)
  rw [set_set, List.length_set, ndL_len] at hw3
  have hfin := ndL_set hd (s := s) (s' := Tar.enter s i) (fun j hj => ⟨up_other _ _ hj, up_other _ _ hj, up_other _ _ hj, rfl⟩)
  have he : (⟨d.id, d.na, d.nc, d.nx, (Tar.enter s i).low i, (Tar.enter s i).num i, (Tar.enter s i).on i, (Tar.enter s i).knot i⟩ : Nd) = ⟨d.id, d.na, d.nc, d.nx, s.count + 1, s.count + 1, true, s.knot i⟩ := by show (⟨d.id, d.na, d.nc, d.nx, up s.low i _ i, up s.num i _ i, up s.on i _ i, s.knot i⟩ : Nd) = _; rw [up_same, up_same, up_same]
  rw [he] at hfin
  rw [hfin] at hw3
  have hw3' := Lib.hid hw3
  clear hw1 hw2 hw3 hg1 hg2 hfin he hc4 hc4' hd
  (try simp only [uA] at hA); have hF := hA.facts; (try simp only [fZ] at hF)
  go_enter Try.func60, Try.ntmps60
  go_wp2_with (first | ((with_reducible refine gst ?_); refine wS hA ?_; clear hF hA; intro w1 hA; (try simp only [uA] at hA); have hF := hA.facts; (try simp only [fZ] at hF)) | ((with_reducible refine gbx ?_); refine wB hA ?_; clear hF hA; intro b1 w1 hA hb1; (try simp only [uA] at hA); have hF := hA.facts; (try simp only [fZ] at hF)))
  try go_frame
  have hB := hA.drew
  clear hF hA; have hA := hB; clear hB
  refine wp_region_held (S := fun w' => BlockIs w' kp [.slice (some ⟨bN, 0, none⟩) N.length cap, sv, wv, .int .i64 ((s.count : Int) + 1), .int .i64 s.found] 93) hm ?_
  change wpAnyH _ _ _ _ _ 32 _ _ (World.drew _)
  generalize World.drew _ = w2 at *
  have hS0 : (fun w' => BlockIs w' kp [.slice (some ⟨bN, 0, none⟩) N.length cap, sv, wv, .int .i64 ((s.count : Int) + 1), .int .i64 s.found] 93) w2 := hA.get (A := Part.cells kp [.slice (some ⟨bN, 0, none⟩) N.length cap, sv, wv, .int .i64 ((s.count : Int) + 1), .int .i64 s.found] 93) sZ
  refine tP 0 11 (.pointer (some ⟨kp, 0, none⟩)) (s := hS0) (h := ?_)
  go_frame
  refine tP 1 12 (.pointer (some ⟨kp, 0, none⟩)) (s := hS0) (h := ?_)
  go_frame
  refine tP 2 13 (.pointer (some ⟨kp, 0, none⟩)) (s := hS0) (h := ?_)
  go_frame
  refine tZ 3 14 (.slice (some ⟨bN, 0, none⟩) N.length cap) (r := (fun w' hS => run_load_one (ty := 89) (b := kp) (j := 0) rfl (by exact rfl) hS (by kernel_rfl) rfl)) (s := hS0) (h := ?_)
  go_frame
  refine tP 4 15 (.int .i64 i) (s := hS0) (h := ?_)
  go_frame
  refine tP 5 16 (.pointer (some ⟨kp, 0, none⟩)) (s := hS0) (h := ?_)
  go_frame
  refine tP 6 17 (.pointer (some ⟨kp, 0, none⟩)) (s := hS0) (h := ?_)
  go_frame
  refine tP 7 18 (.pointer (some ⟨kp, 0, none⟩)) (s := hS0) (h := ?_)
  go_frame
  refine tZ 8 19 (.slice (some ⟨bN, 0, none⟩) N.length cap) (r := (fun w' hS => run_load_one (ty := 89) (b := kp) (j := 0) rfl (by exact rfl) hS (by kernel_rfl) rfl)) (s := hS0) (h := ?_)
  go_frame
  refine tP 9 20 (.int .i64 i) (s := hS0) (h := ?_)
  go_frame
  refine tP 10 21 (.pointer (some ⟨kp, 0, none⟩)) (s := hS0) (h := ?_)
  go_frame
  refine tP 11 22 (.pointer (some ⟨kp, 0, none⟩)) (s := hS0) (h := ?_)
  go_frame
  refine tP 12 23 (.pointer (some ⟨kp, 0, none⟩)) (s := hS0) (h := ?_)
  go_frame
  refine tZ 13 24 (.slice (some ⟨bN, 0, none⟩) N.length cap) (r := (fun w' hS => run_load_one (ty := 89) (b := kp) (j := 0) rfl (by exact rfl) hS (by kernel_rfl) rfl)) (s := hS0) (h := ?_)
  go_frame
  refine tP 14 25 (.int .i64 i) (s := hS0) (h := ?_)
  go_frame
  refine tP 15 26 (.pointer (some ⟨kp, 0, none⟩)) (s := hS0) (h := ?_)
  go_frame
  refine tP 16 27 (.pointer (some ⟨kp, 0, none⟩)) (s := hS0) (h := ?_)
  go_frame
  refine tP 17 28 (.pointer (some ⟨kp, 3, none⟩)) (s := hS0) (h := ?_)
  go_frame
  refine tZ 18 29 (.int .i64 ((s.count : Int) + 1)) (r := (fun w' hS => run_load_one (ty := 3) (b := kp) (j := 3) rfl (by exact rfl) hS (by kernel_rfl) rfl)) (s := hS0) (h := ?_)
  go_frame
  refine tP 19 30 (.pointer (some ⟨kp, 0, none⟩)) (s := hS0) (h := ?_)
  go_frame
  refine tP 20 31 (.pointer (some ⟨kp, 0, none⟩)) (s := hS0) (h := ?_)
  go_frame
  refine tP 21 32 (.pointer (some ⟨kp, 3, none⟩)) (s := hS0) (h := ?_)
  go_frame
  refine tZ 22 33 (.int .i64 ((s.count : Int) + 1)) (r := (fun w' hS => run_load_one (ty := 3) (b := kp) (j := 3) rfl (by exact rfl) hS (by kernel_rfl) rfl)) (s := hS0) (h := ?_)
  go_frame
  refine tZ 23 34 (.pointer (some ⟨bN, i * 7, none⟩)) (r := (fun w' hS => by simp [execOp, go_sem, Act.eval, Act.put]; intro h; omega)) (s := hS0) (h := ?_)
  go_frame
  refine tP 24 35 (.pointer (some ⟨bN, i * 7 + 4, none⟩)) (s := hS0) (h := ?_)
  go_frame
  refine wpAnyH_one (i := 25) (by kernel_rfl) ?_
  refine opStore_at (b := bN) (j := i * 7 + 4) (vs := [.int .i64 ((s.count : Int) + 1)]) rfl rfl (by kernel_rfl) rfl (by exact rfl) (by exact rfl) rfl hA sZ (by kernel_rfl) rfl (by (try simp only [List.length_set, setL_length]); show i * 7 + 4 + 1 ≤ c.length; omega) ?_
  intro w3 hB
  clear hA
  have hA := hB
  clear hB hS0
  have hS0 : BlockIs w3 kp [.slice (some ⟨bN, 0, none⟩) N.length cap, sv, wv, .int .i64 ((s.count : Int) + 1), .int .i64 s.found] 93 := hA.get (A := Part.cells kp [.slice (some ⟨bN, 0, none⟩) N.length cap, sv, wv, .int .i64 ((s.count : Int) + 1), .int .i64 s.found] 93) sZ
  refine ⟨hS0, ?_⟩
  try go_frame
  refine tZ 26 36 (.pointer (some ⟨bN, i * 7, none⟩)) (r := (fun w' hS => by simp [execOp, go_sem, Act.eval, Act.put]; intro h; omega)) (s := hS0) (h := ?_)
  go_frame
  refine tP 27 37 (.pointer (some ⟨bN, i * 7 + 3, none⟩)) (s := hS0) (h := ?_)
  go_frame
  refine wpAnyH_one (i := 28) (by kernel_rfl) ?_
  refine opStore_at (b := bN) (j := i * 7 + 3) (vs := [.int .i64 ((s.count : Int) + 1)]) rfl rfl (by kernel_rfl) rfl (by exact rfl) (by exact rfl) rfl hA sZ (by kernel_rfl) rfl (by (try simp only [List.length_set, setL_length]); show i * 7 + 3 + 1 ≤ c.length; omega) ?_
  intro w3 hB
  clear hA
  have hA := hB
  clear hB hS0
  have hS0 : BlockIs w3 kp [.slice (some ⟨bN, 0, none⟩) N.length cap, sv, wv, .int .i64 ((s.count : Int) + 1), .int .i64 s.found] 93 := hA.get (A := Part.cells kp [.slice (some ⟨bN, 0, none⟩) N.length cap, sv, wv, .int .i64 ((s.count : Int) + 1), .int .i64 s.found] 93) sZ
  refine ⟨hS0, ?_⟩
  try go_frame
  refine tZ 29 38 (.pointer (some ⟨bN, i * 7, none⟩)) (r := (fun w' hS => by simp [execOp, go_sem, Act.eval, Act.put]; intro h; omega)) (s := hS0) (h := ?_)
  go_frame
  refine tP 30 39 (.pointer (some ⟨bN, i * 7 + 5, none⟩)) (s := hS0) (h := ?_)
  go_frame
  refine wpAnyH_one (i := 31) (by kernel_rfl) ?_
  refine opStore_at (b := bN) (j := i * 7 + 5) (vs := [.bool true]) rfl rfl (by kernel_rfl) rfl (by exact rfl) (by exact rfl) rfl hA sZ (by kernel_rfl) rfl (by (try simp only [List.length_set, setL_length]); show i * 7 + 5 + 1 ≤ c.length; omega) ?_
  intro w3 hB
  clear hA
  have hA := hB
  clear hB hS0
  have hS0 : BlockIs w3 kp [.slice (some ⟨bN, 0, none⟩) N.length cap, sv, wv, .int .i64 ((s.count : Int) + 1), .int .i64 s.found] 93 := hA.get (A := Part.cells kp [.slice (some ⟨bN, 0, none⟩) N.length cap, sv, wv, .int .i64 ((s.count : Int) + 1), .int .i64 s.found] 93) sZ
  refine ⟨hS0, ?_⟩
  try go_frame
  refine wpAnyH_done (by kernel_rfl) ?_ _
  try go_frame
  clear hS0
  (try simp only [uA] at hA); have hF := hA.facts; (try simp only [fZ] at hF)
  go_wp2_with (first | ((with_reducible show wpList _ _ _ ({ dst := none, op := Op.store _ (Operand.tmp 37) _, type := _, pos := _, after := _, guard := _ } :: _) _ _); refine wpList_store_at (b := bN) (j := i * 7 + 3) (vs := [.int .i64 ((s.count : Int) + 1)]) rfl rfl rfl (by (try simp only [Act.eval, eV]) <;> exact rfl) (by exact rfl) hA sZ (by kernel_rfl) rfl (by (try simp only [List.length_set, setL_length]); show i * 7 + 3 + 1 ≤ c.length; omega) ?_; intro w1 hB; clear hF hA; have hA := hB; clear hB; (try simp only [uA] at hA); have hF := hA.facts; (try simp only [fZ] at hF)) | ((with_reducible show wpList _ _ _ ({ dst := none, op := Op.store _ (Operand.tmp 39) _, type := _, pos := _, after := _, guard := _ } :: _) _ _); refine wpList_store_at (b := bN) (j := i * 7 + 5) (vs := [.bool true]) rfl rfl rfl (by (try simp only [Act.eval, eV]) <;> exact rfl) (by exact rfl) hA sZ (by kernel_rfl) rfl (by (try simp only [List.length_set, setL_length]); show i * 7 + 5 + 1 ≤ c.length; omega) ?_; intro w1 hB; clear hF hA; have hA := hB; clear hB; (try simp only [uA] at hA); have hF := hA.facts; (try simp only [fZ] at hF)) | ((with_reducible show wpList _ _ _ ({ dst := _, op := Op.buildSlice _ _ _, type := _, pos := _, after := _, guard := _ } :: _) _ _); (with_reducible show wpList _ _ _ ({ dst := some 46, op := _, type := _, pos := _, after := _, guard := _ } :: _) _ _); refine wpList_one_at (e := 3) (vs := [.int .i64 i]) rfl rfl (by (try simp only [Act.eval, eV]) <;> exact rfl) (fun _ => by kernel_rfl) hA ?_; intro b46 w1 hB hb46; clear hF hA; have hA := hB; clear hB; (try simp only [uA] at hA); have hF := hA.facts; (try simp only [fZ] at hF)) | ((with_reducible show wpList _ _ _ ({ dst := _, op := Op.buildSlice _ _ _, type := _, pos := _, after := _, guard := _ } :: _) _ _); (with_reducible show wpList _ _ _ ({ dst := some 57, op := _, type := _, pos := _, after := _, guard := _ } :: _) _ _); refine wpList_one_at (e := 131) (vs := frL (i, 0)) rfl rfl (by (try simp only [Act.eval, eV]) <;> exact rfl) (fun _ => by kernel_rfl) hA ?_; intro b57 w1 hB hb57; clear hF hA; have hA := hB; clear hB; (try simp only [uA] at hA); have hF := hA.facts; (try simp only [fZ] at hF)) | ((with_reducible show wpList _ _ _ ({ dst := _, op := Op.call { callee := Callee.builtin Builtin.append, args := _, argTypes := _ }, type := _, pos := _, after := _, guard := _ } :: _) _ _); (with_reducible show wpList _ _ _ ({ dst := some 47, op := _, type := _, pos := _, after := _, guard := _ } :: _) _ _); refine wpList_append_at (e := 3) (size := 1) (v := sv) (xs := intL s.stk.reverse) (n := s.stk.reverse.length) (m := 1) (news := [.int .i64 i]) rfl _ _ 63 rfl Try.underlying63 hi1 hz3 hz4 hz5 rfl (by omega) hA sR (by (try simp only [Act.eval, eV]) <;> exact rfl) (by (try simp only [Act.eval, eV]) <;> exact rfl) rfl (hA.cells_reads sR _ _) (fun u hu => by rw [List.mem_singleton.1 hu]; rfl) (by unfold maxLen; omega) (by omega) ?_; intro v47 w1 hB; rw [rowX_snoc] at hB; obtain ⟨na2, nc2, hv47, _, _, _⟩ := hB.row_form .here; subst hv47; clear hF hA; have hA := hB; clear hB; (try simp only [uA] at hA); have hF := hA.facts; (try simp only [fZ] at hF)) | ((with_reducible show wpList _ _ _ ({ dst := _, op := Op.call { callee := Callee.builtin Builtin.append, args := _, argTypes := _ }, type := _, pos := _, after := _, guard := _ } :: _) _ _); (with_reducible show wpList _ _ _ ({ dst := some 58, op := _, type := _, pos := _, after := _, guard := _ } :: _) _ _); refine wpList_append_at (e := 131) (size := 2) (v := wv) (xs := flatF s.wk.reverse) (n := s.wk.reverse.length) (m := 1) (news := frL (i, 0)) rfl _ _ 91 rfl Try.underlying91 hi2 hz6 hz7 hz8 rfl (by omega) hA sR (by (try simp only [Act.eval, eV]) <;> exact rfl) (by (try simp only [Act.eval, eV]) <;> exact rfl) rfl (hA.cells_reads sR _ _) (frL_one _) (by unfold maxLen; omega) (by omega) ?_; intro v58 w1 hB; rw [rowF_snoc] at hB; obtain ⟨na3, nc3, hv58, _, _, _⟩ := hB.row_form .here; subst hv58; clear hF hA; have hA := hB; clear hB; (try simp only [uA] at hA); have hF := hA.facts; (try simp only [fZ] at hF)) | ((with_reducible refine gst ?_); refine wS hA ?_; clear hF hA; intro w1 hA; (try simp only [uA] at hA); have hF := hA.facts; (try simp only [fZ] at hF)) | ((with_reducible refine gbx ?_); refine wB hA ?_; clear hF hA; intro b1 w1 hA hb1; (try simp only [uA] at hA); have hF := hA.facts; (try simp only [fZ] at hF)))
  go_end0
  have hB := hA.row_shut (e := 100) (size := 7) (g := bN) (n := N.length) (cap := cap) (xs := flatN (ndL N (Tar.enter s i))) sZ (by simp only [List.length_set, setL_length]; exact hc3) hc1 hc2 hw3'.out
  have e1 : (s.stk.reverse ++ [i]).length = s.stk.length + 1 := by simp
  have e2 : (s.wk.reverse ++ [((i, 0) : Nat × Nat)]).length = s.wk.length + 1 := by simp
  try rw [e1] at hB
  try rw [e2] at hB
  refine ⟨.slice na2 (s.stk.length + 1) nc2, .slice na3 (s.wk.length + 1) nc3, rfl, kn_end ?_⟩
  show At _ w [Part.cells kp [.slice (some ⟨bN, 0, none⟩) N.length cap, _, _, .int .i64 ((s.count + 1 : Nat) : Int), .int .i64 s.found] _, _, _, rowX _ (i :: s.stk).reverse, rowF _ ((i, 0) :: s.wk).reverse] _
  rw [List.reverse_cons, List.reverse_cons, show ((s.count + 1 : Nat) : Int) = (s.count : Int) + 1 from by omega]
  exact hB.pick pZ
def ClRel (kp : Nat) (ax : Option Addr) (cap : Nat) (sv wv : Value) (N : List Nd) (s : TS) (i : Nat) (w : World) (k : Nat) (wr : World) : Prop :=
  ∃ (sv2 : Value) (st : List Nat) (on : Nat → Bool) (kn : Nat → Nat), st.length ≤ k ∧ st.length ≤ 100000 ∧ i ∈ st ∧ (∀ y ∈ st, y < N.length) ∧ popTo (s.found + 1) i st on kn = popTo (s.found + 1) i s.stk s.on s.knot ∧
    At [KnP kp ax cap sv wv N s] w [Part.cells kp [.slice ax N.length cap, sv2, wv, .int .i64 s.count, .int .i64 ((s.found : Int) + 1)] 93, kRow ax cap N { s with on := on, knot := kn }, restX N, rowX sv2 st.reverse, rowF wv s.wk.reverse] wr
theorem rowX_rev (v : Value) (x : Nat) (xs : List Nat) : rowX v (x :: xs).reverse = Part.row 3 1 v (xs.length + 1) (intL (xs.reverse ++ [x])) := by
  unfold rowX
  rw [List.reverse_cons, List.length_append, List.length_reverse]
  rfl
theorem rowX_of (v : Value) (xs : List Nat) : Part.row 3 1 v xs.length (intL xs.reverse) = rowX v xs.reverse := by
  unfold rowX
  rw [List.length_reverse]
theorem top_cell {c : List Value} {xs : List Nat} {x : Nat} (h : c.take ((xs.length + 1) * 1) = intL (xs.reverse ++ [x])) : c[xs.length]? = some (.int .i64 x) := by
  have h1 := congrArg (fun l => l[xs.length]?) h
  simp only [Nat.mul_one] at h1
  rw [List.getElem?_take, if_pos (by omega)] at h1
  rw [h1]
  simp [intL, List.getElem?_append]
theorem top_rest {c : List Value} {xs : List Nat} {x : Nat} (h : c.take ((xs.length + 1) * 1) = intL (xs.reverse ++ [x])) : c.take (xs.reverse.length * 1) = intL xs.reverse := by
  have h1 := congrArg (fun l => l.take xs.length) h
  simp only [Nat.mul_one] at h1
  rw [List.take_take, Nat.min_eq_left (by omega)] at h1
  rw [List.length_reverse, Nat.mul_one, h1]
  simp [intL]
set_option maxRecDepth 100000 in
set_option maxHeartbeats 2000000 in
theorem close_any {w : World} {kp : Nat} {ax : Option Addr} {cap : Nat} {sv wv : Value} {N : List Nd} {s : TS} (h : Sep [KnP kp ax cap sv wv N s] w) {i : Nat} (hmem : i ∈ s.stk) (hlt : ∀ y ∈ s.stk, y < N.length) (hs : Sm N s) :
    Calls Try.prog 78 #[.pointer (some ⟨kp, 0, none⟩), .int .i64 i] w (KnPost kp ax cap sv wv N s (Tar.close s i) w) := by
  have hm : Try.prog.follows .mixedOrders = true := by kernel_rfl
  obtain ⟨hs1, hs2, hs3, hs4, hs5⟩ := hs
  have hA : At _ w [kHead kp ax cap sv wv N s, kRow ax cap N s, restX N, rowX sv s.stk.reverse, rowF wv s.wk.reverse] w := kn_begin h
  clear h
  (try simp only [uA] at hA); have hF := hA.facts; (try simp only [fZ] at hF)
  go_enter Try.func78, Try.ntmps78
  go_wp2_with (first | ((with_reducible refine gst ?_); refine wS hA ?_; clear hF hA; intro w1 hA; (try simp only [uA] at hA); have hF := hA.facts; (try simp only [fZ] at hF)) | ((with_reducible refine gbx ?_); refine wB hA ?_; clear hF hA; intro b1 w1 hA hb1; (try simp only [uA] at hA); have hF := hA.facts; (try simp only [fZ] at hF)))
  try go_frame
  go_loopg [] s.stk.length (ClRel kp ax cap sv wv N s i w)
  case atStart => exact ⟨sv, s.stk, s.on, s.knot, by omega, by omega, hmem, hlt, rfl, hA.pick pZ⟩
  case round =>
    obtain ⟨sv2, st, on, kn, hlen, hlen2, hmem, hlt, hpop, hB⟩ := hrel
    have hpop' := Lib.hid hpop
    clear hF hA hpop; have hA := hB; clear hB
    cases st with
    | nil => cases hmem
    | cons x xs =>
      have hx := hlt x (by simp)
      obtain ⟨d, hd⟩ : ∃ d, N[x]? = some d := ⟨_, List.getElem?_eq_getElem hx⟩
      have hlt' := Lib.hid (show ∀ y ∈ xs, y < N.length from fun y hy => hlt y (by simp [hy]))
      have hmem' := Lib.hid hmem
      clear hlt hmem
      simp only [List.length_cons] at hlen hlen2
      rw [rowX_rev] at hA
      obtain ⟨bN, c, hax, hc1, hc2, hc3, hc4, hB⟩ := hA.row_open (e := 100) (size := 7) (ax := ax) (cap := cap) (n := N.length) (xs := flatN (ndL N { s with on := on, knot := kn })) sZ (by omega)
      subst hax
      clear hA; have hA := hB; clear hB
      obtain ⟨axs, caps, hsv, _, _, _⟩ := hA.row_form (e := 3) (size := 1) (n := xs.length + 1) (v := sv2) (xs := intL (xs.reverse ++ [x])) sZ
      subst hsv
      obtain ⟨gS, cS, hgs, hd1, hd2, hd3, hd4, hB⟩ := hA.row_open (e := 3) (size := 1) (ax := axs) (cap := caps) (n := xs.length + 1) (xs := intL (xs.reverse ++ [x])) sZ (by omega)
      subst hgs
      clear hA; have hA := hB; clear hB
      have htop : cS[xs.length]? = some (.int .i64 x) := top_cell hd4
      have hd5 : cS.take (xs.reverse.length * 1) = intL xs.reverse := top_rest hd4
      rw [List.length_reverse] at hd5
      have hc4' : c.take ((ndL N { s with on := on, knot := kn }).length * 7) = flatN (ndL N { s with on := on, knot := kn }) := by rw [ndL_len]; exact hc4
      have hgx := ndL_get hd { s with on := on, knot := kn }
      have hw1 := write_part Nd.cells_len hc4' (o := 5) (x' := (⟨d.id, d.na, d.nc, d.nx, s.low x, s.num x, false, kn x⟩ : Nd)) (vs := [.bool false]) hgx rfl (by show 5 + 1 ≤ 7; omega)
      have hg1 := set_get (y := (⟨d.id, d.na, d.nc, d.nx, s.low x, s.num x, false, kn x⟩ : Nd)) hgx
      rw [show (ndL N { s with on := on, knot := kn }).length = ((ndL N { s with on := on, knot := kn }).set x (⟨d.id, d.na, d.nc, d.nx, s.low x, s.num x, false, kn x⟩ : Nd)).length from by rw [List.length_set]] at hw1
      have hw2 := write_part Nd.cells_len hw1 (o := 6) (x' := (⟨d.id, d.na, d.nc, d.nx, s.low x, s.num x, false, s.found + 1⟩ : Nd)) (vs := [.int .i64 ((s.found : Int) + 1)]) hg1 (by simp [Nd.cells, setL]) (by show 6 + 1 ≤ 7; omega)
      rw [set_set, List.length_set, ndL_len] at hw2
      have hfin := ndL_set hd (s := { s with on := on, knot := kn }) (s' := { s with on := up on x false, knot := up kn x (s.found + 1) }) (fun j hj => ⟨rfl, rfl, up_other _ _ hj, up_other _ _ hj⟩)
      simp only [up_same] at hfin
      rw [hfin] at hw2
      have hw2' := Lib.hid hw2
      clear hw1 hw2 hg1 hgx hfin hc4 hc4' hd hd4
      obtain ⟨dd, hdd⟩ : ∃ z, (x == i) = z := ⟨_, rfl⟩
      have hdd' := Lib.hid hdd
      have hdi : ((x : Int) == (i : Int)) = dd := by rw [← hdd, Bool.eq_iff_iff]; simp; omega
      have hdi2 : decide ((x : Int) = (i : Int)) = dd := by rw [← hdd, Bool.eq_iff_iff]; simp; omega
      clear hdd
      (try simp only [uA] at hA); have hF := hA.facts; (try simp only [fZ] at hF)
      have hwx : IntKind.i64.wrap ((xs.length : Int) + 1 - 1) = xs.length := by rw [IntKind.wrap_i64] <;> omega
      have hwy : IntKind.i64.wrap (xs.length : Int) = xs.length := by rw [IntKind.wrap_i64] <;> omega
      go_wp2_with (first | ((with_reducible refine gst ?_); refine wS hA ?_; clear hF hA; intro w1 hA; (try simp only [uA] at hA); have hF := hA.facts; (try simp only [fZ] at hF)) | ((with_reducible refine gbx ?_); refine wB hA ?_; clear hF hA; intro b1 w1 hA hb1; (try simp only [uA] at hA); have hF := hA.facts; (try simp only [fZ] at hF)))
      try go_frame
      (refine wp_region_all (Cl _ _ _) (by kernel_rfl) (by kernel_rfl) (Cl.drew hA) ?_); (have hn1 := Cl.none hA); (have hn2 := Cl.none2 hA); (repeat (first | go_big_quiet_skip | (go_big_quiet_want; (first | (refine quiet_load_at rfl rfl sR (by kernel_rfl) (by first | assumption | exact rfl) ?_; go_frame; go_big_quiet_on) | (go_big_quiet_op; (first | go_big_quiet_on | ((apply Exists.intro); (refine ⟨fun w1 hw => ?_, ?_⟩); (focus ((have hw := Cl.out hw); (fail))); (go_big_quiet_on))))))))
      (refine wpQuiet_nil ?_); (intro w1 hB); (clear hF hA hn1 hn2); (have hA := Cl.out hB); (clear hB); (try simp only [uA] at hA); have hF := hA.facts; (try simp only [fZ] at hF)
      go_wp2_with (first | ((with_reducible refine gst ?_); refine wS hA ?_; clear hF hA; intro w1 hA; (try simp only [uA] at hA); have hF := hA.facts; (try simp only [fZ] at hF)) | ((with_reducible refine gbx ?_); refine wB hA ?_; clear hF hA; intro b1 w1 hA hb1; (try simp only [uA] at hA); have hF := hA.facts; (try simp only [fZ] at hF)))
      try go_frame
      have hB := hA.drew
      clear hF hA; have hA := hB; clear hB
      refine wp_region_held (S := fun _ => True) hm ?_
      change wpAnyH _ _ _ _ _ 15 _ _ (World.drew _)
      generalize World.drew _ = w2 at *
      refine tP 0 24 (.pointer (some ⟨kp, 0, none⟩)) (s := trivial) (h := ?_)
      go_frame
      refine tP 1 25 (.pointer (some ⟨kp, 0, none⟩)) (s := trivial) (h := ?_)
      go_frame
      refine tP 2 26 (.pointer (some ⟨kp, 0, none⟩)) (s := trivial) (h := ?_)
      go_frame
      refine tP 3 27 (.pointer (some ⟨kp, 1, none⟩)) (s := trivial) (h := ?_)
      go_frame
      refine tP 5 29 (.pointer (some ⟨kp, 0, none⟩)) (s := trivial) (h := ?_)
      go_frame
      refine tP 6 30 (.pointer (some ⟨kp, 0, none⟩)) (s := trivial) (h := ?_)
      go_frame
      refine tP 7 31 (.pointer (some ⟨kp, 1, none⟩)) (s := trivial) (h := ?_)
      go_frame
      refine wpAnyH_two (i := 4) (j := 8) (by kernel_rfl) ?_ ?_
      · skip
        refine opLoad1_at (i := 4) (d := some 28) (b := kp) (j := 1) rfl rfl (by kernel_rfl) rfl (by exact rfl) hA sZ (by kernel_rfl) rfl ?_
        refine ⟨trivial, ?_⟩
        try go_frame
        refine wpAnyH_one (i := 8) (by kernel_rfl) ?_
        refine opLoad1_at (i := 8) (d := some 32) (b := kp) (j := 1) rfl rfl (by kernel_rfl) rfl (by exact rfl) hA sZ (by kernel_rfl) rfl ?_
        refine ⟨trivial, ?_⟩
        try go_frame
        refine tP 9 33 (.int .i64 ((xs.length : Int) + 1)) (s := trivial) (h := ?_)
        go_frame
        refine tZ 10 34 (.int .i64 xs.length) (r := (fun w' hS => by simp [execOp, go_sem, Act.eval, Act.put, hwx, hwy])) (s := trivial) (h := ?_)
        go_frame
        refine tZ 11 35 (.slice (some ⟨gS, 0, none⟩) xs.length caps) (r := (fun w' hS => by first | (simp [execOp, go_sem, Act.eval, Act.put]; done) | (simp [execOp, go_sem, Act.eval, Act.put]; omega))) (s := trivial) (h := ?_)
        go_frame
        refine tP 12 36 (.pointer (some ⟨kp, 0, none⟩)) (s := trivial) (h := ?_)
        go_frame
        refine tP 13 37 (.pointer (some ⟨kp, 1, none⟩)) (s := trivial) (h := ?_)
        go_frame
        refine wpAnyH_one (i := 14) (by kernel_rfl) ?_
        refine opStore_at (b := kp) (j := 1) (vs := [.slice (some ⟨gS, 0, none⟩) xs.length caps]) rfl rfl (by kernel_rfl) rfl (by exact rfl) (by exact rfl) rfl hA sZ (by kernel_rfl) rfl (by show 1 + 1 ≤ 5; omega) ?_
        intro w3 hB
        clear hA; have hA := hB; clear hB
        refine ⟨trivial, ?_⟩
        try go_frame
        refine wpAnyH_done (by kernel_rfl) ?_ _
        try go_frame
        (try simp only [uA] at hA)
        (try simp only [uA] at hA); have hF := hA.facts; (try simp only [fZ] at hF)
        go_wp2_with (first | ((with_reducible refine gst ?_); refine wS hA ?_; clear hF hA; intro w1 hA; (try simp only [uA] at hA); have hF := hA.facts; (try simp only [fZ] at hF)) | ((with_reducible refine gbx ?_); refine wB hA ?_; clear hF hA; intro b1 w1 hA hb1; (try simp only [uA] at hA); have hF := hA.facts; (try simp only [fZ] at hF)))
        have hB := hA.row_shut (e := 3) (size := 1) (g := gS) (n := xs.length) (cap := caps) (xs := intL xs.reverse) sZ hd3 (by omega) hd2 hd5
        rw [rowX_of] at hB
        clear hF hA; have hA := hB; clear hB
        have hB := hA.drew
        clear hA; have hA := hB; clear hB
        refine wp_region_held (S := fun w' => BlockIs w' kp [.slice (some ⟨bN, 0, none⟩) N.length cap, .slice (some ⟨gS, 0, none⟩) xs.length caps, wv, .int .i64 s.count, .int .i64 ((s.found : Int) + 1)] 93) hm ?_
        change wpAnyH _ _ _ _ _ 20 _ _ (World.drew _)
        generalize World.drew _ = w2 at *
        have hS0 : (fun w' => BlockIs w' kp [.slice (some ⟨bN, 0, none⟩) N.length cap, .slice (some ⟨gS, 0, none⟩) xs.length caps, wv, .int .i64 s.count, .int .i64 ((s.found : Int) + 1)] 93) w2 := hA.get (A := Part.cells kp [.slice (some ⟨bN, 0, none⟩) N.length cap, .slice (some ⟨gS, 0, none⟩) xs.length caps, wv, .int .i64 s.count, .int .i64 ((s.found : Int) + 1)] 93) sZ
        refine tP 0 38 (.pointer (some ⟨kp, 0, none⟩)) (s := hS0) (h := ?_)
        go_frame
        refine tP 1 39 (.pointer (some ⟨kp, 0, none⟩)) (s := hS0) (h := ?_)
        go_frame
        refine tP 2 40 (.pointer (some ⟨kp, 0, none⟩)) (s := hS0) (h := ?_)
        go_frame
        refine tZ 3 41 (.slice (some ⟨bN, 0, none⟩) N.length cap) (r := (fun w' hS => run_load_one (ty := 89) (b := kp) (j := 0) rfl (by exact rfl) hS (by kernel_rfl) rfl)) (s := hS0) (h := ?_)
        go_frame
        refine tP 4 42 (.int .i64 x) (s := hS0) (h := ?_)
        go_frame
        refine tP 5 43 (.pointer (some ⟨kp, 0, none⟩)) (s := hS0) (h := ?_)
        go_frame
        refine tP 6 44 (.pointer (some ⟨kp, 0, none⟩)) (s := hS0) (h := ?_)
        go_frame
        refine tP 7 45 (.pointer (some ⟨kp, 0, none⟩)) (s := hS0) (h := ?_)
        go_frame
        refine tZ 8 46 (.slice (some ⟨bN, 0, none⟩) N.length cap) (r := (fun w' hS => run_load_one (ty := 89) (b := kp) (j := 0) rfl (by exact rfl) hS (by kernel_rfl) rfl)) (s := hS0) (h := ?_)
        go_frame
        refine tP 9 47 (.int .i64 x) (s := hS0) (h := ?_)
        go_frame
        refine tP 10 48 (.pointer (some ⟨kp, 0, none⟩)) (s := hS0) (h := ?_)
        go_frame
        refine tP 11 49 (.pointer (some ⟨kp, 0, none⟩)) (s := hS0) (h := ?_)
        go_frame
        refine tP 12 50 (.pointer (some ⟨kp, 4, none⟩)) (s := hS0) (h := ?_)
        go_frame
        refine tZ 13 51 (.int .i64 ((s.found : Int) + 1)) (r := (fun w' hS => run_load_one (ty := 3) (b := kp) (j := 4) rfl (by exact rfl) hS (by kernel_rfl) rfl)) (s := hS0) (h := ?_)
        go_frame
        refine tZ 14 52 (.pointer (some ⟨bN, x * 7, none⟩)) (r := (fun w' hS => by simp [execOp, go_sem, Act.eval, Act.put]; intro h; omega)) (s := hS0) (h := ?_)
        go_frame
        refine tP 15 53 (.pointer (some ⟨bN, x * 7 + 5, none⟩)) (s := hS0) (h := ?_)
        go_frame
        refine wpAnyH_one (i := 16) (by kernel_rfl) ?_
        refine opStore_at (b := bN) (j := x * 7 + 5) (vs := [.bool false]) rfl rfl (by kernel_rfl) rfl (by exact rfl) (by exact rfl) rfl hA sZ (by kernel_rfl) rfl (by (try simp only [List.length_set, setL_length]); show x * 7 + 5 + 1 ≤ c.length; omega) ?_
        intro w3 hB
        clear hA
        have hA := hB
        clear hB hS0
        have hS0 : BlockIs w3 kp [.slice (some ⟨bN, 0, none⟩) N.length cap, .slice (some ⟨gS, 0, none⟩) xs.length caps, wv, .int .i64 s.count, .int .i64 ((s.found : Int) + 1)] 93 := hA.get (A := Part.cells kp [.slice (some ⟨bN, 0, none⟩) N.length cap, .slice (some ⟨gS, 0, none⟩) xs.length caps, wv, .int .i64 s.count, .int .i64 ((s.found : Int) + 1)] 93) sZ
        refine ⟨hS0, ?_⟩
        try go_frame
        refine tZ 17 54 (.pointer (some ⟨bN, x * 7, none⟩)) (r := (fun w' hS => by simp [execOp, go_sem, Act.eval, Act.put]; intro h; omega)) (s := hS0) (h := ?_)
        go_frame
        refine tP 18 55 (.pointer (some ⟨bN, x * 7 + 6, none⟩)) (s := hS0) (h := ?_)
        go_frame
        refine wpAnyH_one (i := 19) (by kernel_rfl) ?_
        refine opStore_at (b := bN) (j := x * 7 + 6) (vs := [.int .i64 ((s.found : Int) + 1)]) rfl rfl (by kernel_rfl) rfl (by exact rfl) (by exact rfl) rfl hA sZ (by kernel_rfl) rfl (by (try simp only [List.length_set, setL_length]); show x * 7 + 6 + 1 ≤ c.length; omega) ?_
        intro w3 hB
        clear hA
        have hA := hB
        clear hB hS0
        have hS0 : BlockIs w3 kp [.slice (some ⟨bN, 0, none⟩) N.length cap, .slice (some ⟨gS, 0, none⟩) xs.length caps, wv, .int .i64 s.count, .int .i64 ((s.found : Int) + 1)] 93 := hA.get (A := Part.cells kp [.slice (some ⟨bN, 0, none⟩) N.length cap, .slice (some ⟨gS, 0, none⟩) xs.length caps, wv, .int .i64 s.count, .int .i64 ((s.found : Int) + 1)] 93) sZ
        refine ⟨hS0, ?_⟩
        try go_frame
        refine wpAnyH_done (by kernel_rfl) ?_ _
        try go_frame
        clear hS0
        have hB := hA.row_shut (e := 100) (size := 7) (g := bN) (n := N.length) (cap := cap) (xs := flatN (ndL N { s with on := up on x false, knot := up kn x (s.found + 1) })) sZ (by simp only [setL_length]; exact hc3) hc1 hc2 hw2'.out
        clear hA; have hA := hB; clear hB
        (try simp only [uA] at hA); have hF := hA.facts; (try simp only [fZ] at hF)
        cases dd
        · have hne : x ≠ i := by have := hdd'.out; simpa using this
          have hne' := Lib.hid hne
          clear hne
          go_wp2_with (first | ((with_reducible refine gst ?_); refine wS hA ?_; clear hF hA; intro w1 hA; (try simp only [uA] at hA); have hF := hA.facts; (try simp only [fZ] at hF)) | ((with_reducible refine gbx ?_); refine wB hA ?_; clear hF hA; intro b1 w1 hA hb1; (try simp only [uA] at hA); have hF := hA.facts; (try simp only [fZ] at hF)))
          go_roundg xs.length
          case measure => omega
          case rel =>
            have hpp : popTo (s.found + 1) i (x :: xs) on kn = popTo (s.found + 1) i xs (up on x false) (up kn x (s.found + 1)) := by rw [popTo, if_neg hne'.out]
            exact ⟨.slice (some ⟨gS, 0, none⟩) xs.length caps, xs, _, _, by omega, by omega, (List.mem_cons.1 hmem'.out).resolve_left (fun e => hne'.out e.symm), hlt'.out, by rw [← hpp]; exact hpop'.out, hA.pick pZ⟩
        · have heq : x = i := by have := hdd'.out; simpa using this
          have heq' := Lib.hid heq
          clear heq
          go_wp2_with (first | ((with_reducible refine gst ?_); refine wS hA ?_; clear hF hA; intro w1 hA; (try simp only [uA] at hA); have hF := hA.facts; (try simp only [fZ] at hF)) | ((with_reducible refine gbx ?_); refine wB hA ?_; clear hF hA; intro b1 w1 hA hb1; (try simp only [uA] at hA); have hF := hA.facts; (try simp only [fZ] at hF)))
          have hcl : Tar.close s i = { s with found := s.found + 1, stk := xs, on := up on x false, knot := up kn x (s.found + 1) } := by unfold Tar.close; rw [← hpop'.out, popTo, if_pos heq'.out]
          refine bodyPost_ret (results_none rfl _ _ _) rfl ?_
          refine ⟨.slice (some ⟨gS, 0, none⟩) xs.length caps, wv, rfl, kn_end ?_⟩
          rw [hcl]
          show At _ w [Part.cells kp [.slice (some ⟨bN, 0, none⟩) N.length cap, _, _, .int .i64 s.count, .int .i64 ((s.found + 1 : Nat) : Int)] _, _, _, rowX _ xs.reverse, rowF _ s.wk.reverse] _
          rw [show ((s.found + 1 : Nat) : Int) = (s.found : Int) + 1 from by omega]
          exact hA.pick pZ
      · skip
        refine opLoad1_at (i := 8) (d := some 32) (b := kp) (j := 1) rfl rfl (by kernel_rfl) rfl (by exact rfl) hA sZ (by kernel_rfl) rfl ?_
        refine ⟨trivial, ?_⟩
        try go_frame
        refine tP 9 33 (.int .i64 ((xs.length : Int) + 1)) (s := trivial) (h := ?_)
        go_frame
        refine tZ 10 34 (.int .i64 xs.length) (r := (fun w' hS => by simp [execOp, go_sem, Act.eval, Act.put, hwx, hwy])) (s := trivial) (h := ?_)
        go_frame
        refine wpAnyH_one (i := 4) (by kernel_rfl) ?_
        refine opLoad1_at (i := 4) (d := some 28) (b := kp) (j := 1) rfl rfl (by kernel_rfl) rfl (by exact rfl) hA sZ (by kernel_rfl) rfl ?_
        refine ⟨trivial, ?_⟩
        try go_frame
        refine tZ 11 35 (.slice (some ⟨gS, 0, none⟩) xs.length caps) (r := (fun w' hS => by first | (simp [execOp, go_sem, Act.eval, Act.put]; done) | (simp [execOp, go_sem, Act.eval, Act.put]; omega))) (s := trivial) (h := ?_)
        go_frame
        refine tP 12 36 (.pointer (some ⟨kp, 0, none⟩)) (s := trivial) (h := ?_)
        go_frame
        refine tP 13 37 (.pointer (some ⟨kp, 1, none⟩)) (s := trivial) (h := ?_)
        go_frame
        refine wpAnyH_one (i := 14) (by kernel_rfl) ?_
        refine opStore_at (b := kp) (j := 1) (vs := [.slice (some ⟨gS, 0, none⟩) xs.length caps]) rfl rfl (by kernel_rfl) rfl (by exact rfl) (by exact rfl) rfl hA sZ (by kernel_rfl) rfl (by show 1 + 1 ≤ 5; omega) ?_
        intro w3 hB
        clear hA; have hA := hB; clear hB
        refine ⟨trivial, ?_⟩
        try go_frame
        refine wpAnyH_done (by kernel_rfl) ?_ _
        try go_frame
        (try simp only [uA] at hA)
        (try simp only [uA] at hA); have hF := hA.facts; (try simp only [fZ] at hF)
        go_wp2_with (first | ((with_reducible refine gst ?_); refine wS hA ?_; clear hF hA; intro w1 hA; (try simp only [uA] at hA); have hF := hA.facts; (try simp only [fZ] at hF)) | ((with_reducible refine gbx ?_); refine wB hA ?_; clear hF hA; intro b1 w1 hA hb1; (try simp only [uA] at hA); have hF := hA.facts; (try simp only [fZ] at hF)))
        have hB := hA.row_shut (e := 3) (size := 1) (g := gS) (n := xs.length) (cap := caps) (xs := intL xs.reverse) sZ hd3 (by omega) hd2 hd5
        rw [rowX_of] at hB
        clear hF hA; have hA := hB; clear hB
        have hB := hA.drew
        clear hA; have hA := hB; clear hB
        refine wp_region_held (S := fun w' => BlockIs w' kp [.slice (some ⟨bN, 0, none⟩) N.length cap, .slice (some ⟨gS, 0, none⟩) xs.length caps, wv, .int .i64 s.count, .int .i64 ((s.found : Int) + 1)] 93) hm ?_
        change wpAnyH _ _ _ _ _ 20 _ _ (World.drew _)
        generalize World.drew _ = w2 at *
        have hS0 : (fun w' => BlockIs w' kp [.slice (some ⟨bN, 0, none⟩) N.length cap, .slice (some ⟨gS, 0, none⟩) xs.length caps, wv, .int .i64 s.count, .int .i64 ((s.found : Int) + 1)] 93) w2 := hA.get (A := Part.cells kp [.slice (some ⟨bN, 0, none⟩) N.length cap, .slice (some ⟨gS, 0, none⟩) xs.length caps, wv, .int .i64 s.count, .int .i64 ((s.found : Int) + 1)] 93) sZ
        refine tP 0 38 (.pointer (some ⟨kp, 0, none⟩)) (s := hS0) (h := ?_)
        go_frame
        refine tP 1 39 (.pointer (some ⟨kp, 0, none⟩)) (s := hS0) (h := ?_)
        go_frame
        refine tP 2 40 (.pointer (some ⟨kp, 0, none⟩)) (s := hS0) (h := ?_)
        go_frame
        refine tZ 3 41 (.slice (some ⟨bN, 0, none⟩) N.length cap) (r := (fun w' hS => run_load_one (ty := 89) (b := kp) (j := 0) rfl (by exact rfl) hS (by kernel_rfl) rfl)) (s := hS0) (h := ?_)
        go_frame
        refine tP 4 42 (.int .i64 x) (s := hS0) (h := ?_)
        go_frame
        refine tP 5 43 (.pointer (some ⟨kp, 0, none⟩)) (s := hS0) (h := ?_)
        go_frame
        refine tP 6 44 (.pointer (some ⟨kp, 0, none⟩)) (s := hS0) (h := ?_)
        go_frame
        refine tP 7 45 (.pointer (some ⟨kp, 0, none⟩)) (s := hS0) (h := ?_)
        go_frame
        refine tZ 8 46 (.slice (some ⟨bN, 0, none⟩) N.length cap) (r := (fun w' hS => run_load_one (ty := 89) (b := kp) (j := 0) rfl (by exact rfl) hS (by kernel_rfl) rfl)) (s := hS0) (h := ?_)
        go_frame
        refine tP 9 47 (.int .i64 x) (s := hS0) (h := ?_)
        go_frame
        refine tP 10 48 (.pointer (some ⟨kp, 0, none⟩)) (s := hS0) (h := ?_)
        go_frame
        refine tP 11 49 (.pointer (some ⟨kp, 0, none⟩)) (s := hS0) (h := ?_)
        go_frame
        refine tP 12 50 (.pointer (some ⟨kp, 4, none⟩)) (s := hS0) (h := ?_)
        go_frame
        refine tZ 13 51 (.int .i64 ((s.found : Int) + 1)) (r := (fun w' hS => run_load_one (ty := 3) (b := kp) (j := 4) rfl (by exact rfl) hS (by kernel_rfl) rfl)) (s := hS0) (h := ?_)
        go_frame
        refine tZ 14 52 (.pointer (some ⟨bN, x * 7, none⟩)) (r := (fun w' hS => by simp [execOp, go_sem, Act.eval, Act.put]; intro h; omega)) (s := hS0) (h := ?_)
        go_frame
        refine tP 15 53 (.pointer (some ⟨bN, x * 7 + 5, none⟩)) (s := hS0) (h := ?_)
        go_frame
        refine wpAnyH_one (i := 16) (by kernel_rfl) ?_
        refine opStore_at (b := bN) (j := x * 7 + 5) (vs := [.bool false]) rfl rfl (by kernel_rfl) rfl (by exact rfl) (by exact rfl) rfl hA sZ (by kernel_rfl) rfl (by (try simp only [List.length_set, setL_length]); show x * 7 + 5 + 1 ≤ c.length; omega) ?_
        intro w3 hB
        clear hA
        have hA := hB
        clear hB hS0
        have hS0 : BlockIs w3 kp [.slice (some ⟨bN, 0, none⟩) N.length cap, .slice (some ⟨gS, 0, none⟩) xs.length caps, wv, .int .i64 s.count, .int .i64 ((s.found : Int) + 1)] 93 := hA.get (A := Part.cells kp [.slice (some ⟨bN, 0, none⟩) N.length cap, .slice (some ⟨gS, 0, none⟩) xs.length caps, wv, .int .i64 s.count, .int .i64 ((s.found : Int) + 1)] 93) sZ
        refine ⟨hS0, ?_⟩
        try go_frame
        refine tZ 17 54 (.pointer (some ⟨bN, x * 7, none⟩)) (r := (fun w' hS => by simp [execOp, go_sem, Act.eval, Act.put]; intro h; omega)) (s := hS0) (h := ?_)
        go_frame
        refine tP 18 55 (.pointer (some ⟨bN, x * 7 + 6, none⟩)) (s := hS0) (h := ?_)
        go_frame
        refine wpAnyH_one (i := 19) (by kernel_rfl) ?_
        refine opStore_at (b := bN) (j := x * 7 + 6) (vs := [.int .i64 ((s.found : Int) + 1)]) rfl rfl (by kernel_rfl) rfl (by exact rfl) (by exact rfl) rfl hA sZ (by kernel_rfl) rfl (by (try simp only [List.length_set, setL_length]); show x * 7 + 6 + 1 ≤ c.length; omega) ?_
        intro w3 hB
        clear hA
        have hA := hB
        clear hB hS0
        have hS0 : BlockIs w3 kp [.slice (some ⟨bN, 0, none⟩) N.length cap, .slice (some ⟨gS, 0, none⟩) xs.length caps, wv, .int .i64 s.count, .int .i64 ((s.found : Int) + 1)] 93 := hA.get (A := Part.cells kp [.slice (some ⟨bN, 0, none⟩) N.length cap, .slice (some ⟨gS, 0, none⟩) xs.length caps, wv, .int .i64 s.count, .int .i64 ((s.found : Int) + 1)] 93) sZ
        refine ⟨hS0, ?_⟩
        try go_frame
        refine wpAnyH_done (by kernel_rfl) ?_ _
        try go_frame
        clear hS0
        have hB := hA.row_shut (e := 100) (size := 7) (g := bN) (n := N.length) (cap := cap) (xs := flatN (ndL N { s with on := up on x false, knot := up kn x (s.found + 1) })) sZ (by simp only [setL_length]; exact hc3) hc1 hc2 hw2'.out
        clear hA; have hA := hB; clear hB
        (try simp only [uA] at hA); have hF := hA.facts; (try simp only [fZ] at hF)
        cases dd
        · have hne : x ≠ i := by have := hdd'.out; simpa using this
          have hne' := Lib.hid hne
          clear hne
          go_wp2_with (first | ((with_reducible refine gst ?_); refine wS hA ?_; clear hF hA; intro w1 hA; (try simp only [uA] at hA); have hF := hA.facts; (try simp only [fZ] at hF)) | ((with_reducible refine gbx ?_); refine wB hA ?_; clear hF hA; intro b1 w1 hA hb1; (try simp only [uA] at hA); have hF := hA.facts; (try simp only [fZ] at hF)))
          go_roundg xs.length
          case measure => omega
          case rel =>
            have hpp : popTo (s.found + 1) i (x :: xs) on kn = popTo (s.found + 1) i xs (up on x false) (up kn x (s.found + 1)) := by rw [popTo, if_neg hne'.out]
            exact ⟨.slice (some ⟨gS, 0, none⟩) xs.length caps, xs, _, _, by omega, by omega, (List.mem_cons.1 hmem'.out).resolve_left (fun e => hne'.out e.symm), hlt'.out, by rw [← hpp]; exact hpop'.out, hA.pick pZ⟩
        · have heq : x = i := by have := hdd'.out; simpa using this
          have heq' := Lib.hid heq
          clear heq
          go_wp2_with (first | ((with_reducible refine gst ?_); refine wS hA ?_; clear hF hA; intro w1 hA; (try simp only [uA] at hA); have hF := hA.facts; (try simp only [fZ] at hF)) | ((with_reducible refine gbx ?_); refine wB hA ?_; clear hF hA; intro b1 w1 hA hb1; (try simp only [uA] at hA); have hF := hA.facts; (try simp only [fZ] at hF)))
          have hcl : Tar.close s i = { s with found := s.found + 1, stk := xs, on := up on x false, knot := up kn x (s.found + 1) } := by unfold Tar.close; rw [← hpop'.out, popTo, if_pos heq'.out]
          refine bodyPost_ret (results_none rfl _ _ _) rfl ?_
          refine ⟨.slice (some ⟨gS, 0, none⟩) xs.length caps, wv, rfl, kn_end ?_⟩
          rw [hcl]
          show At _ w [Part.cells kp [.slice (some ⟨bN, 0, none⟩) N.length cap, _, _, .int .i64 s.count, .int .i64 ((s.found + 1 : Nat) : Int)] _, _, _, rowX _ xs.reverse, rowF _ s.wk.reverse] _
          rw [show ((s.found + 1 : Nat) : Int) = (s.found : Int) + 1 from by omega]
          exact hA.pick pZ
end Go.Proofs.Ytgicohkmfbbbdaa.Gr
end
