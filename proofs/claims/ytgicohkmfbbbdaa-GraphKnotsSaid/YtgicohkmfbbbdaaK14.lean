/- GraR, joined. -/
import Derived.Test.YtgicohkmfbbbdaaK13
import Derived.Deep.LoopGhost
import Derived.Lib.MinMax
section
namespace Go.Proofs.Ytgicohkmfbbbdaa.Gr
open Go.RowKit
open Tar (TS up up_same up_other popTo)
set_option linter.unusedSimpArgs false
set_option linter.unusedVariables false
attribute [-go_sem] run_eql_struct run_neq_struct run_eqGuard_agg

theorem rowF_rev (v : Value) (x : Nat × Nat) (xs : List (Nat × Nat)) : rowF v (x :: xs).reverse = Part.row 131 2 v (xs.length + 1) (flatF (xs.reverse ++ [x])) := by
  unfold rowF
  rw [List.reverse_cons, List.length_append, List.length_reverse]
  rfl
theorem last_get {α : Type} (xs : List α) (x : α) : (xs.reverse ++ [x])[xs.length]? = some x := by simp [List.getElem?_append]
theorem last_set {α : Type} (xs : List α) (x y : α) : (xs.reverse ++ [x]).set xs.length y = xs.reverse ++ [y] := by
  rw [List.set_append_right _ _ (by simp)]
  simp
theorem elem7 {c : List Value} {l : List Nd} {q : Nat} {x : Nd} (hct : c.take (l.length * 7) = flatN l) (hx : l[q]? = some x) : (c.drop (q * 7)).take 7 = x.cells := by
  apply List.ext_getElem?
  intro j
  by_cases hj : j < 7
  · rw [List.getElem?_take, if_pos hj, List.getElem?_drop, cells_at Nd.cells_len hct hx j hj]
  · rw [List.getElem?_eq_none (by simp; omega), List.getElem?_eq_none (by rw [Nd.cells_len]; omega)]
theorem int_cell {c : List Value} {l : List Nat} {q x : Nat} (h : c.take (l.length * 1) = intL l) (hx : l[q]? = some x) : c[q]? = some (.int .i64 x) := by
  have hq := (List.getElem?_eq_some_iff.1 hx).1
  have h1 := congrArg (fun m => m[q]?) h
  simp only [Nat.mul_one] at h1
  rw [List.getElem?_take, if_pos hq] at h1
  rw [h1, intL, List.getElem?_map, hx]
  rfl
theorem low_write {c : List Value} {N : List Nd} {s : TS} (hc : c.take ((ndL N s).length * 7) = flatN (ndL N s)) {v : Nat} {d : Nd} (hd : N[v]? = some d) (x : Nat) :
    (c.set (v * 7 + 3) (.int .i64 (x : Int))).take (N.length * 7) = flatN (ndL N { s with low := up s.low v x }) := by
  have h1 := write_part Nd.cells_len hc (o := 3) (x' := (⟨d.id, d.na, d.nc, d.nx, x, s.num v, s.on v, s.knot v⟩ : Nd)) (vs := [.int .i64 (x : Int)]) (ndL_get hd s) rfl (by show 3 + 1 ≤ 7; omega)
  have h2 := ndL_set hd (s := s) (s' := { s with low := up s.low v x }) (fun j hj => ⟨up_other _ _ hj, rfl, rfl, rfl⟩)
  simp only [up_same] at h2
  rw [h2, ndL_len] at h1
  exact h1
set_option maxRecDepth 100000 in
set_option maxHeartbeats 4000000 in
theorem step_edge {w : World} {kp : Nat} {ax : Option Addr} {cap : Nat} {sv wv : Value} {N : List Nd} {s : TS} (h : Sep [KnP kp ax cap sv wv N s] w) (hi : Tar.Inv (nxF N) N.length s) (hnn : ∀ x, x < N.length → ∀ y ∈ nxF N x, y < N.length) {v a : Nat} {w' : List (Nat × Nat)} (hw : s.wk = (v, a) :: w') (hs : Sm N s) (hnx : ∀ (i : Nat) (d : Nd), N[i]? = some d → d.nx.length ≤ 1000) (hltt : a < (nxF N v).length) :
    Calls Try.prog 61 #[.pointer (some ⟨kp, 0, none⟩)] w (KnPost kp ax cap sv wv N s (Tar.step (nxF N) s) w) := by
  have hm : Try.prog.follows .mixedOrders = true := by kernel_rfl
  have hs0 := Lib.hid hs
  obtain ⟨hs1, hs2, hs3, hs4, hs5⟩ := hs
  have hsub := hi.seg.sub (v, a) (by rw [hw]; simp)
  have hvn : v < N.length := (hi.stI v hsub.1).1
  have hlow : s.low v ≤ s.count := by
    obtain ⟨y, e⟩ := hi.seg.low_num v a w' hw
    have := hi.cnt y
    omega
  have hcnt' := Lib.hid hi.cnt
  have hnn' := Lib.hid hnn
  have hi' := Lib.hid hi
  have hwl : w'.length + 1 ≤ 100000 := by rw [hw] at hs5; simp only [List.length_cons] at hs5; omega
  obtain ⟨d, hd⟩ : ∃ d, N[v]? = some d := ⟨_, List.getElem?_eq_getElem hvn⟩
  have hal : a ≤ d.nx.length := by have := hsub.2; rwa [nxF_get hd] at this
  have hxl := hnx v d hd
  clear hnx
  have hA : At _ w [kHead kp ax cap sv wv N s, kRow ax cap N s, restX N, rowX sv s.stk.reverse, rowF wv s.wk.reverse] w := kn_begin h
  rw [hw, rowF_rev] at hA
  obtain ⟨bN, c, hax, hc1, hc2, hc3, hc4, hB⟩ := hA.row_open (e := 100) (size := 7) (ax := ax) (cap := cap) (n := N.length) (xs := flatN (ndL N s)) sZ (by omega)
  subst hax
  clear hA; have hA := hB; clear hB
  obtain ⟨axw, capw, hwv, _, _, _⟩ := hA.row_form (e := 131) (size := 2) (n := w'.length + 1) (v := wv) (xs := flatF (w'.reverse ++ [(v, a)])) sZ
  subst hwv
  obtain ⟨gW, cW, hgw, hwc1, hwc2, hwc3, hwc4, hB⟩ := hA.row_open (e := 131) (size := 2) (ax := axw) (cap := capw) (n := w'.length + 1) (xs := flatF (w'.reverse ++ [(v, a)])) sZ (by omega)
  subst hgw
  clear hA; have hA := hB; clear hB
  have hwc4' : cW.take ((w'.reverse ++ [(v, a)]).length * 2) = flatF (w'.reverse ++ [(v, a)]) := by rw [List.length_append, List.length_reverse]; exact hwc4
  have hwn : cW[w'.length * 2]? = some (.int .i64 v) := cells_at frL_len hwc4' (last_get w' (v, a)) 0 (by omega)
  have hwa : cW[w'.length * 2 + 1]? = some (.int .i64 a) := cells_at frL_len hwc4' (last_get w' (v, a)) 1 (by omega)
  have hwf := write_part frL_len hwc4' (o := 1) (x' := (v, a + 1)) (vs := [.int .i64 ((a : Int) + 1)]) (last_get w' (v, a)) (by simp [frL, setL]) (by show 1 + 1 ≤ 2; omega)
  rw [last_set, List.length_append, List.length_reverse] at hwf
  have hwf' := Lib.hid hwf
  have hc4' := Lib.hid (show c.take ((ndL N s).length * 7) = flatN (ndL N s) by rw [ndL_len]; exact hc4)
  have hgv := ndL_get hd s
  have hvx : c[v * 7 + 2]? = some (.slice d.na d.nx.length d.nc) := cells_at Nd.cells_len hc4'.out hgv 2 (by omega)
  have hvl : c[v * 7 + 3]? = some (.int .i64 (s.low v)) := cells_at Nd.cells_len hc4'.out hgv 3 (by omega)
  have hvm : c[v * 7 + 4]? = some (.int .i64 (s.num v)) := cells_at Nd.cells_len hc4'.out hgv 4 (by omega)
  have hd' := Lib.hid hd
  have hw' := Lib.hid hw
  have hwx : IntKind.i64.wrap ((w'.length : Int) + 1 - 1) = w'.length := by rw [IntKind.wrap_i64] <;> omega
  have hwy : IntKind.i64.wrap (w'.length : Int) = w'.length := by rw [IntKind.wrap_i64] <;> omega
  clear hwf hc4 hgv hd hw hi hnn hs5 hwc4 hwc4' hsub h
  (try simp only [uA] at hA); have hF := hA.facts; (try simp only [fZ] at hF)
  go_enter Try.func61, Try.ntmps61
  go_wp2_with (first | ((with_reducible refine gst ?_); refine wS hA ?_; clear hF hA; intro w1 hA; (try simp only [uA] at hA); have hF := hA.facts; (try simp only [fZ] at hF)) | ((with_reducible refine gbx ?_); refine wB hA ?_; clear hF hA; intro b1 w1 hA hb1; (try simp only [uA] at hA); have hF := hA.facts; (try simp only [fZ] at hF)))
  try go_frame
  (refine wp_region_all (Cl _ _ _) (by kernel_rfl) (by kernel_rfl) (Cl.drew hA) ?_); (have hn1 := Cl.none hA); (have hn2 := Cl.none2 hA); (repeat (first | go_big_quiet_skip | (go_big_quiet_want; (first | (refine quiet_load_at rfl rfl sR (by kernel_rfl) (by first | assumption | exact rfl) ?_; go_frame; go_big_quiet_on) | (go_big_quiet_op; (first | go_big_quiet_on | ((apply Exists.intro); (refine ⟨fun w1 hw => ?_, ?_⟩); (focus ((have hw := Cl.out hw); (fail))); (go_big_quiet_on))))))))
  (refine wpQuiet_nil ?_); (intro w1 hB); (clear hF hA hn1 hn2); (have hA := Cl.out hB); (clear hB); (try simp only [uA] at hA); have hF := hA.facts; (try simp only [fZ] at hF)
  go_wp2_with (first | ((with_reducible refine gst ?_); refine wS hA ?_; clear hF hA; intro w1 hA; (try simp only [uA] at hA); have hF := hA.facts; (try simp only [fZ] at hF)) | ((with_reducible refine gbx ?_); refine wB hA ?_; clear hF hA; intro b1 w1 hA hb1; (try simp only [uA] at hA); have hF := hA.facts; (try simp only [fZ] at hF)))
  try go_frame
  (refine wp_region_all (Cl _ _ _) (by kernel_rfl) (by kernel_rfl) (Cl.drew hA) ?_); (have hn1 := Cl.none hA); (have hn2 := Cl.none2 hA); (repeat (first | go_big_quiet_skip | (go_big_quiet_want; (first | (refine quiet_load_at rfl rfl sR (by kernel_rfl) (by first | assumption | exact rfl) ?_; go_frame; go_big_quiet_on) | (go_big_quiet_op; (first | go_big_quiet_on | ((apply Exists.intro); (refine ⟨fun w1 hw => ?_, ?_⟩); (focus ((have hw := Cl.out hw); (fail))); (go_big_quiet_on))))))))
  (refine wpQuiet_nil ?_); (intro w1 hB); (clear hF hA hn1 hn2); (have hA := Cl.out hB); (clear hB); (try simp only [uA] at hA); have hF := hA.facts; (try simp only [fZ] at hF)
  go_wp2_with (first | ((with_reducible refine gst ?_); refine wS hA ?_; clear hF hA; intro w1 hA; (try simp only [uA] at hA); have hF := hA.facts; (try simp only [fZ] at hF)) | ((with_reducible refine gbx ?_); refine wB hA ?_; clear hF hA; intro b1 w1 hA hb1; (try simp only [uA] at hA); have hF := hA.facts; (try simp only [fZ] at hF)))
  try go_frame
  (refine wp_region_all (Cl _ _ _) (by kernel_rfl) (by kernel_rfl) (Cl.drew hA) ?_); (have hn1 := Cl.none hA); (have hn2 := Cl.none2 hA); (repeat (first | go_big_quiet_skip | (go_big_quiet_want; (first | (refine quiet_load_at rfl rfl sR (by kernel_rfl) (by first | assumption | exact rfl) ?_; go_frame; go_big_quiet_on) | (go_big_quiet_op; (first | go_big_quiet_on | ((apply Exists.intro); (refine ⟨fun w1 hw => ?_, ?_⟩); (focus ((have hw := Cl.out hw); (fail))); (go_big_quiet_on))))))))
  (refine wpQuiet_nil ?_); (intro w1 hB); (clear hF hA hn1 hn2); (have hA := Cl.out hB); (clear hB); (try simp only [uA] at hA); have hF := hA.facts; (try simp only [fZ] at hF)
  have hlt : a < d.nx.length := by rw [nxF_get hd'.out] at hltt; exact hltt
  obtain ⟨to, hto⟩ : ∃ t, d.nx[a]? = some t := ⟨_, List.getElem?_eq_getElem hlt⟩
  have hgto : (nxF N v)[a]? = some to := by rw [nxF_get hd'.out]; exact hto
  have hton : to < N.length := hnn'.out v hvn to (List.mem_of_getElem? hgto)
  have hgto' := Lib.hid hgto
  clear hgto
  obtain ⟨dt, hdt⟩ : ∃ d, N[to]? = some d := ⟨_, List.getElem?_eq_getElem hton⟩
  have hdt' := Lib.hid hdt
  have hgt := ndL_get hdt s
  have hrt := Lib.hid (elem7 hc4'.out hgt)
  clear hdt hgt
  have hsp := split_at hd'.out
  have hB := outX hsp hA sZ
  clear hF hA; have hA := hB; clear hB
  have hsp' := Lib.hid hsp
  clear hsp
  simp only [Nd.nv] at hA
  obtain ⟨gX, cX, hgx, hx1, hx2, hx3, hx4, hB⟩ := hA.row_open (e := 3) (size := 1) (ax := d.na) (cap := d.nc) (n := d.nx.length) (xs := intL d.nx) sZ (by omega)
  clear hA; have hA := hB; clear hB
  have hcx : cX[a]? = some (.int .i64 to) := int_cell hx4 hto
  rw [hgx] at hvx ⊢
  have hgx' := Lib.hid hgx
  clear hto hgx
  (try simp only [uA] at hA); have hF := hA.facts; (try simp only [fZ] at hF)
  go_wp2_with (first | ((with_reducible refine gst ?_); refine wS hA ?_; clear hF hA; intro w1 hA; (try simp only [uA] at hA); have hF := hA.facts; (try simp only [fZ] at hF)) | ((with_reducible refine gbx ?_); refine wB hA ?_; clear hF hA; intro b1 w1 hA hb1; (try simp only [uA] at hA); have hF := hA.facts; (try simp only [fZ] at hF)))
  try go_frame
  (refine wp_region_all (Cl _ _ _) (by kernel_rfl) (by kernel_rfl) (Cl.drew hA) ?_); (have hn1 := Cl.none hA); (have hn2 := Cl.none2 hA); (repeat (first | go_big_quiet_skip | (go_big_quiet_want; (first | (refine quiet_load_at rfl rfl sR (by kernel_rfl) (by first | assumption | exact rfl) ?_; go_frame; go_big_quiet_on) | (go_big_quiet_op; (first | go_big_quiet_on | ((apply Exists.intro); (refine ⟨fun w1 hw => ?_, ?_⟩); (focus ((have hw := Cl.out hw); (fail))); (go_big_quiet_on))))))))
  (refine wpQuiet_nil ?_); (intro w1 hB); (clear hF hA hn1 hn2); (have hA := Cl.out hB); (clear hB); (try simp only [uA] at hA); have hF := hA.facts; (try simp only [fZ] at hF)
  obtain ⟨nz, hnz⟩ : ∃ z, (s.num to == 0) = z := ⟨_, rfl⟩
  have hnz' := Lib.hid hnz
  have hni : ((s.num to : Int) == 0) = nz := by rw [← hnz, Bool.eq_iff_iff]; simp
  have hni2 : decide ((s.num to : Int) = 0) = nz := by rw [← hnz, Bool.eq_iff_iff]; simp
  have hni3 : decide (s.num to = 0) = nz := by rw [← hnz, Bool.eq_iff_iff]; simp
  clear hnz
  cases nz
  · have hnz2 := Lib.hid (show s.num to ≠ 0 from by have := hnz'.out; simpa using this)
    cases hot : s.on to
    · skip
      go_wp2_with (first | ((with_reducible refine gal ?_); refine wA 100 (.agg #[.int .i64 0, .int .i64 0, .slice none 0 0, .int .i64 0, .int .i64 0, .bool false, .int .i64 0]) [.int .i64 0, .int .i64 0, .slice none 0 0, .int .i64 0, .int .i64 0, .bool false, .int .i64 0] hA ?_; clear hF hA; intro b5 w1 hA hb5; (try simp only [uA] at hA); have hF := hA.facts; (try simp only [fZ] at hF)) | ((with_reducible show wpList _ _ _ ({ dst := none, op := Op.store _ (Operand.tmp 54) _, type := _, pos := _, after := _, guard := _ } :: _) _ _); refine wpList_store_at (b := gW) (j := w'.length * 2 + 1) (c := cW) (vs := [.int .i64 ((a : Int) + 1)]) rfl rfl rfl (by (try simp only [Act.eval, eV]) <;> exact rfl) (by exact rfl) hA sZ (by kernel_rfl) rfl (by show w'.length * 2 + 1 + 1 ≤ cW.length; omega) ?_; intro w1 hB; clear hF hA; have hA := hB; clear hB; (try simp only [uA] at hA); have hF := hA.facts; (try simp only [fZ] at hF)) | ((with_reducible show wpList _ _ _ ({ dst := some 61, op := Op.load _ _, type := _, pos := _, after := _, guard := _ } :: _) _ _); refine wpList_loadRow_at (b := bN) (j := to * 7) (vs := [.int .i64 dt.id.1, .int .i64 dt.id.2, .slice dt.na dt.nx.length dt.nc, .int .i64 (s.low to), .int .i64 (s.num to), .bool (s.on to), .int .i64 (s.knot to)]) rfl rfl (by (try simp only [Act.eval, eV]) <;> exact rfl) (cells_run hA sZ hrt.out) (by kernel_rfl) (by kernel_rfl) ?_) | ((with_reducible refine gst ?_); refine wS hA ?_; clear hF hA; intro w1 hA; (try simp only [uA] at hA); have hF := hA.facts; (try simp only [fZ] at hF)) | ((with_reducible refine gbx ?_); refine wB hA ?_; clear hF hA; intro b1 w1 hA hb1; (try simp only [uA] at hA); have hF := hA.facts; (try simp only [fZ] at hF)))
      have hB := hA.row_shut (e := 3) (size := 1) (g := gX) (n := d.nx.length) (cap := d.nc) (xs := intL d.nx) sZ hx3 hx1 hx2 hx4
      rw [← hgx'.out] at hB
      have hC := inX (d := d) hsp'.out hB sZ sZ
      clear hA hB
      have hA := hC
      clear hC
      have hB := hA.row_shut (e := 131) (size := 2) (g := gW) (c := cW.set (w'.length * 2 + 1) (.int .i64 ((a : Int) + 1))) (n := w'.length + 1) (cap := capw) (xs := flatF (w'.reverse ++ [(v, a + 1)])) sZ (by rw [List.length_set]; exact hwc3) hwc1 hwc2 hwf'.out
      rw [← rowF_rev] at hB
      clear hA; have hA := hB; clear hB
      have hB := hA.row_shut (e := 100) (size := 7) (g := bN) (c := c) (n := N.length) (cap := cap) (xs := flatN (ndL N s)) sZ hc3 hc1 hc2 (by have := hc4'.out; rwa [ndL_len] at this)
      clear hA; have hA := hB; clear hB
      have hst : Tar.step (nxF N) s = { s with wk := (v, a + 1) :: w' } := by unfold Tar.step; rw [hw'.out]; simp only [hgto'.out]; rw [if_neg hnz2.out, if_neg (by rw [hot]; simp)]
      refine bodyPost_ret (results_none rfl _ _ _) rfl ?_
      refine ⟨sv, .slice (some ⟨gW, 0, none⟩) (w'.length + 1) capw, rfl, kn_end ?_⟩
      rw [hst]
      exact hA.pick pZ
    · skip
      go_wp2_with (first | ((with_reducible refine gal ?_); refine wA 100 (.agg #[.int .i64 0, .int .i64 0, .slice none 0 0, .int .i64 0, .int .i64 0, .bool false, .int .i64 0]) [.int .i64 0, .int .i64 0, .slice none 0 0, .int .i64 0, .int .i64 0, .bool false, .int .i64 0] hA ?_; clear hF hA; intro b5 w1 hA hb5; (try simp only [uA] at hA); have hF := hA.facts; (try simp only [fZ] at hF)) | ((with_reducible show wpList _ _ _ ({ dst := none, op := Op.store _ (Operand.tmp 54) _, type := _, pos := _, after := _, guard := _ } :: _) _ _); refine wpList_store_at (b := gW) (j := w'.length * 2 + 1) (c := cW) (vs := [.int .i64 ((a : Int) + 1)]) rfl rfl rfl (by (try simp only [Act.eval, eV]) <;> exact rfl) (by exact rfl) hA sZ (by kernel_rfl) rfl (by show w'.length * 2 + 1 + 1 ≤ cW.length; omega) ?_; intro w1 hB; clear hF hA; have hA := hB; clear hB; (try simp only [uA] at hA); have hF := hA.facts; (try simp only [fZ] at hF)) | ((with_reducible show wpList _ _ _ ({ dst := some 61, op := Op.load _ _, type := _, pos := _, after := _, guard := _ } :: _) _ _); refine wpList_loadRow_at (b := bN) (j := to * 7) (vs := [.int .i64 dt.id.1, .int .i64 dt.id.2, .slice dt.na dt.nx.length dt.nc, .int .i64 (s.low to), .int .i64 (s.num to), .bool (s.on to), .int .i64 (s.knot to)]) rfl rfl (by (try simp only [Act.eval, eV]) <;> exact rfl) (cells_run hA sZ hrt.out) (by kernel_rfl) (by kernel_rfl) ?_) | ((with_reducible refine gst ?_); refine wS hA ?_; clear hF hA; intro w1 hA; (try simp only [uA] at hA); have hF := hA.facts; (try simp only [fZ] at hF)) | ((with_reducible refine gbx ?_); refine wB hA ?_; clear hF hA; intro b1 w1 hA hb1; (try simp only [uA] at hA); have hF := hA.facts; (try simp only [fZ] at hF)))
      try go_frame
      have hB := hA.drew
      clear hF hA; have hA := hB; clear hB
      refine wp_region_held (S := fun w' => BlockIs w' b5 [.int .i64 dt.id.1, .int .i64 dt.id.2, .slice dt.na dt.nx.length dt.nc, .int .i64 (s.low to), .int .i64 (s.num to), .bool (s.on to), .int .i64 (s.knot to)] 100) hm ?_
      change wpAnyH _ _ _ _ _ 11 _ _ (World.drew _)
      generalize World.drew _ = w2 at *
      have hS0 : (fun w' => BlockIs w' b5 [.int .i64 dt.id.1, .int .i64 dt.id.2, .slice dt.na dt.nx.length dt.nc, .int .i64 (s.low to), .int .i64 (s.num to), .bool (s.on to), .int .i64 (s.knot to)] 100) w2 := hA.get (A := Part.cells b5 [.int .i64 dt.id.1, .int .i64 dt.id.2, .slice dt.na dt.nx.length dt.nc, .int .i64 (s.low to), .int .i64 (s.num to), .bool (s.on to), .int .i64 (s.knot to)] 100) sZ
      refine tP 0 72 (.pointer (some ⟨bN, v * 7, none⟩)) (s := hS0) (h := ?_)
      go_frame
      refine tP 1 73 (.pointer (some ⟨bN, v * 7, none⟩)) (s := hS0) (h := ?_)
      go_frame
      refine tP 2 74 (.pointer (some ⟨bN, v * 7, none⟩)) (s := hS0) (h := ?_)
      go_frame
      refine tP 3 75 (.pointer (some ⟨bN, v * 7 + 3, none⟩)) (s := hS0) (h := ?_)
      go_frame
      refine tP 5 77 (.pointer (some ⟨b5, 4, none⟩)) (s := hS0) (h := ?_)
      go_frame
      refine tZ 6 78 (.int .i64 (s.num to)) (r := (fun w' hS => run_load_one (ty := 3) (b := b5) (j := 4) rfl (by exact rfl) hS (by kernel_rfl) rfl)) (s := hS0) (h := ?_)
      go_frame
      refine wpAnyH_one (i := 4) (by kernel_rfl) ?_
      refine opLoad1_at (i := 4) (d := some 76) (b := bN) (j := v * 7 + 3) rfl rfl (by kernel_rfl) rfl (by exact rfl) hA sZ (by kernel_rfl) hvl ?_
      refine ⟨hS0, ?_⟩
      try go_frame
      refine tZ 7 79 (.int .i64 (min (s.low v : Int) (s.num to : Int))) (r := (fun w' hS => by simp [execOp, go_sem, Act.eval, Act.put])) (s := hS0) (h := ?_)
      go_frame
      refine tP 8 80 (.pointer (some ⟨bN, v * 7, none⟩)) (s := hS0) (h := ?_)
      go_frame
      refine tP 9 81 (.pointer (some ⟨bN, v * 7 + 3, none⟩)) (s := hS0) (h := ?_)
      go_frame
      refine wpAnyH_one (i := 10) (by kernel_rfl) ?_
      refine opStore_at (b := bN) (j := v * 7 + 3) (vs := [.int .i64 (min (s.low v : Int) (s.num to : Int))]) rfl rfl (by kernel_rfl) rfl (by exact rfl) (by exact rfl) rfl hA sZ (by kernel_rfl) rfl (by show v * 7 + 3 + 1 ≤ c.length; omega) ?_
      intro w3 hB
      clear hA hS0; have hA := hB; clear hB
      have hS0 : BlockIs w3 b5 [.int .i64 dt.id.1, .int .i64 dt.id.2, .slice dt.na dt.nx.length dt.nc, .int .i64 (s.low to), .int .i64 (s.num to), .bool (s.on to), .int .i64 (s.knot to)] 100 := hA.get (A := Part.cells b5 [.int .i64 dt.id.1, .int .i64 dt.id.2, .slice dt.na dt.nx.length dt.nc, .int .i64 (s.low to), .int .i64 (s.num to), .bool (s.on to), .int .i64 (s.knot to)] 100) sZ
      refine ⟨hS0, ?_⟩
      try go_frame
      refine wpAnyH_done (by kernel_rfl) ?_ _
      try go_frame
      clear hS0
      (try simp only [uA] at hA)
      (try simp only [uA] at hA); have hF := hA.facts; (try simp only [fZ] at hF)
      go_wp2_with (first | ((with_reducible refine gst ?_); refine wS hA ?_; clear hF hA; intro w1 hA; (try simp only [uA] at hA); have hF := hA.facts; (try simp only [fZ] at hF)) | ((with_reducible refine gbx ?_); refine wB hA ?_; clear hF hA; intro b1 w1 hA hb1; (try simp only [uA] at hA); have hF := hA.facts; (try simp only [fZ] at hF)))
      have hwl2 := low_write hc4'.out hd'.out (min (s.low v) (s.num to))
      rw [show ((min (s.low v) (s.num to) : Nat) : Int) = min (s.low v : Int) (s.num to : Int) from by omega] at hwl2
      have hwl3 := Lib.hid hwl2
      clear hwl2
      have hB := hA.row_shut (e := 3) (size := 1) (g := gX) (n := d.nx.length) (cap := d.nc) (xs := intL d.nx) sZ hx3 hx1 hx2 hx4
      rw [← hgx'.out] at hB
      have hC := inX (d := d) hsp'.out hB sZ sZ
      clear hA hB
      have hA := hC
      clear hC
      have hB := hA.row_shut (e := 131) (size := 2) (g := gW) (c := cW.set (w'.length * 2 + 1) (.int .i64 ((a : Int) + 1))) (n := w'.length + 1) (cap := capw) (xs := flatF (w'.reverse ++ [(v, a + 1)])) sZ (by rw [List.length_set]; exact hwc3) hwc1 hwc2 hwf'.out
      rw [← rowF_rev] at hB
      clear hA; have hA := hB; clear hB
      have hB := hA.row_shut (e := 100) (size := 7) (g := bN) (c := c.set (v * 7 + 3) (.int .i64 (min (s.low v : Int) (s.num to : Int)))) (n := N.length) (cap := cap) (xs := flatN (ndL N { s with low := up s.low v (min (s.low v) (s.num to)) })) sZ (by simp only [List.length_set, setL_length]; exact hc3) hc1 hc2 hwl3.out
      clear hA; have hA := hB; clear hB
      have hst : Tar.step (nxF N) s = { s with wk := (v, a + 1) :: w', low := up s.low v (min (s.low v) (s.num to)) } := by unfold Tar.step; rw [hw'.out]; simp only [hgto'.out]; rw [if_neg hnz2.out, if_pos hot]
      refine bodyPost_ret (results_none rfl _ _ _) rfl ?_
      refine ⟨sv, .slice (some ⟨gW, 0, none⟩) (w'.length + 1) capw, rfl, kn_end ?_⟩
      rw [hst]
      exact hA.pick pZ
  · have hz0 := Lib.hid (show s.num to = 0 from by have := hnz'.out; simpa using this)
    go_wp2_with (first | ((with_reducible refine gal ?_); refine wA 100 (.agg #[.int .i64 0, .int .i64 0, .slice none 0 0, .int .i64 0, .int .i64 0, .bool false, .int .i64 0]) [.int .i64 0, .int .i64 0, .slice none 0 0, .int .i64 0, .int .i64 0, .bool false, .int .i64 0] hA ?_; clear hF hA; intro b5 w1 hA hb5; (try simp only [uA] at hA); have hF := hA.facts; (try simp only [fZ] at hF)) | ((with_reducible show wpList _ _ _ ({ dst := none, op := Op.store _ (Operand.tmp 54) _, type := _, pos := _, after := _, guard := _ } :: _) _ _); refine wpList_store_at (b := gW) (j := w'.length * 2 + 1) (c := cW) (vs := [.int .i64 ((a : Int) + 1)]) rfl rfl rfl (by (try simp only [Act.eval, eV]) <;> exact rfl) (by exact rfl) hA sZ (by kernel_rfl) rfl (by show w'.length * 2 + 1 + 1 ≤ cW.length; omega) ?_; intro w1 hB; clear hF hA; have hA := hB; clear hB; (try simp only [uA] at hA); have hF := hA.facts; (try simp only [fZ] at hF)) | ((with_reducible show wpList _ _ _ ({ dst := some 61, op := Op.load _ _, type := _, pos := _, after := _, guard := _ } :: _) _ _); refine wpList_loadRow_at (b := bN) (j := to * 7) (vs := [.int .i64 dt.id.1, .int .i64 dt.id.2, .slice dt.na dt.nx.length dt.nc, .int .i64 (s.low to), .int .i64 (s.num to), .bool (s.on to), .int .i64 (s.knot to)]) rfl rfl (by (try simp only [Act.eval, eV]) <;> exact rfl) (cells_run hA sZ hrt.out) (by kernel_rfl) (by kernel_rfl) ?_) | ((with_reducible refine gst ?_); refine wS hA ?_; clear hF hA; intro w1 hA; (try simp only [uA] at hA); have hF := hA.facts; (try simp only [fZ] at hF)) | ((with_reducible refine gbx ?_); refine wB hA ?_; clear hF hA; intro b1 w1 hA hb1; (try simp only [uA] at hA); have hF := hA.facts; (try simp only [fZ] at hF)))
    have hB := hA.row_shut (e := 3) (size := 1) (g := gX) (n := d.nx.length) (cap := d.nc) (xs := intL d.nx) sZ hx3 hx1 hx2 hx4
    rw [← hgx'.out] at hB
    have hC := inX (d := d) hsp'.out hB sZ sZ
    clear hA hB
    have hA := hC
    clear hC
    have hB := hA.row_shut (e := 131) (size := 2) (g := gW) (c := cW.set (w'.length * 2 + 1) (.int .i64 ((a : Int) + 1))) (n := w'.length + 1) (cap := capw) (xs := flatF (w'.reverse ++ [(v, a + 1)])) sZ (by rw [List.length_set]; exact hwc3) hwc1 hwc2 hwf'.out
    rw [← rowF_rev] at hB
    clear hA; have hA := hB; clear hB
    have hB := hA.row_shut (e := 100) (size := 7) (g := bN) (c := c) (n := N.length) (cap := cap) (xs := flatN (ndL N s)) sZ hc3 hc1 hc2 (by have := hc4'.out; rwa [ndL_len] at this)
    clear hA; have hA := hB; clear hB
    have hK : At [KnP kp (some ⟨bN, 0, none⟩) cap sv (.slice (some ⟨gW, 0, none⟩) (w'.length + 1) capw) N s] w [KnP kp (some ⟨bN, 0, none⟩) cap sv (.slice (some ⟨gW, 0, none⟩) (w'.length + 1) capw) N { s with wk := (v, a + 1) :: w' }] _ := kn_end (hA.pick pZ)
    clear hF hA
    have hA := hK
    clear hK
    have hsm : Sm N { s with wk := (v, a + 1) :: w' } := ⟨hs1, hs2, hs3, hs4, by show (w'.length + 1) ≤ 100000; omega⟩
    refine (enter_any hA.sep hdt'.out hsm).mono ?_
    rintro e w5 ⟨sv5, wv5, rfl, hT⟩
    have hB := hA.call1 .here hT
    clear hA hT; have hA := hB; clear hB
    simp only [List.cons_append, List.nil_append] at hA
    go_wp2_with (first | ((with_reducible refine gst ?_); refine wS hA ?_; clear hF hA; intro w1 hA; (try simp only [uA] at hA); have hF := hA.facts; (try simp only [fZ] at hF)) | ((with_reducible refine gbx ?_); refine wB hA ?_; clear hF hA; intro b1 w1 hA hb1; (try simp only [uA] at hA); have hF := hA.facts; (try simp only [fZ] at hF)))
    have hst : Tar.step (nxF N) s = Tar.enter { s with wk := (v, a + 1) :: w' } to := by unfold Tar.step; rw [hw'.out]; simp only [hgto'.out]; rw [if_pos hz0.out]
    refine bodyPost_ret (results_none rfl _ _ _) rfl ?_
    refine ⟨sv5, wv5, rfl, ?_⟩
    rw [hst]
    exact hA
theorem rowF_len (v : Value) (l : List (Nat × Nat)) : Part.row 131 2 v l.length (flatF l.reverse) = rowF v l.reverse := by
  unfold rowF
  rw [List.length_reverse]
theorem rest_f {c : List Value} {xs : List (Nat × Nat)} {x : Nat × Nat} (h : c.take ((xs.reverse ++ [x]).length * 2) = flatF (xs.reverse ++ [x])) : c.take (xs.length * 2) = flatF xs.reverse := by
  have h1 := congrArg (fun l => l.take (xs.length * 2)) h
  simp only [List.take_take] at h1
  rw [Nat.min_eq_left (by simp; omega)] at h1
  rw [h1]
  unfold flatF
  rw [List.flatMap_append, List.take_append_of_le_length (by rw [flat_len _ _ frL_len]; simp), List.take_of_length_le (by rw [flat_len _ _ frL_len]; simp)]
theorem prev_cell {c : List Value} {xs : List (Nat × Nat)} {p x : Nat × Nat} (h : c.take (((p :: xs).reverse ++ [x]).length * 2) = flatF ((p :: xs).reverse ++ [x])) : c[xs.length * 2]? = some (.int .i64 p.1) :=
  cells_at frL_len h (k := xs.length) (x := p) (by simp [List.getElem?_append]) 0 (by omega)
theorem top_ne {nx : Nat → List Nat} {n : Nat} {s : TS} (hi : Tar.Inv nx n s) {v a u b : Nat} {w : List (Nat × Nat)} (hw : s.wk = (v, a) :: (u, b) :: w) : u ≠ v := by
  have hsg := hi.seg
  have hso := hi.sorted
  rw [hw] at hsg
  generalize s.stk = st at hsg hso
  cases hsg with
  | @cons B v a rest w h hB ha hbl hgr hlo hli =>
  have h1 := List.pairwise_append.1 hso
  have h2 := List.pairwise_cons.1 h1.2.1
  intro e
  subst e
  exact Nat.lt_irrefl _ (h2.1 u (h.top u b _ rfl).1)
set_option maxRecDepth 100000 in
set_option maxHeartbeats 4000000 in
theorem step_nil {w : World} {kp : Nat} {ax : Option Addr} {cap : Nat} {sv wv : Value} {N : List Nd} {s : TS} (h : Sep [KnP kp ax cap sv wv N s] w) (hi : Tar.Inv (nxF N) N.length s) (hnn : ∀ x, x < N.length → ∀ y ∈ nxF N x, y < N.length) {v a : Nat} (hw : s.wk = [(v, a)]) (hs : Sm N s) (hnx : ∀ (i : Nat) (d : Nd), N[i]? = some d → d.nx.length ≤ 1000) (hltt : (nxF N v).length ≤ a) :
    Calls Try.prog 61 #[.pointer (some ⟨kp, 0, none⟩)] w (KnPost kp ax cap sv wv N s (Tar.step (nxF N) s) w) := by
  have hm : Try.prog.follows .mixedOrders = true := by kernel_rfl
  have hs0 := Lib.hid hs
  obtain ⟨hs1, hs2, hs3, hs4, hs5⟩ := hs
  have hsub := hi.seg.sub (v, a) (by rw [hw]; simp)
  have hvn : v < N.length := (hi.stI v hsub.1).1
  have hlow : s.low v ≤ s.count := by
    obtain ⟨y, e⟩ := hi.seg.low_num v a ([] : List (Nat × Nat)) hw
    have := hi.cnt y
    omega
  have hcnt' := Lib.hid hi.cnt
  have hnn' := Lib.hid hnn
  have hi' := Lib.hid hi
  have hwl : 0 + 1 ≤ 100000 := by rw [hw] at hs5; simp only [List.length_cons] at hs5; omega
  obtain ⟨d, hd⟩ : ∃ d, N[v]? = some d := ⟨_, List.getElem?_eq_getElem hvn⟩
  have hal : a ≤ d.nx.length := by have := hsub.2; rwa [nxF_get hd] at this
  have hxl := hnx v d hd
  clear hnx
  have hA : At _ w [kHead kp ax cap sv wv N s, kRow ax cap N s, restX N, rowX sv s.stk.reverse, rowF wv s.wk.reverse] w := kn_begin h
  rw [hw, rowF_rev] at hA
  simp only [List.length_cons, List.length_nil] at hA
  obtain ⟨bN, c, hax, hc1, hc2, hc3, hc4, hB⟩ := hA.row_open (e := 100) (size := 7) (ax := ax) (cap := cap) (n := N.length) (xs := flatN (ndL N s)) sZ (by omega)
  subst hax
  clear hA; have hA := hB; clear hB
  obtain ⟨axw, capw, hwv, _, _, _⟩ := hA.row_form (e := 131) (size := 2) (n := 0 + 1) (v := wv) (xs := flatF (([] : List (Nat × Nat)).reverse ++ [(v, a)])) sZ
  subst hwv
  obtain ⟨gW, cW, hgw, hwc1, hwc2, hwc3, hwc4, hB⟩ := hA.row_open (e := 131) (size := 2) (ax := axw) (cap := capw) (n := 0 + 1) (xs := flatF (([] : List (Nat × Nat)).reverse ++ [(v, a)])) sZ (by omega)
  subst hgw
  clear hA; have hA := hB; clear hB
  have hwc4' : cW.take ((([] : List (Nat × Nat)).reverse ++ [(v, a)]).length * 2) = flatF (([] : List (Nat × Nat)).reverse ++ [(v, a)]) := by rw [List.length_append, List.length_reverse]; exact hwc4
  have hwn : cW[0 * 2]? = some (.int .i64 v) := cells_at frL_len hwc4' (last_get ([] : List (Nat × Nat)) (v, a)) 0 (by omega)
  have hwa : cW[0 * 2 + 1]? = some (.int .i64 a) := cells_at frL_len hwc4' (last_get ([] : List (Nat × Nat)) (v, a)) 1 (by omega)
  have hc4' := Lib.hid (show c.take ((ndL N s).length * 7) = flatN (ndL N s) by rw [ndL_len]; exact hc4)
  have hgv := ndL_get hd s
  have hvx : c[v * 7 + 2]? = some (.slice d.na d.nx.length d.nc) := cells_at Nd.cells_len hc4'.out hgv 2 (by omega)
  have hvl : c[v * 7 + 3]? = some (.int .i64 (s.low v)) := cells_at Nd.cells_len hc4'.out hgv 3 (by omega)
  have hvm : c[v * 7 + 4]? = some (.int .i64 (s.num v)) := cells_at Nd.cells_len hc4'.out hgv 4 (by omega)
  have hd' := Lib.hid hd
  have hw' := Lib.hid hw
  have hwx : IntKind.i64.wrap ((0 : Int) + 1 - 1) = 0 := by rw [IntKind.wrap_i64] <;> omega
  have hwy : IntKind.i64.wrap (0 : Int) = 0 := by rw [IntKind.wrap_i64] <;> omega
  have hmemS := hsub.1
  have hltS := Lib.hid (fun y (hy : y ∈ s.stk) => (hi.stI y hy).1)
  have hrst := Lib.hid (rest_f hwc4')
  clear hc4 hgv hd hw hi hnn hs5 hwc4 hwc4' hsub h
  have hal2 : a = d.nx.length := by rw [nxF_get hd'.out] at hltt; omega
  have hgn := Lib.hid (show (nxF N v)[a]? = none from List.getElem?_eq_none_iff.2 hltt)
  clear hltt
  (try simp only [uA] at hA); have hF := hA.facts; (try simp only [fZ] at hF)
  go_enter Try.func61, Try.ntmps61
  go_wp2_with (first | ((with_reducible refine gst ?_); refine wS hA ?_; clear hF hA; intro w1 hA; (try simp only [uA] at hA); have hF := hA.facts; (try simp only [fZ] at hF)) | ((with_reducible refine gbx ?_); refine wB hA ?_; clear hF hA; intro b1 w1 hA hb1; (try simp only [uA] at hA); have hF := hA.facts; (try simp only [fZ] at hF)))
  try go_frame
  (refine wp_region_all (Cl _ _ _) (by kernel_rfl) (by kernel_rfl) (Cl.drew hA) ?_); (have hn1 := Cl.none hA); (have hn2 := Cl.none2 hA); (repeat (first | go_big_quiet_skip | (go_big_quiet_want; (first | (refine quiet_load_at rfl rfl sR (by kernel_rfl) (by first | assumption | exact rfl) ?_; go_frame; go_big_quiet_on) | (go_big_quiet_op; (first | go_big_quiet_on | ((apply Exists.intro); (refine ⟨fun w1 hw => ?_, ?_⟩); (focus ((have hw := Cl.out hw); (fail))); (go_big_quiet_on))))))))
  (refine wpQuiet_nil ?_); (intro w1 hB); (clear hF hA hn1 hn2); (have hA := Cl.out hB); (clear hB); (try simp only [uA] at hA); have hF := hA.facts; (try simp only [fZ] at hF)
  go_wp2_with (first | ((with_reducible refine gst ?_); refine wS hA ?_; clear hF hA; intro w1 hA; (try simp only [uA] at hA); have hF := hA.facts; (try simp only [fZ] at hF)) | ((with_reducible refine gbx ?_); refine wB hA ?_; clear hF hA; intro b1 w1 hA hb1; (try simp only [uA] at hA); have hF := hA.facts; (try simp only [fZ] at hF)))
  try go_frame
  (refine wp_region_all (Cl _ _ _) (by kernel_rfl) (by kernel_rfl) (Cl.drew hA) ?_); (have hn1 := Cl.none hA); (have hn2 := Cl.none2 hA); (repeat (first | go_big_quiet_skip | (go_big_quiet_want; (first | (refine quiet_load_at rfl rfl sR (by kernel_rfl) (by first | assumption | exact rfl) ?_; go_frame; go_big_quiet_on) | (go_big_quiet_op; (first | go_big_quiet_on | ((apply Exists.intro); (refine ⟨fun w1 hw => ?_, ?_⟩); (focus ((have hw := Cl.out hw); (fail))); (go_big_quiet_on))))))))
  (refine wpQuiet_nil ?_); (intro w1 hB); (clear hF hA hn1 hn2); (have hA := Cl.out hB); (clear hB); (try simp only [uA] at hA); have hF := hA.facts; (try simp only [fZ] at hF)
  go_wp2_with (first | ((with_reducible refine gst ?_); refine wS hA ?_; clear hF hA; intro w1 hA; (try simp only [uA] at hA); have hF := hA.facts; (try simp only [fZ] at hF)) | ((with_reducible refine gbx ?_); refine wB hA ?_; clear hF hA; intro b1 w1 hA hb1; (try simp only [uA] at hA); have hF := hA.facts; (try simp only [fZ] at hF)))
  try go_frame
  (refine wp_region_all (Cl _ _ _) (by kernel_rfl) (by kernel_rfl) (Cl.drew hA) ?_); (have hn1 := Cl.none hA); (have hn2 := Cl.none2 hA); (repeat (first | go_big_quiet_skip | (go_big_quiet_want; (first | (refine quiet_load_at rfl rfl sR (by kernel_rfl) (by first | assumption | exact rfl) ?_; go_frame; go_big_quiet_on) | (go_big_quiet_op; (first | go_big_quiet_on | ((apply Exists.intro); (refine ⟨fun w1 hw => ?_, ?_⟩); (focus ((have hw := Cl.out hw); (fail))); (go_big_quiet_on))))))))
  (refine wpQuiet_nil ?_); (intro w1 hB); (clear hF hA hn1 hn2); (have hA := Cl.out hB); (clear hB); (try simp only [uA] at hA); have hF := hA.facts; (try simp only [fZ] at hF)
  go_wp2_with (first | ((with_reducible refine gst ?_); refine wS hA ?_; clear hF hA; intro w1 hA; (try simp only [uA] at hA); have hF := hA.facts; (try simp only [fZ] at hF)) | ((with_reducible refine gbx ?_); refine wB hA ?_; clear hF hA; intro b1 w1 hA hb1; (try simp only [uA] at hA); have hF := hA.facts; (try simp only [fZ] at hF)))
  try go_frame
  have hB := hA.drew
  clear hF hA; have hA := hB; clear hB
  refine wp_region_held (S := fun _ => True) hm ?_
  change wpAnyH _ _ _ _ _ 15 _ _ (World.drew _)
  generalize World.drew _ = wd at *
  refine tP 0 86 (.pointer (some ⟨kp, 0, none⟩)) (s := trivial) (h := ?_)
  go_frame
  refine tP 1 87 (.pointer (some ⟨kp, 0, none⟩)) (s := trivial) (h := ?_)
  go_frame
  refine tP 2 88 (.pointer (some ⟨kp, 0, none⟩)) (s := trivial) (h := ?_)
  go_frame
  refine tP 3 89 (.pointer (some ⟨kp, 2, none⟩)) (s := trivial) (h := ?_)
  go_frame
  refine tP 5 91 (.pointer (some ⟨kp, 0, none⟩)) (s := trivial) (h := ?_)
  go_frame
  refine tP 6 92 (.pointer (some ⟨kp, 0, none⟩)) (s := trivial) (h := ?_)
  go_frame
  refine tP 7 93 (.pointer (some ⟨kp, 2, none⟩)) (s := trivial) (h := ?_)
  go_frame
  refine wpAnyH_two (i := 4) (j := 8) (by kernel_rfl) ?_ ?_
  · skip
    refine opLoad1_at (i := 4) (d := some 90) (b := kp) (j := 2) rfl rfl (by kernel_rfl) rfl (by exact rfl) hA sZ (by kernel_rfl) rfl ?_
    refine ⟨trivial, ?_⟩
    try go_frame
    refine wpAnyH_one (i := 8) (by kernel_rfl) ?_
    refine opLoad1_at (i := 8) (d := some 94) (b := kp) (j := 2) rfl rfl (by kernel_rfl) rfl (by exact rfl) hA sZ (by kernel_rfl) rfl ?_
    refine ⟨trivial, ?_⟩
    try go_frame
    refine tP 9 95 (.int .i64 1) (s := trivial) (h := ?_)
    go_frame
    refine tP 10 96 (.int .i64 0) (s := trivial) (h := ?_)
    go_frame
    refine tZ 11 97 (.slice (some ⟨gW, 0, none⟩) 0 capw) (r := (fun w' hS => by first | (simp [execOp, go_sem, Act.eval, Act.put]; done) | (simp [execOp, go_sem, Act.eval, Act.put]; omega))) (s := trivial) (h := ?_)
    go_frame
    refine tP 12 98 (.pointer (some ⟨kp, 0, none⟩)) (s := trivial) (h := ?_)
    go_frame
    refine tP 13 99 (.pointer (some ⟨kp, 2, none⟩)) (s := trivial) (h := ?_)
    go_frame
    refine wpAnyH_one (i := 14) (by kernel_rfl) ?_
    refine opStore_at (b := kp) (j := 2) (vs := [.slice (some ⟨gW, 0, none⟩) 0 capw]) rfl rfl (by kernel_rfl) rfl (by exact rfl) (by exact rfl) rfl hA sZ (by kernel_rfl) rfl (by show 2 + 1 ≤ 5; omega) ?_
    intro w3 hB
    clear hA; have hA := hB; clear hB
    refine ⟨trivial, ?_⟩
    try go_frame
    refine wpAnyH_done (by kernel_rfl) ?_ _
    try go_frame
    (try simp only [uA] at hA)
    (try simp only [uA] at hA); have hF := hA.facts; (try simp only [fZ] at hF)
    go_wp2_with (first | ((with_reducible refine gst ?_); refine wS hA ?_; clear hF hA; intro w1 hA; (try simp only [uA] at hA); have hF := hA.facts; (try simp only [fZ] at hF)) | ((with_reducible refine gbx ?_); refine wB hA ?_; clear hF hA; intro b1 w1 hA hb1; (try simp only [uA] at hA); have hF := hA.facts; (try simp only [fZ] at hF)))
    try go_frame
    (refine wp_region_all (Cl _ _ _) (by kernel_rfl) (by kernel_rfl) (Cl.drew hA) ?_); (have hn1 := Cl.none hA); (have hn2 := Cl.none2 hA); (repeat (first | go_big_quiet_skip | (go_big_quiet_want; (first | (refine quiet_load_at rfl rfl sR (by kernel_rfl) (by first | assumption | exact rfl) ?_; go_frame; go_big_quiet_on) | (go_big_quiet_op; (first | go_big_quiet_on | ((apply Exists.intro); (refine ⟨fun w1 hw => ?_, ?_⟩); (focus ((have hw := Cl.out hw); (fail))); (go_big_quiet_on))))))))
    (refine wpQuiet_nil ?_); (intro w1 hB); (clear hF hA hn1 hn2); (have hA := Cl.out hB); (clear hB); (try simp only [uA] at hA); have hF := hA.facts; (try simp only [fZ] at hF)
    have hB := hA.row_shut (e := 131) (size := 2) (g := gW) (c := cW) (n := 0) (cap := capw) (xs := flatF ([] : List (Nat × Nat)).reverse) sZ hwc3 (by omega) hwc2 hrst.out
    clear hA; have hA := hB; clear hB
    have hB := hA.row_shut (e := 100) (size := 7) (g := bN) (c := c) (n := N.length) (cap := cap) (xs := flatN (ndL N { s with wk := ([] : List (Nat × Nat)) })) sZ (by exact hc3) hc1 hc2 (by have := hc4'.out; rw [ndL_len] at this; exact this)
    clear hA; have hA := hB; clear hB
    have hK : At [KnP kp (some ⟨bN, 0, none⟩) cap sv (.slice (some ⟨gW, 0, none⟩) 1 capw) N s] w [KnP kp (some ⟨bN, 0, none⟩) cap sv (.slice (some ⟨gW, 0, none⟩) 0 capw) N { s with wk := ([] : List (Nat × Nat)) }] _ := kn_end (by have hC := hA; exact hC.pick pZ)
    clear hF hA
    have hA := hK
    clear hK
    have hst : Tar.step (nxF N) s = if (Tar.leave s v ([] : List (Nat × Nat))).low v = s.num v then Tar.close (Tar.leave s v ([] : List (Nat × Nat))) v else Tar.leave s v ([] : List (Nat × Nat)) := by unfold Tar.step; rw [hw'.out]; simp only [hgn.out]
    have hlv : (Tar.leave s v ([] : List (Nat × Nat))).low v = s.low v := rfl
    rw [hlv] at hst
    have hst' := Lib.hid hst
    clear hst hlv
    by_cases heq : s.low v = s.num v
    · have heq' := Lib.hid heq
      have hde : decide ((s.low v : Int) = (s.num v : Int)) = true := by simp; omega
      have hde2 : ((s.low v : Int) == (s.num v : Int)) = true := by simp; omega
      clear heq
      go_wp2_with (first | ((with_reducible refine gst ?_); refine wS hA ?_; clear hF hA; intro w1 hA; (try simp only [uA] at hA); have hF := hA.facts; (try simp only [fZ] at hF)) | ((with_reducible refine gbx ?_); refine wB hA ?_; clear hF hA; intro b1 w1 hA hb1; (try simp only [uA] at hA); have hF := hA.facts; (try simp only [fZ] at hF)))
      have hsm : Sm N { s with wk := ([] : List (Nat × Nat)) } := ⟨hs1, hs2, hs3, hs4, by show 0 ≤ 100000; omega⟩
      refine (close_any hA.sep hmemS hltS.out hsm).mono ?_
      rintro e w5 ⟨sv5, wv5, rfl, hT⟩
      have hB := hA.call1 .here hT
      clear hA hT; have hA := hB; clear hB
      simp only [List.cons_append, List.nil_append] at hA
      go_wp2_with (first | ((with_reducible refine gst ?_); refine wS hA ?_; clear hF hA; intro w1 hA; (try simp only [uA] at hA); have hF := hA.facts; (try simp only [fZ] at hF)) | ((with_reducible refine gbx ?_); refine wB hA ?_; clear hF hA; intro b1 w1 hA hb1; (try simp only [uA] at hA); have hF := hA.facts; (try simp only [fZ] at hF)))
      go_end0
      refine ⟨sv5, wv5, rfl, ?_⟩
      rw [hst'.out, if_pos heq'.out]
      exact hA
    · have heq' := Lib.hid heq
      have hde : decide ((s.low v : Int) = (s.num v : Int)) = false := by simp; omega
      have hde2 : ((s.low v : Int) == (s.num v : Int)) = false := by simp; omega
      clear heq
      go_wp2_with (first | ((with_reducible refine gst ?_); refine wS hA ?_; clear hF hA; intro w1 hA; (try simp only [uA] at hA); have hF := hA.facts; (try simp only [fZ] at hF)) | ((with_reducible refine gbx ?_); refine wB hA ?_; clear hF hA; intro b1 w1 hA hb1; (try simp only [uA] at hA); have hF := hA.facts; (try simp only [fZ] at hF)))
      go_end0
      refine ⟨sv, .slice (some ⟨gW, 0, none⟩) 0 capw, rfl, ?_⟩
      rw [hst'.out, if_neg heq'.out]
      exact hA
  · skip
    refine opLoad1_at (i := 8) (d := some 94) (b := kp) (j := 2) rfl rfl (by kernel_rfl) rfl (by exact rfl) hA sZ (by kernel_rfl) rfl ?_
    refine ⟨trivial, ?_⟩
    try go_frame
    refine tP 9 95 (.int .i64 1) (s := trivial) (h := ?_)
    go_frame
    refine tP 10 96 (.int .i64 0) (s := trivial) (h := ?_)
    go_frame
    refine wpAnyH_one (i := 4) (by kernel_rfl) ?_
    refine opLoad1_at (i := 4) (d := some 90) (b := kp) (j := 2) rfl rfl (by kernel_rfl) rfl (by exact rfl) hA sZ (by kernel_rfl) rfl ?_
    refine ⟨trivial, ?_⟩
    try go_frame
    refine tZ 11 97 (.slice (some ⟨gW, 0, none⟩) 0 capw) (r := (fun w' hS => by first | (simp [execOp, go_sem, Act.eval, Act.put]; done) | (simp [execOp, go_sem, Act.eval, Act.put]; omega))) (s := trivial) (h := ?_)
    go_frame
    refine tP 12 98 (.pointer (some ⟨kp, 0, none⟩)) (s := trivial) (h := ?_)
    go_frame
    refine tP 13 99 (.pointer (some ⟨kp, 2, none⟩)) (s := trivial) (h := ?_)
    go_frame
    refine wpAnyH_one (i := 14) (by kernel_rfl) ?_
    refine opStore_at (b := kp) (j := 2) (vs := [.slice (some ⟨gW, 0, none⟩) 0 capw]) rfl rfl (by kernel_rfl) rfl (by exact rfl) (by exact rfl) rfl hA sZ (by kernel_rfl) rfl (by show 2 + 1 ≤ 5; omega) ?_
    intro w3 hB
    clear hA; have hA := hB; clear hB
    refine ⟨trivial, ?_⟩
    try go_frame
    refine wpAnyH_done (by kernel_rfl) ?_ _
    try go_frame
    (try simp only [uA] at hA)
    (try simp only [uA] at hA); have hF := hA.facts; (try simp only [fZ] at hF)
    go_wp2_with (first | ((with_reducible refine gst ?_); refine wS hA ?_; clear hF hA; intro w1 hA; (try simp only [uA] at hA); have hF := hA.facts; (try simp only [fZ] at hF)) | ((with_reducible refine gbx ?_); refine wB hA ?_; clear hF hA; intro b1 w1 hA hb1; (try simp only [uA] at hA); have hF := hA.facts; (try simp only [fZ] at hF)))
    try go_frame
    (refine wp_region_all (Cl _ _ _) (by kernel_rfl) (by kernel_rfl) (Cl.drew hA) ?_); (have hn1 := Cl.none hA); (have hn2 := Cl.none2 hA); (repeat (first | go_big_quiet_skip | (go_big_quiet_want; (first | (refine quiet_load_at rfl rfl sR (by kernel_rfl) (by first | assumption | exact rfl) ?_; go_frame; go_big_quiet_on) | (go_big_quiet_op; (first | go_big_quiet_on | ((apply Exists.intro); (refine ⟨fun w1 hw => ?_, ?_⟩); (focus ((have hw := Cl.out hw); (fail))); (go_big_quiet_on))))))))
    (refine wpQuiet_nil ?_); (intro w1 hB); (clear hF hA hn1 hn2); (have hA := Cl.out hB); (clear hB); (try simp only [uA] at hA); have hF := hA.facts; (try simp only [fZ] at hF)
    have hB := hA.row_shut (e := 131) (size := 2) (g := gW) (c := cW) (n := 0) (cap := capw) (xs := flatF ([] : List (Nat × Nat)).reverse) sZ hwc3 (by omega) hwc2 hrst.out
    clear hA; have hA := hB; clear hB
    have hB := hA.row_shut (e := 100) (size := 7) (g := bN) (c := c) (n := N.length) (cap := cap) (xs := flatN (ndL N { s with wk := ([] : List (Nat × Nat)) })) sZ (by exact hc3) hc1 hc2 (by have := hc4'.out; rw [ndL_len] at this; exact this)
    clear hA; have hA := hB; clear hB
    have hK : At [KnP kp (some ⟨bN, 0, none⟩) cap sv (.slice (some ⟨gW, 0, none⟩) 1 capw) N s] w [KnP kp (some ⟨bN, 0, none⟩) cap sv (.slice (some ⟨gW, 0, none⟩) 0 capw) N { s with wk := ([] : List (Nat × Nat)) }] _ := kn_end (by have hC := hA; exact hC.pick pZ)
    clear hF hA
    have hA := hK
    clear hK
    have hst : Tar.step (nxF N) s = if (Tar.leave s v ([] : List (Nat × Nat))).low v = s.num v then Tar.close (Tar.leave s v ([] : List (Nat × Nat))) v else Tar.leave s v ([] : List (Nat × Nat)) := by unfold Tar.step; rw [hw'.out]; simp only [hgn.out]
    have hlv : (Tar.leave s v ([] : List (Nat × Nat))).low v = s.low v := rfl
    rw [hlv] at hst
    have hst' := Lib.hid hst
    clear hst hlv
    by_cases heq : s.low v = s.num v
    · have heq' := Lib.hid heq
      have hde : decide ((s.low v : Int) = (s.num v : Int)) = true := by simp; omega
      have hde2 : ((s.low v : Int) == (s.num v : Int)) = true := by simp; omega
      clear heq
      go_wp2_with (first | ((with_reducible refine gst ?_); refine wS hA ?_; clear hF hA; intro w1 hA; (try simp only [uA] at hA); have hF := hA.facts; (try simp only [fZ] at hF)) | ((with_reducible refine gbx ?_); refine wB hA ?_; clear hF hA; intro b1 w1 hA hb1; (try simp only [uA] at hA); have hF := hA.facts; (try simp only [fZ] at hF)))
      have hsm : Sm N { s with wk := ([] : List (Nat × Nat)) } := ⟨hs1, hs2, hs3, hs4, by show 0 ≤ 100000; omega⟩
      refine (close_any hA.sep hmemS hltS.out hsm).mono ?_
      rintro e w5 ⟨sv5, wv5, rfl, hT⟩
      have hB := hA.call1 .here hT
      clear hA hT; have hA := hB; clear hB
      simp only [List.cons_append, List.nil_append] at hA
      go_wp2_with (first | ((with_reducible refine gst ?_); refine wS hA ?_; clear hF hA; intro w1 hA; (try simp only [uA] at hA); have hF := hA.facts; (try simp only [fZ] at hF)) | ((with_reducible refine gbx ?_); refine wB hA ?_; clear hF hA; intro b1 w1 hA hb1; (try simp only [uA] at hA); have hF := hA.facts; (try simp only [fZ] at hF)))
      go_end0
      refine ⟨sv5, wv5, rfl, ?_⟩
      rw [hst'.out, if_pos heq'.out]
      exact hA
    · have heq' := Lib.hid heq
      have hde : decide ((s.low v : Int) = (s.num v : Int)) = false := by simp; omega
      have hde2 : ((s.low v : Int) == (s.num v : Int)) = false := by simp; omega
      clear heq
      go_wp2_with (first | ((with_reducible refine gst ?_); refine wS hA ?_; clear hF hA; intro w1 hA; (try simp only [uA] at hA); have hF := hA.facts; (try simp only [fZ] at hF)) | ((with_reducible refine gbx ?_); refine wB hA ?_; clear hF hA; intro b1 w1 hA hb1; (try simp only [uA] at hA); have hF := hA.facts; (try simp only [fZ] at hF)))
      go_end0
      refine ⟨sv, .slice (some ⟨gW, 0, none⟩) 0 capw, rfl, ?_⟩
      rw [hst'.out, if_neg heq'.out]
      exact hA
set_option maxRecDepth 100000 in
set_option maxHeartbeats 4000000 in
theorem step_cons {w : World} {kp : Nat} {ax : Option Addr} {cap : Nat} {sv wv : Value} {N : List Nd} {s : TS} (h : Sep [KnP kp ax cap sv wv N s] w) (hi : Tar.Inv (nxF N) N.length s) (hnn : ∀ x, x < N.length → ∀ y ∈ nxF N x, y < N.length) {v a : Nat} {u b : Nat} {w2 : List (Nat × Nat)} (hw : s.wk = (v, a) :: (u, b) :: w2) (hs : Sm N s) (hnx : ∀ (i : Nat) (d : Nd), N[i]? = some d → d.nx.length ≤ 1000) (hltt : (nxF N v).length ≤ a) :
    Calls Try.prog 61 #[.pointer (some ⟨kp, 0, none⟩)] w (KnPost kp ax cap sv wv N s (Tar.step (nxF N) s) w) := by
  have hm : Try.prog.follows .mixedOrders = true := by kernel_rfl
  have hs0 := Lib.hid hs
  obtain ⟨hs1, hs2, hs3, hs4, hs5⟩ := hs
  have hsub := hi.seg.sub (v, a) (by rw [hw]; simp)
  have hvn : v < N.length := (hi.stI v hsub.1).1
  have hlow : s.low v ≤ s.count := by
    obtain ⟨y, e⟩ := hi.seg.low_num v a ((u, b) :: w2) hw
    have := hi.cnt y
    omega
  have hcnt' := Lib.hid hi.cnt
  have hnn' := Lib.hid hnn
  have hi' := Lib.hid hi
  have hwl : (w2.length + 1) + 1 ≤ 100000 := by rw [hw] at hs5; simp only [List.length_cons] at hs5; omega
  obtain ⟨d, hd⟩ : ∃ d, N[v]? = some d := ⟨_, List.getElem?_eq_getElem hvn⟩
  have hal : a ≤ d.nx.length := by have := hsub.2; rwa [nxF_get hd] at this
  have hxl := hnx v d hd
  clear hnx
  have hA : At _ w [kHead kp ax cap sv wv N s, kRow ax cap N s, restX N, rowX sv s.stk.reverse, rowF wv s.wk.reverse] w := kn_begin h
  rw [hw, rowF_rev] at hA
  simp only [List.length_cons, List.length_nil] at hA
  obtain ⟨bN, c, hax, hc1, hc2, hc3, hc4, hB⟩ := hA.row_open (e := 100) (size := 7) (ax := ax) (cap := cap) (n := N.length) (xs := flatN (ndL N s)) sZ (by omega)
  subst hax
  clear hA; have hA := hB; clear hB
  obtain ⟨axw, capw, hwv, _, _, _⟩ := hA.row_form (e := 131) (size := 2) (n := (w2.length + 1) + 1) (v := wv) (xs := flatF (((u, b) :: w2).reverse ++ [(v, a)])) sZ
  subst hwv
  obtain ⟨gW, cW, hgw, hwc1, hwc2, hwc3, hwc4, hB⟩ := hA.row_open (e := 131) (size := 2) (ax := axw) (cap := capw) (n := (w2.length + 1) + 1) (xs := flatF (((u, b) :: w2).reverse ++ [(v, a)])) sZ (by omega)
  subst hgw
  clear hA; have hA := hB; clear hB
  have hwc4' : cW.take ((((u, b) :: w2).reverse ++ [(v, a)]).length * 2) = flatF (((u, b) :: w2).reverse ++ [(v, a)]) := by rw [List.length_append, List.length_reverse]; exact hwc4
  have hwn : cW[(w2.length + 1) * 2]? = some (.int .i64 v) := cells_at frL_len hwc4' (last_get ((u, b) :: w2) (v, a)) 0 (by omega)
  have hwa : cW[(w2.length + 1) * 2 + 1]? = some (.int .i64 a) := cells_at frL_len hwc4' (last_get ((u, b) :: w2) (v, a)) 1 (by omega)
  have hc4' := Lib.hid (show c.take ((ndL N s).length * 7) = flatN (ndL N s) by rw [ndL_len]; exact hc4)
  have hgv := ndL_get hd s
  have hvx : c[v * 7 + 2]? = some (.slice d.na d.nx.length d.nc) := cells_at Nd.cells_len hc4'.out hgv 2 (by omega)
  have hvl : c[v * 7 + 3]? = some (.int .i64 (s.low v)) := cells_at Nd.cells_len hc4'.out hgv 3 (by omega)
  have hvm : c[v * 7 + 4]? = some (.int .i64 (s.num v)) := cells_at Nd.cells_len hc4'.out hgv 4 (by omega)
  have hd' := Lib.hid hd
  have hw' := Lib.hid hw
  have hwx : IntKind.i64.wrap (((w2.length + 1) : Int) + 1 - 1) = (w2.length + 1) := by rw [IntKind.wrap_i64] <;> omega
  have hwy : IntKind.i64.wrap ((w2.length + 1) : Int) = (w2.length + 1) := by rw [IntKind.wrap_i64] <;> omega
  have hmemS := hsub.1
  have hltS := Lib.hid (fun y (hy : y ∈ s.stk) => (hi.stI y hy).1)
  have huv := top_ne hi hw
  have hun : u < N.length := (hi.stI u (hi.seg.sub (u, b) (by rw [hw]; simp)).1).1
  obtain ⟨du, hdu⟩ : ∃ d, N[u]? = some d := ⟨_, List.getElem?_eq_getElem hun⟩
  have hul : c[u * 7 + 3]? = some (.int .i64 (s.low u)) := cells_at Nd.cells_len hc4'.out (ndL_get hdu s) 3 (by omega)
  have hdu' := Lib.hid hdu
  have hwu : cW[w2.length * 2]? = some (.int .i64 u) := prev_cell hwc4'
  have hrst := Lib.hid (rest_f hwc4')
  clear hc4 hgv hd hw hi hnn hs5 hwc4 hwc4' hsub h hdu
  have hal2 : a = d.nx.length := by rw [nxF_get hd'.out] at hltt; omega
  have hgn := Lib.hid (show (nxF N v)[a]? = none from List.getElem?_eq_none_iff.2 hltt)
  clear hltt
  (try simp only [uA] at hA); have hF := hA.facts; (try simp only [fZ] at hF)
  go_enter Try.func61, Try.ntmps61
  go_wp2_with (first | ((with_reducible refine gst ?_); refine wS hA ?_; clear hF hA; intro w1 hA; (try simp only [uA] at hA); have hF := hA.facts; (try simp only [fZ] at hF)) | ((with_reducible refine gbx ?_); refine wB hA ?_; clear hF hA; intro b1 w1 hA hb1; (try simp only [uA] at hA); have hF := hA.facts; (try simp only [fZ] at hF)))
  try go_frame
  (refine wp_region_all (Cl _ _ _) (by kernel_rfl) (by kernel_rfl) (Cl.drew hA) ?_); (have hn1 := Cl.none hA); (have hn2 := Cl.none2 hA); (repeat (first | go_big_quiet_skip | (go_big_quiet_want; (first | (refine quiet_load_at rfl rfl sR (by kernel_rfl) (by first | assumption | exact rfl) ?_; go_frame; go_big_quiet_on) | (go_big_quiet_op; (first | go_big_quiet_on | ((apply Exists.intro); (refine ⟨fun w1 hw => ?_, ?_⟩); (focus ((have hw := Cl.out hw); (fail))); (go_big_quiet_on))))))))
  (refine wpQuiet_nil ?_); (intro w1 hB); (clear hF hA hn1 hn2); (have hA := Cl.out hB); (clear hB); (try simp only [uA] at hA); have hF := hA.facts; (try simp only [fZ] at hF)
  go_wp2_with (first | ((with_reducible refine gst ?_); refine wS hA ?_; clear hF hA; intro w1 hA; (try simp only [uA] at hA); have hF := hA.facts; (try simp only [fZ] at hF)) | ((with_reducible refine gbx ?_); refine wB hA ?_; clear hF hA; intro b1 w1 hA hb1; (try simp only [uA] at hA); have hF := hA.facts; (try simp only [fZ] at hF)))
  try go_frame
  (refine wp_region_all (Cl _ _ _) (by kernel_rfl) (by kernel_rfl) (Cl.drew hA) ?_); (have hn1 := Cl.none hA); (have hn2 := Cl.none2 hA); (repeat (first | go_big_quiet_skip | (go_big_quiet_want; (first | (refine quiet_load_at rfl rfl sR (by kernel_rfl) (by first | assumption | exact rfl) ?_; go_frame; go_big_quiet_on) | (go_big_quiet_op; (first | go_big_quiet_on | ((apply Exists.intro); (refine ⟨fun w1 hw => ?_, ?_⟩); (focus ((have hw := Cl.out hw); (fail))); (go_big_quiet_on))))))))
  (refine wpQuiet_nil ?_); (intro w1 hB); (clear hF hA hn1 hn2); (have hA := Cl.out hB); (clear hB); (try simp only [uA] at hA); have hF := hA.facts; (try simp only [fZ] at hF)
  go_wp2_with (first | ((with_reducible refine gst ?_); refine wS hA ?_; clear hF hA; intro w1 hA; (try simp only [uA] at hA); have hF := hA.facts; (try simp only [fZ] at hF)) | ((with_reducible refine gbx ?_); refine wB hA ?_; clear hF hA; intro b1 w1 hA hb1; (try simp only [uA] at hA); have hF := hA.facts; (try simp only [fZ] at hF)))
  try go_frame
  (refine wp_region_all (Cl _ _ _) (by kernel_rfl) (by kernel_rfl) (Cl.drew hA) ?_); (have hn1 := Cl.none hA); (have hn2 := Cl.none2 hA); (repeat (first | go_big_quiet_skip | (go_big_quiet_want; (first | (refine quiet_load_at rfl rfl sR (by kernel_rfl) (by first | assumption | exact rfl) ?_; go_frame; go_big_quiet_on) | (go_big_quiet_op; (first | go_big_quiet_on | ((apply Exists.intro); (refine ⟨fun w1 hw => ?_, ?_⟩); (focus ((have hw := Cl.out hw); (fail))); (go_big_quiet_on))))))))
  (refine wpQuiet_nil ?_); (intro w1 hB); (clear hF hA hn1 hn2); (have hA := Cl.out hB); (clear hB); (try simp only [uA] at hA); have hF := hA.facts; (try simp only [fZ] at hF)
  go_wp2_with (first | ((with_reducible refine gst ?_); refine wS hA ?_; clear hF hA; intro w1 hA; (try simp only [uA] at hA); have hF := hA.facts; (try simp only [fZ] at hF)) | ((with_reducible refine gbx ?_); refine wB hA ?_; clear hF hA; intro b1 w1 hA hb1; (try simp only [uA] at hA); have hF := hA.facts; (try simp only [fZ] at hF)))
  try go_frame
  have hB := hA.drew
  clear hF hA; have hA := hB; clear hB
  refine wp_region_held (S := fun _ => True) hm ?_
  change wpAnyH _ _ _ _ _ 15 _ _ (World.drew _)
  generalize World.drew _ = wd at *
  refine tP 0 86 (.pointer (some ⟨kp, 0, none⟩)) (s := trivial) (h := ?_)
  go_frame
  refine tP 1 87 (.pointer (some ⟨kp, 0, none⟩)) (s := trivial) (h := ?_)
  go_frame
  refine tP 2 88 (.pointer (some ⟨kp, 0, none⟩)) (s := trivial) (h := ?_)
  go_frame
  refine tP 3 89 (.pointer (some ⟨kp, 2, none⟩)) (s := trivial) (h := ?_)
  go_frame
  refine tP 5 91 (.pointer (some ⟨kp, 0, none⟩)) (s := trivial) (h := ?_)
  go_frame
  refine tP 6 92 (.pointer (some ⟨kp, 0, none⟩)) (s := trivial) (h := ?_)
  go_frame
  refine tP 7 93 (.pointer (some ⟨kp, 2, none⟩)) (s := trivial) (h := ?_)
  go_frame
  refine wpAnyH_two (i := 4) (j := 8) (by kernel_rfl) ?_ ?_
  · skip
    refine opLoad1_at (i := 4) (d := some 90) (b := kp) (j := 2) rfl rfl (by kernel_rfl) rfl (by exact rfl) hA sZ (by kernel_rfl) rfl ?_
    refine ⟨trivial, ?_⟩
    try go_frame
    refine wpAnyH_one (i := 8) (by kernel_rfl) ?_
    refine opLoad1_at (i := 8) (d := some 94) (b := kp) (j := 2) rfl rfl (by kernel_rfl) rfl (by exact rfl) hA sZ (by kernel_rfl) rfl ?_
    refine ⟨trivial, ?_⟩
    try go_frame
    refine tP 9 95 (.int .i64 ((w2.length : Int) + 1 + 1)) (s := trivial) (h := ?_)
    go_frame
    refine tZ 10 96 (.int .i64 ((w2.length : Int) + 1)) (r := (fun w' hS => by simp [execOp, go_sem, Act.eval, Act.put, hwx, hwy])) (s := trivial) (h := ?_)
    go_frame
    refine tZ 11 97 (.slice (some ⟨gW, 0, none⟩) (w2.length + 1) capw) (r := (fun w' hS => by first | (simp [execOp, go_sem, Act.eval, Act.put]; done) | (simp [execOp, go_sem, Act.eval, Act.put]; omega))) (s := trivial) (h := ?_)
    go_frame
    refine tP 12 98 (.pointer (some ⟨kp, 0, none⟩)) (s := trivial) (h := ?_)
    go_frame
    refine tP 13 99 (.pointer (some ⟨kp, 2, none⟩)) (s := trivial) (h := ?_)
    go_frame
    refine wpAnyH_one (i := 14) (by kernel_rfl) ?_
    refine opStore_at (b := kp) (j := 2) (vs := [.slice (some ⟨gW, 0, none⟩) (w2.length + 1) capw]) rfl rfl (by kernel_rfl) rfl (by exact rfl) (by exact rfl) rfl hA sZ (by kernel_rfl) rfl (by show 2 + 1 ≤ 5; omega) ?_
    intro w3 hB
    clear hA; have hA := hB; clear hB
    refine ⟨trivial, ?_⟩
    try go_frame
    refine wpAnyH_done (by kernel_rfl) ?_ _
    try go_frame
    (try simp only [uA] at hA)
    (try simp only [uA] at hA); have hF := hA.facts; (try simp only [fZ] at hF)
    go_wp2_with (first | ((with_reducible refine gst ?_); refine wS hA ?_; clear hF hA; intro w1 hA; (try simp only [uA] at hA); have hF := hA.facts; (try simp only [fZ] at hF)) | ((with_reducible refine gbx ?_); refine wB hA ?_; clear hF hA; intro b1 w1 hA hb1; (try simp only [uA] at hA); have hF := hA.facts; (try simp only [fZ] at hF)))
    try go_frame
    (refine wp_region_all (Cl _ _ _) (by kernel_rfl) (by kernel_rfl) (Cl.drew hA) ?_); (have hn1 := Cl.none hA); (have hn2 := Cl.none2 hA); (repeat (first | go_big_quiet_skip | (go_big_quiet_want; (first | (refine quiet_load_at rfl rfl sR (by kernel_rfl) (by first | assumption | exact rfl) ?_; go_frame; go_big_quiet_on) | (go_big_quiet_op; (first | go_big_quiet_on | ((apply Exists.intro); (refine ⟨fun w1 hw => ?_, ?_⟩); (focus ((have hw := Cl.out hw); (fail))); (go_big_quiet_on))))))))
    (refine wpQuiet_nil ?_); (intro w1 hB); (clear hF hA hn1 hn2); (have hA := Cl.out hB); (clear hB); (try simp only [uA] at hA); have hF := hA.facts; (try simp only [fZ] at hF)
    go_wp2_with (first | ((with_reducible refine gst ?_); refine wS hA ?_; clear hF hA; intro w1 hA; (try simp only [uA] at hA); have hF := hA.facts; (try simp only [fZ] at hF)) | ((with_reducible refine gbx ?_); refine wB hA ?_; clear hF hA; intro b1 w1 hA hb1; (try simp only [uA] at hA); have hF := hA.facts; (try simp only [fZ] at hF)))
    try go_frame
    have hB := hA.drew
    clear hF hA; have hA := hB; clear hB
    refine wp_region_held (S := fun _ => True) hm ?_
    change wpAnyH _ _ _ _ _ 13 _ _ (World.drew _)
    generalize World.drew _ = wd at *
    refine tP 0 124 (.pointer (some ⟨bN, u * 7, none⟩)) (s := trivial) (h := ?_)
    go_frame
    refine tP 1 125 (.pointer (some ⟨bN, u * 7, none⟩)) (s := trivial) (h := ?_)
    go_frame
    refine tP 2 126 (.pointer (some ⟨bN, u * 7, none⟩)) (s := trivial) (h := ?_)
    go_frame
    refine tP 3 127 (.pointer (some ⟨bN, u * 7 + 3, none⟩)) (s := trivial) (h := ?_)
    go_frame
    refine tP 5 129 (.pointer (some ⟨bN, v * 7, none⟩)) (s := trivial) (h := ?_)
    go_frame
    refine tP 6 130 (.pointer (some ⟨bN, v * 7, none⟩)) (s := trivial) (h := ?_)
    go_frame
    refine tP 7 131 (.pointer (some ⟨bN, v * 7 + 3, none⟩)) (s := trivial) (h := ?_)
    go_frame
    refine wpAnyH_two (i := 4) (j := 8) (by kernel_rfl) ?_ ?_
    · skip
      refine opLoad1_at (i := 4) (d := some 128) (b := bN) (j := u * 7 + 3) rfl rfl (by kernel_rfl) rfl (by exact rfl) hA sZ (by kernel_rfl) hul ?_
      refine ⟨trivial, ?_⟩
      try go_frame
      refine wpAnyH_one (i := 8) (by kernel_rfl) ?_
      refine opLoad1_at (i := 8) (d := some 132) (b := bN) (j := v * 7 + 3) rfl rfl (by kernel_rfl) rfl (by exact rfl) hA sZ (by kernel_rfl) hvl ?_
      refine ⟨trivial, ?_⟩
      try go_frame
      refine tZ 9 133 (.int .i64 (min (s.low u : Int) (s.low v : Int))) (r := (fun w' hS => by simp [execOp, go_sem, Act.eval, Act.put])) (s := trivial) (h := ?_)
      go_frame
      refine tP 10 134 (.pointer (some ⟨bN, u * 7, none⟩)) (s := trivial) (h := ?_)
      go_frame
      refine tP 11 135 (.pointer (some ⟨bN, u * 7 + 3, none⟩)) (s := trivial) (h := ?_)
      go_frame
      refine wpAnyH_one (i := 12) (by kernel_rfl) ?_
      refine opStore_at (b := bN) (j := u * 7 + 3) (vs := [.int .i64 (min (s.low u : Int) (s.low v : Int))]) rfl rfl (by kernel_rfl) rfl (by exact rfl) (by exact rfl) rfl hA sZ (by kernel_rfl) rfl (by show u * 7 + 3 + 1 ≤ c.length; omega) ?_
      intro w3 hB
      clear hA; have hA := hB; clear hB
      refine ⟨trivial, ?_⟩
      try go_frame
      refine wpAnyH_done (by kernel_rfl) ?_ _
      try go_frame
      (try simp only [uA] at hA)
      have hwl2 := low_write hc4'.out hdu'.out (min (s.low u) (s.low v))
      rw [show ((min (s.low u) (s.low v) : Nat) : Int) = min (s.low u : Int) (s.low v : Int) from by omega] at hwl2
      have hwl3 := Lib.hid hwl2
      clear hwl2
      have hvl2 : (c.set (u * 7 + 3) (.int .i64 (min (s.low u : Int) (s.low v : Int))))[v * 7 + 3]? = some (.int .i64 (s.low v)) := by rw [List.getElem?_set_ne (by omega)]; exact hvl
      have hvm2 : (c.set (u * 7 + 3) (.int .i64 (min (s.low u : Int) (s.low v : Int))))[v * 7 + 4]? = some (.int .i64 (s.num v)) := by rw [List.getElem?_set_ne (by omega)]; exact hvm
      (try simp only [uA] at hA); have hF := hA.facts; (try simp only [fZ] at hF)
      go_wp2_with (first | ((with_reducible refine gst ?_); refine wS hA ?_; clear hF hA; intro w1 hA; (try simp only [uA] at hA); have hF := hA.facts; (try simp only [fZ] at hF)) | ((with_reducible refine gbx ?_); refine wB hA ?_; clear hF hA; intro b1 w1 hA hb1; (try simp only [uA] at hA); have hF := hA.facts; (try simp only [fZ] at hF)))
      try go_frame
      (refine wp_region_all (Cl _ _ _) (by kernel_rfl) (by kernel_rfl) (Cl.drew hA) ?_); (have hn1 := Cl.none hA); (have hn2 := Cl.none2 hA); (repeat (first | go_big_quiet_skip | (go_big_quiet_want; (first | (refine quiet_load_at rfl rfl sR (by kernel_rfl) (by first | assumption | exact rfl) ?_; go_frame; go_big_quiet_on) | (go_big_quiet_op; (first | go_big_quiet_on | ((apply Exists.intro); (refine ⟨fun w1 hw => ?_, ?_⟩); (focus ((have hw := Cl.out hw); (fail))); (go_big_quiet_on))))))))
      (refine wpQuiet_nil ?_); (intro w1 hB); (clear hF hA hn1 hn2); (have hA := Cl.out hB); (clear hB); (try simp only [uA] at hA); have hF := hA.facts; (try simp only [fZ] at hF)
      have hB := hA.row_shut (e := 131) (size := 2) (g := gW) (c := cW) (n := w2.length + 1) (cap := capw) (xs := flatF ((u, b) :: w2).reverse) sZ hwc3 (by omega) hwc2 hrst.out
      clear hA; have hA := hB; clear hB
      have hB := hA.row_shut (e := 100) (size := 7) (g := bN) (c := c.set (u * 7 + 3) (.int .i64 (min (s.low u : Int) (s.low v : Int)))) (n := N.length) (cap := cap) (xs := flatN (ndL N { s with wk := (u, b) :: w2, low := up s.low u (min (s.low u) (s.low v)) })) sZ (by simp only [List.length_set]; exact hc3) hc1 hc2 hwl3.out
      clear hA; have hA := hB; clear hB
      have hK : At [KnP kp (some ⟨bN, 0, none⟩) cap sv (.slice (some ⟨gW, 0, none⟩) ((w2.length + 1) + 1) capw) N s] w [KnP kp (some ⟨bN, 0, none⟩) cap sv (.slice (some ⟨gW, 0, none⟩) (w2.length + 1) capw) N { s with wk := (u, b) :: w2, low := up s.low u (min (s.low u) (s.low v)) }] _ := kn_end (by rw [show Part.row 131 2 (.slice (some ⟨gW, 0, none⟩) (w2.length + 1) capw) (w2.length + 1) (flatF ((u, b) :: w2).reverse) = rowF (.slice (some ⟨gW, 0, none⟩) (w2.length + 1) capw) ((u, b) :: w2).reverse from rowF_len _ ((u, b) :: w2)] at hA; have hC := hA; exact hC.pick pZ)
      clear hF hA
      have hA := hK
      clear hK
      have hst : Tar.step (nxF N) s = if (Tar.leave s v ((u, b) :: w2)).low v = s.num v then Tar.close (Tar.leave s v ((u, b) :: w2)) v else Tar.leave s v ((u, b) :: w2) := by unfold Tar.step; rw [hw'.out]; simp only [hgn.out]
      have hlv : (Tar.leave s v ((u, b) :: w2)).low v = s.low v := up_other _ _ (fun e => huv e.symm)
      rw [hlv] at hst
      have hst' := Lib.hid hst
      clear hst hlv
      by_cases heq : s.low v = s.num v
      · have heq' := Lib.hid heq
        have hde : decide ((s.low v : Int) = (s.num v : Int)) = true := by simp; omega
        have hde2 : ((s.low v : Int) == (s.num v : Int)) = true := by simp; omega
        clear heq
        go_wp2_with (first | ((with_reducible refine gst ?_); refine wS hA ?_; clear hF hA; intro w1 hA; (try simp only [uA] at hA); have hF := hA.facts; (try simp only [fZ] at hF)) | ((with_reducible refine gbx ?_); refine wB hA ?_; clear hF hA; intro b1 w1 hA hb1; (try simp only [uA] at hA); have hF := hA.facts; (try simp only [fZ] at hF)))
        have hsm : Sm N { s with wk := (u, b) :: w2, low := up s.low u (min (s.low u) (s.low v)) } := ⟨hs1, hs2, hs3, hs4, by show w2.length + 1 ≤ 100000; omega⟩
        refine (close_any hA.sep hmemS hltS.out hsm).mono ?_
        rintro e w5 ⟨sv5, wv5, rfl, hT⟩
        have hB := hA.call1 .here hT
        clear hA hT; have hA := hB; clear hB
        simp only [List.cons_append, List.nil_append] at hA
        go_wp2_with (first | ((with_reducible refine gst ?_); refine wS hA ?_; clear hF hA; intro w1 hA; (try simp only [uA] at hA); have hF := hA.facts; (try simp only [fZ] at hF)) | ((with_reducible refine gbx ?_); refine wB hA ?_; clear hF hA; intro b1 w1 hA hb1; (try simp only [uA] at hA); have hF := hA.facts; (try simp only [fZ] at hF)))
        go_end0
        refine ⟨sv5, wv5, rfl, ?_⟩
        rw [hst'.out, if_pos heq'.out]
        exact hA
      · have heq' := Lib.hid heq
        have hde : decide ((s.low v : Int) = (s.num v : Int)) = false := by simp; omega
        have hde2 : ((s.low v : Int) == (s.num v : Int)) = false := by simp; omega
        clear heq
        go_wp2_with (first | ((with_reducible refine gst ?_); refine wS hA ?_; clear hF hA; intro w1 hA; (try simp only [uA] at hA); have hF := hA.facts; (try simp only [fZ] at hF)) | ((with_reducible refine gbx ?_); refine wB hA ?_; clear hF hA; intro b1 w1 hA hb1; (try simp only [uA] at hA); have hF := hA.facts; (try simp only [fZ] at hF)))
        go_end0
        refine ⟨sv, .slice (some ⟨gW, 0, none⟩) (w2.length + 1) capw, rfl, ?_⟩
        rw [hst'.out, if_neg heq'.out]
        exact hA
    · skip
      refine opLoad1_at (i := 8) (d := some 132) (b := bN) (j := v * 7 + 3) rfl rfl (by kernel_rfl) rfl (by exact rfl) hA sZ (by kernel_rfl) hvl ?_
      refine ⟨trivial, ?_⟩
      try go_frame
      refine wpAnyH_one (i := 4) (by kernel_rfl) ?_
      refine opLoad1_at (i := 4) (d := some 128) (b := bN) (j := u * 7 + 3) rfl rfl (by kernel_rfl) rfl (by exact rfl) hA sZ (by kernel_rfl) hul ?_
      refine ⟨trivial, ?_⟩
      try go_frame
      refine tZ 9 133 (.int .i64 (min (s.low u : Int) (s.low v : Int))) (r := (fun w' hS => by simp [execOp, go_sem, Act.eval, Act.put])) (s := trivial) (h := ?_)
      go_frame
      refine tP 10 134 (.pointer (some ⟨bN, u * 7, none⟩)) (s := trivial) (h := ?_)
      go_frame
      refine tP 11 135 (.pointer (some ⟨bN, u * 7 + 3, none⟩)) (s := trivial) (h := ?_)
      go_frame
      refine wpAnyH_one (i := 12) (by kernel_rfl) ?_
      refine opStore_at (b := bN) (j := u * 7 + 3) (vs := [.int .i64 (min (s.low u : Int) (s.low v : Int))]) rfl rfl (by kernel_rfl) rfl (by exact rfl) (by exact rfl) rfl hA sZ (by kernel_rfl) rfl (by show u * 7 + 3 + 1 ≤ c.length; omega) ?_
      intro w3 hB
      clear hA; have hA := hB; clear hB
      refine ⟨trivial, ?_⟩
      try go_frame
      refine wpAnyH_done (by kernel_rfl) ?_ _
      try go_frame
      (try simp only [uA] at hA)
      have hwl2 := low_write hc4'.out hdu'.out (min (s.low u) (s.low v))
      rw [show ((min (s.low u) (s.low v) : Nat) : Int) = min (s.low u : Int) (s.low v : Int) from by omega] at hwl2
      have hwl3 := Lib.hid hwl2
      clear hwl2
      have hvl2 : (c.set (u * 7 + 3) (.int .i64 (min (s.low u : Int) (s.low v : Int))))[v * 7 + 3]? = some (.int .i64 (s.low v)) := by rw [List.getElem?_set_ne (by omega)]; exact hvl
      have hvm2 : (c.set (u * 7 + 3) (.int .i64 (min (s.low u : Int) (s.low v : Int))))[v * 7 + 4]? = some (.int .i64 (s.num v)) := by rw [List.getElem?_set_ne (by omega)]; exact hvm
      (try simp only [uA] at hA); have hF := hA.facts; (try simp only [fZ] at hF)
      go_wp2_with (first | ((with_reducible refine gst ?_); refine wS hA ?_; clear hF hA; intro w1 hA; (try simp only [uA] at hA); have hF := hA.facts; (try simp only [fZ] at hF)) | ((with_reducible refine gbx ?_); refine wB hA ?_; clear hF hA; intro b1 w1 hA hb1; (try simp only [uA] at hA); have hF := hA.facts; (try simp only [fZ] at hF)))
      try go_frame
      (refine wp_region_all (Cl _ _ _) (by kernel_rfl) (by kernel_rfl) (Cl.drew hA) ?_); (have hn1 := Cl.none hA); (have hn2 := Cl.none2 hA); (repeat (first | go_big_quiet_skip | (go_big_quiet_want; (first | (refine quiet_load_at rfl rfl sR (by kernel_rfl) (by first | assumption | exact rfl) ?_; go_frame; go_big_quiet_on) | (go_big_quiet_op; (first | go_big_quiet_on | ((apply Exists.intro); (refine ⟨fun w1 hw => ?_, ?_⟩); (focus ((have hw := Cl.out hw); (fail))); (go_big_quiet_on))))))))
      (refine wpQuiet_nil ?_); (intro w1 hB); (clear hF hA hn1 hn2); (have hA := Cl.out hB); (clear hB); (try simp only [uA] at hA); have hF := hA.facts; (try simp only [fZ] at hF)
      have hB := hA.row_shut (e := 131) (size := 2) (g := gW) (c := cW) (n := w2.length + 1) (cap := capw) (xs := flatF ((u, b) :: w2).reverse) sZ hwc3 (by omega) hwc2 hrst.out
      clear hA; have hA := hB; clear hB
      have hB := hA.row_shut (e := 100) (size := 7) (g := bN) (c := c.set (u * 7 + 3) (.int .i64 (min (s.low u : Int) (s.low v : Int)))) (n := N.length) (cap := cap) (xs := flatN (ndL N { s with wk := (u, b) :: w2, low := up s.low u (min (s.low u) (s.low v)) })) sZ (by simp only [List.length_set]; exact hc3) hc1 hc2 hwl3.out
      clear hA; have hA := hB; clear hB
      have hK : At [KnP kp (some ⟨bN, 0, none⟩) cap sv (.slice (some ⟨gW, 0, none⟩) ((w2.length + 1) + 1) capw) N s] w [KnP kp (some ⟨bN, 0, none⟩) cap sv (.slice (some ⟨gW, 0, none⟩) (w2.length + 1) capw) N { s with wk := (u, b) :: w2, low := up s.low u (min (s.low u) (s.low v)) }] _ := kn_end (by rw [show Part.row 131 2 (.slice (some ⟨gW, 0, none⟩) (w2.length + 1) capw) (w2.length + 1) (flatF ((u, b) :: w2).reverse) = rowF (.slice (some ⟨gW, 0, none⟩) (w2.length + 1) capw) ((u, b) :: w2).reverse from rowF_len _ ((u, b) :: w2)] at hA; have hC := hA; exact hC.pick pZ)
      clear hF hA
      have hA := hK
      clear hK
      have hst : Tar.step (nxF N) s = if (Tar.leave s v ((u, b) :: w2)).low v = s.num v then Tar.close (Tar.leave s v ((u, b) :: w2)) v else Tar.leave s v ((u, b) :: w2) := by unfold Tar.step; rw [hw'.out]; simp only [hgn.out]
      have hlv : (Tar.leave s v ((u, b) :: w2)).low v = s.low v := up_other _ _ (fun e => huv e.symm)
      rw [hlv] at hst
      have hst' := Lib.hid hst
      clear hst hlv
      by_cases heq : s.low v = s.num v
      · have heq' := Lib.hid heq
        have hde : decide ((s.low v : Int) = (s.num v : Int)) = true := by simp; omega
        have hde2 : ((s.low v : Int) == (s.num v : Int)) = true := by simp; omega
        clear heq
        go_wp2_with (first | ((with_reducible refine gst ?_); refine wS hA ?_; clear hF hA; intro w1 hA; (try simp only [uA] at hA); have hF := hA.facts; (try simp only [fZ] at hF)) | ((with_reducible refine gbx ?_); refine wB hA ?_; clear hF hA; intro b1 w1 hA hb1; (try simp only [uA] at hA); have hF := hA.facts; (try simp only [fZ] at hF)))
        have hsm : Sm N { s with wk := (u, b) :: w2, low := up s.low u (min (s.low u) (s.low v)) } := ⟨hs1, hs2, hs3, hs4, by show w2.length + 1 ≤ 100000; omega⟩
        refine (close_any hA.sep hmemS hltS.out hsm).mono ?_
        rintro e w5 ⟨sv5, wv5, rfl, hT⟩
        have hB := hA.call1 .here hT
        clear hA hT; have hA := hB; clear hB
        simp only [List.cons_append, List.nil_append] at hA
        go_wp2_with (first | ((with_reducible refine gst ?_); refine wS hA ?_; clear hF hA; intro w1 hA; (try simp only [uA] at hA); have hF := hA.facts; (try simp only [fZ] at hF)) | ((with_reducible refine gbx ?_); refine wB hA ?_; clear hF hA; intro b1 w1 hA hb1; (try simp only [uA] at hA); have hF := hA.facts; (try simp only [fZ] at hF)))
        go_end0
        refine ⟨sv5, wv5, rfl, ?_⟩
        rw [hst'.out, if_pos heq'.out]
        exact hA
      · have heq' := Lib.hid heq
        have hde : decide ((s.low v : Int) = (s.num v : Int)) = false := by simp; omega
        have hde2 : ((s.low v : Int) == (s.num v : Int)) = false := by simp; omega
        clear heq
        go_wp2_with (first | ((with_reducible refine gst ?_); refine wS hA ?_; clear hF hA; intro w1 hA; (try simp only [uA] at hA); have hF := hA.facts; (try simp only [fZ] at hF)) | ((with_reducible refine gbx ?_); refine wB hA ?_; clear hF hA; intro b1 w1 hA hb1; (try simp only [uA] at hA); have hF := hA.facts; (try simp only [fZ] at hF)))
        go_end0
        refine ⟨sv, .slice (some ⟨gW, 0, none⟩) (w2.length + 1) capw, rfl, ?_⟩
        rw [hst'.out, if_neg heq'.out]
        exact hA
  · skip
    refine opLoad1_at (i := 8) (d := some 94) (b := kp) (j := 2) rfl rfl (by kernel_rfl) rfl (by exact rfl) hA sZ (by kernel_rfl) rfl ?_
    refine ⟨trivial, ?_⟩
    try go_frame
    refine tP 9 95 (.int .i64 ((w2.length : Int) + 1 + 1)) (s := trivial) (h := ?_)
    go_frame
    refine tZ 10 96 (.int .i64 ((w2.length : Int) + 1)) (r := (fun w' hS => by simp [execOp, go_sem, Act.eval, Act.put, hwx, hwy])) (s := trivial) (h := ?_)
    go_frame
    refine wpAnyH_one (i := 4) (by kernel_rfl) ?_
    refine opLoad1_at (i := 4) (d := some 90) (b := kp) (j := 2) rfl rfl (by kernel_rfl) rfl (by exact rfl) hA sZ (by kernel_rfl) rfl ?_
    refine ⟨trivial, ?_⟩
    try go_frame
    refine tZ 11 97 (.slice (some ⟨gW, 0, none⟩) (w2.length + 1) capw) (r := (fun w' hS => by first | (simp [execOp, go_sem, Act.eval, Act.put]; done) | (simp [execOp, go_sem, Act.eval, Act.put]; omega))) (s := trivial) (h := ?_)
    go_frame
    refine tP 12 98 (.pointer (some ⟨kp, 0, none⟩)) (s := trivial) (h := ?_)
    go_frame
    refine tP 13 99 (.pointer (some ⟨kp, 2, none⟩)) (s := trivial) (h := ?_)
    go_frame
    refine wpAnyH_one (i := 14) (by kernel_rfl) ?_
    refine opStore_at (b := kp) (j := 2) (vs := [.slice (some ⟨gW, 0, none⟩) (w2.length + 1) capw]) rfl rfl (by kernel_rfl) rfl (by exact rfl) (by exact rfl) rfl hA sZ (by kernel_rfl) rfl (by show 2 + 1 ≤ 5; omega) ?_
    intro w3 hB
    clear hA; have hA := hB; clear hB
    refine ⟨trivial, ?_⟩
    try go_frame
    refine wpAnyH_done (by kernel_rfl) ?_ _
    try go_frame
    (try simp only [uA] at hA)
    (try simp only [uA] at hA); have hF := hA.facts; (try simp only [fZ] at hF)
    go_wp2_with (first | ((with_reducible refine gst ?_); refine wS hA ?_; clear hF hA; intro w1 hA; (try simp only [uA] at hA); have hF := hA.facts; (try simp only [fZ] at hF)) | ((with_reducible refine gbx ?_); refine wB hA ?_; clear hF hA; intro b1 w1 hA hb1; (try simp only [uA] at hA); have hF := hA.facts; (try simp only [fZ] at hF)))
    try go_frame
    (refine wp_region_all (Cl _ _ _) (by kernel_rfl) (by kernel_rfl) (Cl.drew hA) ?_); (have hn1 := Cl.none hA); (have hn2 := Cl.none2 hA); (repeat (first | go_big_quiet_skip | (go_big_quiet_want; (first | (refine quiet_load_at rfl rfl sR (by kernel_rfl) (by first | assumption | exact rfl) ?_; go_frame; go_big_quiet_on) | (go_big_quiet_op; (first | go_big_quiet_on | ((apply Exists.intro); (refine ⟨fun w1 hw => ?_, ?_⟩); (focus ((have hw := Cl.out hw); (fail))); (go_big_quiet_on))))))))
    (refine wpQuiet_nil ?_); (intro w1 hB); (clear hF hA hn1 hn2); (have hA := Cl.out hB); (clear hB); (try simp only [uA] at hA); have hF := hA.facts; (try simp only [fZ] at hF)
    go_wp2_with (first | ((with_reducible refine gst ?_); refine wS hA ?_; clear hF hA; intro w1 hA; (try simp only [uA] at hA); have hF := hA.facts; (try simp only [fZ] at hF)) | ((with_reducible refine gbx ?_); refine wB hA ?_; clear hF hA; intro b1 w1 hA hb1; (try simp only [uA] at hA); have hF := hA.facts; (try simp only [fZ] at hF)))
    try go_frame
    have hB := hA.drew
    clear hF hA; have hA := hB; clear hB
    refine wp_region_held (S := fun _ => True) hm ?_
    change wpAnyH _ _ _ _ _ 13 _ _ (World.drew _)
    generalize World.drew _ = wd at *
    refine tP 0 124 (.pointer (some ⟨bN, u * 7, none⟩)) (s := trivial) (h := ?_)
    go_frame
    refine tP 1 125 (.pointer (some ⟨bN, u * 7, none⟩)) (s := trivial) (h := ?_)
    go_frame
    refine tP 2 126 (.pointer (some ⟨bN, u * 7, none⟩)) (s := trivial) (h := ?_)
    go_frame
    refine tP 3 127 (.pointer (some ⟨bN, u * 7 + 3, none⟩)) (s := trivial) (h := ?_)
    go_frame
    refine tP 5 129 (.pointer (some ⟨bN, v * 7, none⟩)) (s := trivial) (h := ?_)
    go_frame
    refine tP 6 130 (.pointer (some ⟨bN, v * 7, none⟩)) (s := trivial) (h := ?_)
    go_frame
    refine tP 7 131 (.pointer (some ⟨bN, v * 7 + 3, none⟩)) (s := trivial) (h := ?_)
    go_frame
    refine wpAnyH_two (i := 4) (j := 8) (by kernel_rfl) ?_ ?_
    · skip
      refine opLoad1_at (i := 4) (d := some 128) (b := bN) (j := u * 7 + 3) rfl rfl (by kernel_rfl) rfl (by exact rfl) hA sZ (by kernel_rfl) hul ?_
      refine ⟨trivial, ?_⟩
      try go_frame
      refine wpAnyH_one (i := 8) (by kernel_rfl) ?_
      refine opLoad1_at (i := 8) (d := some 132) (b := bN) (j := v * 7 + 3) rfl rfl (by kernel_rfl) rfl (by exact rfl) hA sZ (by kernel_rfl) hvl ?_
      refine ⟨trivial, ?_⟩
      try go_frame
      refine tZ 9 133 (.int .i64 (min (s.low u : Int) (s.low v : Int))) (r := (fun w' hS => by simp [execOp, go_sem, Act.eval, Act.put])) (s := trivial) (h := ?_)
      go_frame
      refine tP 10 134 (.pointer (some ⟨bN, u * 7, none⟩)) (s := trivial) (h := ?_)
      go_frame
      refine tP 11 135 (.pointer (some ⟨bN, u * 7 + 3, none⟩)) (s := trivial) (h := ?_)
      go_frame
      refine wpAnyH_one (i := 12) (by kernel_rfl) ?_
      refine opStore_at (b := bN) (j := u * 7 + 3) (vs := [.int .i64 (min (s.low u : Int) (s.low v : Int))]) rfl rfl (by kernel_rfl) rfl (by exact rfl) (by exact rfl) rfl hA sZ (by kernel_rfl) rfl (by show u * 7 + 3 + 1 ≤ c.length; omega) ?_
      intro w3 hB
      clear hA; have hA := hB; clear hB
      refine ⟨trivial, ?_⟩
      try go_frame
      refine wpAnyH_done (by kernel_rfl) ?_ _
      try go_frame
      (try simp only [uA] at hA)
      have hwl2 := low_write hc4'.out hdu'.out (min (s.low u) (s.low v))
      rw [show ((min (s.low u) (s.low v) : Nat) : Int) = min (s.low u : Int) (s.low v : Int) from by omega] at hwl2
      have hwl3 := Lib.hid hwl2
      clear hwl2
      have hvl2 : (c.set (u * 7 + 3) (.int .i64 (min (s.low u : Int) (s.low v : Int))))[v * 7 + 3]? = some (.int .i64 (s.low v)) := by rw [List.getElem?_set_ne (by omega)]; exact hvl
      have hvm2 : (c.set (u * 7 + 3) (.int .i64 (min (s.low u : Int) (s.low v : Int))))[v * 7 + 4]? = some (.int .i64 (s.num v)) := by rw [List.getElem?_set_ne (by omega)]; exact hvm
      (try simp only [uA] at hA); have hF := hA.facts; (try simp only [fZ] at hF)
      go_wp2_with (first | ((with_reducible refine gst ?_); refine wS hA ?_; clear hF hA; intro w1 hA; (try simp only [uA] at hA); have hF := hA.facts; (try simp only [fZ] at hF)) | ((with_reducible refine gbx ?_); refine wB hA ?_; clear hF hA; intro b1 w1 hA hb1; (try simp only [uA] at hA); have hF := hA.facts; (try simp only [fZ] at hF)))
      try go_frame
      (refine wp_region_all (Cl _ _ _) (by kernel_rfl) (by kernel_rfl) (Cl.drew hA) ?_); (have hn1 := Cl.none hA); (have hn2 := Cl.none2 hA); (repeat (first | go_big_quiet_skip | (go_big_quiet_want; (first | (refine quiet_load_at rfl rfl sR (by kernel_rfl) (by first | assumption | exact rfl) ?_; go_frame; go_big_quiet_on) | (go_big_quiet_op; (first | go_big_quiet_on | ((apply Exists.intro); (refine ⟨fun w1 hw => ?_, ?_⟩); (focus ((have hw := Cl.out hw); (fail))); (go_big_quiet_on))))))))
      (refine wpQuiet_nil ?_); (intro w1 hB); (clear hF hA hn1 hn2); (have hA := Cl.out hB); (clear hB); (try simp only [uA] at hA); have hF := hA.facts; (try simp only [fZ] at hF)
      have hB := hA.row_shut (e := 131) (size := 2) (g := gW) (c := cW) (n := w2.length + 1) (cap := capw) (xs := flatF ((u, b) :: w2).reverse) sZ hwc3 (by omega) hwc2 hrst.out
      clear hA; have hA := hB; clear hB
      have hB := hA.row_shut (e := 100) (size := 7) (g := bN) (c := c.set (u * 7 + 3) (.int .i64 (min (s.low u : Int) (s.low v : Int)))) (n := N.length) (cap := cap) (xs := flatN (ndL N { s with wk := (u, b) :: w2, low := up s.low u (min (s.low u) (s.low v)) })) sZ (by simp only [List.length_set]; exact hc3) hc1 hc2 hwl3.out
      clear hA; have hA := hB; clear hB
      have hK : At [KnP kp (some ⟨bN, 0, none⟩) cap sv (.slice (some ⟨gW, 0, none⟩) ((w2.length + 1) + 1) capw) N s] w [KnP kp (some ⟨bN, 0, none⟩) cap sv (.slice (some ⟨gW, 0, none⟩) (w2.length + 1) capw) N { s with wk := (u, b) :: w2, low := up s.low u (min (s.low u) (s.low v)) }] _ := kn_end (by rw [show Part.row 131 2 (.slice (some ⟨gW, 0, none⟩) (w2.length + 1) capw) (w2.length + 1) (flatF ((u, b) :: w2).reverse) = rowF (.slice (some ⟨gW, 0, none⟩) (w2.length + 1) capw) ((u, b) :: w2).reverse from rowF_len _ ((u, b) :: w2)] at hA; have hC := hA; exact hC.pick pZ)
      clear hF hA
      have hA := hK
      clear hK
      have hst : Tar.step (nxF N) s = if (Tar.leave s v ((u, b) :: w2)).low v = s.num v then Tar.close (Tar.leave s v ((u, b) :: w2)) v else Tar.leave s v ((u, b) :: w2) := by unfold Tar.step; rw [hw'.out]; simp only [hgn.out]
      have hlv : (Tar.leave s v ((u, b) :: w2)).low v = s.low v := up_other _ _ (fun e => huv e.symm)
      rw [hlv] at hst
      have hst' := Lib.hid hst
      clear hst hlv
      by_cases heq : s.low v = s.num v
      · have heq' := Lib.hid heq
        have hde : decide ((s.low v : Int) = (s.num v : Int)) = true := by simp; omega
        have hde2 : ((s.low v : Int) == (s.num v : Int)) = true := by simp; omega
        clear heq
        go_wp2_with (first | ((with_reducible refine gst ?_); refine wS hA ?_; clear hF hA; intro w1 hA; (try simp only [uA] at hA); have hF := hA.facts; (try simp only [fZ] at hF)) | ((with_reducible refine gbx ?_); refine wB hA ?_; clear hF hA; intro b1 w1 hA hb1; (try simp only [uA] at hA); have hF := hA.facts; (try simp only [fZ] at hF)))
        have hsm : Sm N { s with wk := (u, b) :: w2, low := up s.low u (min (s.low u) (s.low v)) } := ⟨hs1, hs2, hs3, hs4, by show w2.length + 1 ≤ 100000; omega⟩
        refine (close_any hA.sep hmemS hltS.out hsm).mono ?_
        rintro e w5 ⟨sv5, wv5, rfl, hT⟩
        have hB := hA.call1 .here hT
        clear hA hT; have hA := hB; clear hB
        simp only [List.cons_append, List.nil_append] at hA
        go_wp2_with (first | ((with_reducible refine gst ?_); refine wS hA ?_; clear hF hA; intro w1 hA; (try simp only [uA] at hA); have hF := hA.facts; (try simp only [fZ] at hF)) | ((with_reducible refine gbx ?_); refine wB hA ?_; clear hF hA; intro b1 w1 hA hb1; (try simp only [uA] at hA); have hF := hA.facts; (try simp only [fZ] at hF)))
        go_end0
        refine ⟨sv5, wv5, rfl, ?_⟩
        rw [hst'.out, if_pos heq'.out]
        exact hA
      · have heq' := Lib.hid heq
        have hde : decide ((s.low v : Int) = (s.num v : Int)) = false := by simp; omega
        have hde2 : ((s.low v : Int) == (s.num v : Int)) = false := by simp; omega
        clear heq
        go_wp2_with (first | ((with_reducible refine gst ?_); refine wS hA ?_; clear hF hA; intro w1 hA; (try simp only [uA] at hA); have hF := hA.facts; (try simp only [fZ] at hF)) | ((with_reducible refine gbx ?_); refine wB hA ?_; clear hF hA; intro b1 w1 hA hb1; (try simp only [uA] at hA); have hF := hA.facts; (try simp only [fZ] at hF)))
        go_end0
        refine ⟨sv, .slice (some ⟨gW, 0, none⟩) (w2.length + 1) capw, rfl, ?_⟩
        rw [hst'.out, if_neg heq'.out]
        exact hA
    · skip
      refine opLoad1_at (i := 8) (d := some 132) (b := bN) (j := v * 7 + 3) rfl rfl (by kernel_rfl) rfl (by exact rfl) hA sZ (by kernel_rfl) hvl ?_
      refine ⟨trivial, ?_⟩
      try go_frame
      refine wpAnyH_one (i := 4) (by kernel_rfl) ?_
      refine opLoad1_at (i := 4) (d := some 128) (b := bN) (j := u * 7 + 3) rfl rfl (by kernel_rfl) rfl (by exact rfl) hA sZ (by kernel_rfl) hul ?_
      refine ⟨trivial, ?_⟩
      try go_frame
      refine tZ 9 133 (.int .i64 (min (s.low u : Int) (s.low v : Int))) (r := (fun w' hS => by simp [execOp, go_sem, Act.eval, Act.put])) (s := trivial) (h := ?_)
      go_frame
      refine tP 10 134 (.pointer (some ⟨bN, u * 7, none⟩)) (s := trivial) (h := ?_)
      go_frame
      refine tP 11 135 (.pointer (some ⟨bN, u * 7 + 3, none⟩)) (s := trivial) (h := ?_)
      go_frame
      refine wpAnyH_one (i := 12) (by kernel_rfl) ?_
      refine opStore_at (b := bN) (j := u * 7 + 3) (vs := [.int .i64 (min (s.low u : Int) (s.low v : Int))]) rfl rfl (by kernel_rfl) rfl (by exact rfl) (by exact rfl) rfl hA sZ (by kernel_rfl) rfl (by show u * 7 + 3 + 1 ≤ c.length; omega) ?_
      intro w3 hB
      clear hA; have hA := hB; clear hB
      refine ⟨trivial, ?_⟩
      try go_frame
      refine wpAnyH_done (by kernel_rfl) ?_ _
      try go_frame
      (try simp only [uA] at hA)
      have hwl2 := low_write hc4'.out hdu'.out (min (s.low u) (s.low v))
      rw [show ((min (s.low u) (s.low v) : Nat) : Int) = min (s.low u : Int) (s.low v : Int) from by omega] at hwl2
      have hwl3 := Lib.hid hwl2
      clear hwl2
      have hvl2 : (c.set (u * 7 + 3) (.int .i64 (min (s.low u : Int) (s.low v : Int))))[v * 7 + 3]? = some (.int .i64 (s.low v)) := by rw [List.getElem?_set_ne (by omega)]; exact hvl
      have hvm2 : (c.set (u * 7 + 3) (.int .i64 (min (s.low u : Int) (s.low v : Int))))[v * 7 + 4]? = some (.int .i64 (s.num v)) := by rw [List.getElem?_set_ne (by omega)]; exact hvm
      (try simp only [uA] at hA); have hF := hA.facts; (try simp only [fZ] at hF)
      go_wp2_with (first | ((with_reducible refine gst ?_); refine wS hA ?_; clear hF hA; intro w1 hA; (try simp only [uA] at hA); have hF := hA.facts; (try simp only [fZ] at hF)) | ((with_reducible refine gbx ?_); refine wB hA ?_; clear hF hA; intro b1 w1 hA hb1; (try simp only [uA] at hA); have hF := hA.facts; (try simp only [fZ] at hF)))
      try go_frame
      (refine wp_region_all (Cl _ _ _) (by kernel_rfl) (by kernel_rfl) (Cl.drew hA) ?_); (have hn1 := Cl.none hA); (have hn2 := Cl.none2 hA); (repeat (first | go_big_quiet_skip | (go_big_quiet_want; (first | (refine quiet_load_at rfl rfl sR (by kernel_rfl) (by first | assumption | exact rfl) ?_; go_frame; go_big_quiet_on) | (go_big_quiet_op; (first | go_big_quiet_on | ((apply Exists.intro); (refine ⟨fun w1 hw => ?_, ?_⟩); (focus ((have hw := Cl.out hw); (fail))); (go_big_quiet_on))))))))
      (refine wpQuiet_nil ?_); (intro w1 hB); (clear hF hA hn1 hn2); (have hA := Cl.out hB); (clear hB); (try simp only [uA] at hA); have hF := hA.facts; (try simp only [fZ] at hF)
      have hB := hA.row_shut (e := 131) (size := 2) (g := gW) (c := cW) (n := w2.length + 1) (cap := capw) (xs := flatF ((u, b) :: w2).reverse) sZ hwc3 (by omega) hwc2 hrst.out
      clear hA; have hA := hB; clear hB
      have hB := hA.row_shut (e := 100) (size := 7) (g := bN) (c := c.set (u * 7 + 3) (.int .i64 (min (s.low u : Int) (s.low v : Int)))) (n := N.length) (cap := cap) (xs := flatN (ndL N { s with wk := (u, b) :: w2, low := up s.low u (min (s.low u) (s.low v)) })) sZ (by simp only [List.length_set]; exact hc3) hc1 hc2 hwl3.out
      clear hA; have hA := hB; clear hB
      have hK : At [KnP kp (some ⟨bN, 0, none⟩) cap sv (.slice (some ⟨gW, 0, none⟩) ((w2.length + 1) + 1) capw) N s] w [KnP kp (some ⟨bN, 0, none⟩) cap sv (.slice (some ⟨gW, 0, none⟩) (w2.length + 1) capw) N { s with wk := (u, b) :: w2, low := up s.low u (min (s.low u) (s.low v)) }] _ := kn_end (by rw [show Part.row 131 2 (.slice (some ⟨gW, 0, none⟩) (w2.length + 1) capw) (w2.length + 1) (flatF ((u, b) :: w2).reverse) = rowF (.slice (some ⟨gW, 0, none⟩) (w2.length + 1) capw) ((u, b) :: w2).reverse from rowF_len _ ((u, b) :: w2)] at hA; have hC := hA; exact hC.pick pZ)
      clear hF hA
      have hA := hK
      clear hK
      have hst : Tar.step (nxF N) s = if (Tar.leave s v ((u, b) :: w2)).low v = s.num v then Tar.close (Tar.leave s v ((u, b) :: w2)) v else Tar.leave s v ((u, b) :: w2) := by unfold Tar.step; rw [hw'.out]; simp only [hgn.out]
      have hlv : (Tar.leave s v ((u, b) :: w2)).low v = s.low v := up_other _ _ (fun e => huv e.symm)
      rw [hlv] at hst
      have hst' := Lib.hid hst
      clear hst hlv
      by_cases heq : s.low v = s.num v
      · have heq' := Lib.hid heq
        have hde : decide ((s.low v : Int) = (s.num v : Int)) = true := by simp; omega
        have hde2 : ((s.low v : Int) == (s.num v : Int)) = true := by simp; omega
        clear heq
        go_wp2_with (first | ((with_reducible refine gst ?_); refine wS hA ?_; clear hF hA; intro w1 hA; (try simp only [uA] at hA); have hF := hA.facts; (try simp only [fZ] at hF)) | ((with_reducible refine gbx ?_); refine wB hA ?_; clear hF hA; intro b1 w1 hA hb1; (try simp only [uA] at hA); have hF := hA.facts; (try simp only [fZ] at hF)))
        have hsm : Sm N { s with wk := (u, b) :: w2, low := up s.low u (min (s.low u) (s.low v)) } := ⟨hs1, hs2, hs3, hs4, by show w2.length + 1 ≤ 100000; omega⟩
        refine (close_any hA.sep hmemS hltS.out hsm).mono ?_
        rintro e w5 ⟨sv5, wv5, rfl, hT⟩
        have hB := hA.call1 .here hT
        clear hA hT; have hA := hB; clear hB
        simp only [List.cons_append, List.nil_append] at hA
        go_wp2_with (first | ((with_reducible refine gst ?_); refine wS hA ?_; clear hF hA; intro w1 hA; (try simp only [uA] at hA); have hF := hA.facts; (try simp only [fZ] at hF)) | ((with_reducible refine gbx ?_); refine wB hA ?_; clear hF hA; intro b1 w1 hA hb1; (try simp only [uA] at hA); have hF := hA.facts; (try simp only [fZ] at hF)))
        go_end0
        refine ⟨sv5, wv5, rfl, ?_⟩
        rw [hst'.out, if_pos heq'.out]
        exact hA
      · have heq' := Lib.hid heq
        have hde : decide ((s.low v : Int) = (s.num v : Int)) = false := by simp; omega
        have hde2 : ((s.low v : Int) == (s.num v : Int)) = false := by simp; omega
        clear heq
        go_wp2_with (first | ((with_reducible refine gst ?_); refine wS hA ?_; clear hF hA; intro w1 hA; (try simp only [uA] at hA); have hF := hA.facts; (try simp only [fZ] at hF)) | ((with_reducible refine gbx ?_); refine wB hA ?_; clear hF hA; intro b1 w1 hA hb1; (try simp only [uA] at hA); have hF := hA.facts; (try simp only [fZ] at hF)))
        go_end0
        refine ⟨sv, .slice (some ⟨gW, 0, none⟩) (w2.length + 1) capw, rfl, ?_⟩
        rw [hst'.out, if_neg heq'.out]
        exact hA
theorem step_any {w : World} {kp : Nat} {ax : Option Addr} {cap : Nat} {sv wv : Value} {N : List Nd} {s : TS} (h : Sep [KnP kp ax cap sv wv N s] w) (hi : Tar.Inv (nxF N) N.length s) (hnn : ∀ x, x < N.length → ∀ y ∈ nxF N x, y < N.length) (hw : s.wk ≠ []) (hs : Sm N s) (hnx : ∀ (i : Nat) (d : Nd), N[i]? = some d → d.nx.length ≤ 1000) :
    Calls Try.prog 61 #[.pointer (some ⟨kp, 0, none⟩)] w (KnPost kp ax cap sv wv N s (Tar.step (nxF N) s) w) := by
  cases hwk : s.wk with
  | nil => exact absurd hwk hw
  | cons p w' =>
    obtain ⟨v, a⟩ := p
    rcases Nat.lt_or_ge a (nxF N v).length with hlt | hge
    · exact step_edge h hi hnn hwk hs hnx hlt
    · cases w' with
      | nil => exact step_nil h hi hnn hwk hs hnx hge
      | cons q w2 => exact step_cons h hi hnn hwk hs hnx hge
end Go.Proofs.Ytgicohkmfbbbdaa.Gr
end
