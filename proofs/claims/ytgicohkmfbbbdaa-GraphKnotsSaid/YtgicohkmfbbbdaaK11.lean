/- GraK, GraP, joined. -/
import Derived.Test.YtgicohkmfbbbdaaK10
import Derived.Laws.OwnMore
section
namespace Go.Proofs.Ytgicohkmfbbbdaa.Gr
open _root_.Go.Proofs.Ytgicohkmfbbbdaa.Mark (ltID sortID)
open _root_.Go.Proofs.Ytgicohkmfbbbdaa.Attr (guardI eqlI_any neqI_any)
open Go.RowKit
set_option linter.unusedSimpArgs false
set_option linter.unusedVariables false
attribute [-go_sem] run_eql_struct run_neq_struct run_eqGuard_agg
attribute [local go_sem] guardI eqlI_any neqI_any

theorem dd_one (l : List I2) (h : l.length < 2) : dd l = l := by
  match l, h with
  | [], _ => rfl
  | [x], _ => rfl
def CpRel (w : World) (v : Value) (l : List I2) (k : Nat) (u : Value) (wr : World) : Prop :=
  ∃ j : Nat, u = .int .i64 ((j : Int) + 1) ∧ j + 1 + k = l.length ∧ dd (l.take (j + 1)) = l.take (j + 1) ∧ At [rowI2 v l] w [rowI2 v l] wr
def CpIn (w : World) (v : Value) (l : List I2) (g cap j : Nat) (m : Nat) (u5 u3 : Value) (wr : World) : Prop :=
  ∃ (i k : Nat) (lc : List I2) (c : List Value), u5 = .int .i64 ((i : Int) + 1) ∧ u3 = .int .i64 k ∧ j + 1 + i + 1 + m = l.length ∧ 1 ≤ k ∧ k ≤ j + 1 + i ∧ lc.length = l.length ∧
    lc.take k = dd (l.take (j + 1 + i + 1)) ∧ lc.drop (j + 1 + i) = l.drop (j + 1 + i) ∧ c.length = cap * 2 ∧ c.take (l.length * 2) = flatI lc ∧ At [rowI2 v l] w [Part.cells g c 38] wr
theorem cells_run {L0 L F : List Part} {w0 w : World} {g : Nat} {c : List Value} {T : TypeId} {o n : Nat} {vs : List Value} (h : At L0 w0 L w) (s : Sel (Part.cells g c T) L F) (hv : (c.drop o).take n = vs) : ∀ (k : Nat) u, vs[k]? = some u → w.cell? ⟨g, o + k, none⟩ = some u := by
  intro k u hk
  have hb : BlockIs w g c T := h.get s
  rw [← hv] at hk
  have hkn : k < n := by
    have := (List.getElem?_eq_some_iff.1 hk).1
    rw [List.length_take] at this
    omega
  rw [List.getElem?_take, if_pos hkn, List.getElem?_drop] at hk
  rw [hb.cell, hk]
theorem drop_at {α : Type} {l m : List α} {n i : Nat} (h : l.drop n = m.drop n) (hi : n ≤ i) : l[i]? = m[i]? := by
  have := congrArg (fun x => x[i - n]?) h
  simp only [List.getElem?_drop] at this
  rwa [show n + (i - n) = i by omega] at this
set_option maxRecDepth 100000 in
set_option maxHeartbeats 2000000 in
theorem compact_any {w : World} {v : Value} {l : List I2} (h : Sep [rowI2 v l] w) (hl : l.length ≤ 1000000) :
    Calls Try.prog 59 #[v] w (RowPost [rowI2 v l] (dd l) [] w) := by
  have hA := At.start h
  have hF := hA.facts
  clear h
  obtain ⟨ax, cap, hv, hax, hcp, _⟩ := hA.row_form .here
  subst hv
  have hax' := Lib.hid hax
  clear hax
  (try simp only [uA] at hA); have hF := hA.facts; (try simp only [fZ] at hF)
  go_enter Try.func59, Try.ntmps59
  by_cases h2 : l.length < 2
  · go_wp2_with (first | ((with_reducible refine gst ?_); refine wS hA ?_; clear hF hA; intro w1 hA; (try simp only [uA] at hA); have hF := hA.facts; (try simp only [fZ] at hF)) | ((with_reducible refine gbx ?_); refine wB hA ?_; clear hF hA; intro b1 w1 hA hb1; (try simp only [uA] at hA); have hF := hA.facts; (try simp only [fZ] at hF)))
    go_ret
    exact ⟨_, rfl, by rw [dd_one l h2]; exact hA⟩
  · go_wp2_with (first | ((with_reducible refine gst ?_); refine wS hA ?_; clear hF hA; intro w1 hA; (try simp only [uA] at hA); have hF := hA.facts; (try simp only [fZ] at hF)) | ((with_reducible refine gbx ?_); refine wB hA ?_; clear hF hA; intro b1 w1 hA hb1; (try simp only [uA] at hA); have hF := hA.facts; (try simp only [fZ] at hF)))
    try go_frame
    go_loopg [3] (l.length - 1) (CpRel w (.slice ax l.length cap) l)
    case atStart => exact ⟨0, rfl, by omega, dd_one _ (by simp; omega), hA⟩
    case round =>
      obtain ⟨j, rfl, hjk, hdd, hB⟩ := hrel
      have hdd' := Lib.hid hdd
      clear hF hA hdd; have hA := hB; clear hB
      by_cases hj : j + 1 < l.length
      · obtain ⟨g, c, hg1, _, hc2, hc3, hc4, hB⟩ := hA.row_open (ax := ax) (cap := cap) (n := l.length) (xs := flatI l) .here (by omega)
        have hg1' := Lib.hid hg1
        have he1 := elem2 hc4 (q := j + 1) (List.getElem?_eq_getElem hj)
        have he0 := elem2 hc4 (q := j) (List.getElem?_eq_getElem (by omega))
        have hnx := Lib.hid (dd_take hj)
        have hl0 : (l[j + 1] = l[j]) = ((l[j + 1].1, l[j + 1].2) = (l[j].1, l[j].2)) := rfl
        generalize hy : l[j + 1] = y at *
        have hy' := Lib.hid hy
        clear hy
        generalize l[j] = x at *
        obtain ⟨r1, t1⟩ := y
        obtain ⟨r0, t0⟩ := x
        simp only [idL] at he0 he1
        subst hg1
        clear hA hg1' hl0; have hA := hB; clear hB
        (try simp only [uA] at hA); have hF := hA.facts; (try simp only [fZ] at hF)
        obtain ⟨d, hd⟩ : ∃ d, (decide (r1 = r0) && decide (t1 = t0)) = d := ⟨_, rfl⟩
        have hd' := Lib.hid (show d = decide ((r1, t1) = (r0, t0)) from by rw [← hd, Bool.eq_iff_iff]; simp)
        have hwr : IntKind.i64.wrap ((j : Int) + 1 - 1) = j := by rw [IntKind.wrap_i64] <;> omega
        have hwj : IntKind.i64.wrap (j : Int) = j := by rw [IntKind.wrap_i64] <;> omega
        cases d
        · go_wp2_with (first | ((with_reducible refine gst ?_); refine wS hA ?_; clear hF hA; intro w1 hA; (try simp only [uA] at hA); have hF := hA.facts; (try simp only [fZ] at hF)) | ((with_reducible refine gbx ?_); refine wB hA ?_; clear hF hA; intro b1 w1 hA hb1; (try simp only [uA] at hA); have hF := hA.facts; (try simp only [fZ] at hF)))
          try go_frame
          (refine wp_region_all (Cl _ _ _) (by kernel_rfl) (by kernel_rfl) (Cl.drew hA) ?_); (have hn1 := Cl.none hA); (have hn2 := Cl.none2 hA); (repeat (first | go_big_quiet_skip | (go_big_quiet_want; (first | (refine quiet_loads_at (ty := 38) (n := 2) rfl rfl sR (by kernel_rfl) (by kernel_rfl) (by first | assumption | ((try simp only [List.drop_succ_cons, List.drop_zero, List.take_succ_cons, List.take_zero]) <;> exact rfl)) (by exact rfl) ?_; go_frame; go_big_quiet_on) | (refine quiet_load_at rfl rfl sR (by kernel_rfl) (by first | assumption | exact rfl) ?_; go_frame; go_big_quiet_on) | (go_big_quiet_op; (first | go_big_quiet_on | ((apply Exists.intro); (refine ⟨fun w1 hw => ?_, ?_⟩); (focus ((have hw := Cl.out hw); (fail))); (go_big_quiet_on))))))))
          (refine wpQuiet_nil ?_); (intro w1 hB); (clear hF hA hn1 hn2); (have hA := Cl.out hB); (clear hB); (try simp only [uA] at hA); have hF := hA.facts; (try simp only [fZ] at hF)
          go_wp2_with (first | ((with_reducible refine gst ?_); refine wS hA ?_; clear hF hA; intro w1 hA; (try simp only [uA] at hA); have hF := hA.facts; (try simp only [fZ] at hF)) | ((with_reducible refine gbx ?_); refine wB hA ?_; clear hF hA; intro b1 w1 hA hb1; (try simp only [uA] at hA); have hF := hA.facts; (try simp only [fZ] at hF)))
          go_roundg (gk - 1)
          case measure => omega
          case rel => exact ⟨j + 1, by simp, by omega, by rw [hnx.out, hdd'.out, if_neg (of_decide_eq_false hd'.out.symm), List.take_succ_eq_append_getElem hj, hy'.out], hA.row_shut .here hc3 hcp hc2 hc4⟩
        · have hst := Lib.hid (show l.take (j + 1) = dd (l.take (j + 1 + 0 + 1)) from by rw [hnx.out, hdd'.out, if_pos (of_decide_eq_true hd'.out.symm), List.append_nil])
          go_wp2_with (first | ((with_reducible refine gst ?_); refine wS hA ?_; clear hF hA; intro w1 hA; (try simp only [uA] at hA); have hF := hA.facts; (try simp only [fZ] at hF)) | ((with_reducible refine gbx ?_); refine wB hA ?_; clear hF hA; intro b1 w1 hA hb1; (try simp only [uA] at hA); have hF := hA.facts; (try simp only [fZ] at hF)))
          try go_frame
          (refine wp_region_all (Cl _ _ _) (by kernel_rfl) (by kernel_rfl) (Cl.drew hA) ?_); (have hn1 := Cl.none hA); (have hn2 := Cl.none2 hA); (repeat (first | go_big_quiet_skip | (go_big_quiet_want; (first | (refine quiet_loads_at (ty := 38) (n := 2) rfl rfl sR (by kernel_rfl) (by kernel_rfl) (by first | assumption | ((try simp only [List.drop_succ_cons, List.drop_zero, List.take_succ_cons, List.take_zero]) <;> exact rfl)) (by exact rfl) ?_; go_frame; go_big_quiet_on) | (refine quiet_load_at rfl rfl sR (by kernel_rfl) (by first | assumption | exact rfl) ?_; go_frame; go_big_quiet_on) | (go_big_quiet_op; (first | go_big_quiet_on | ((apply Exists.intro); (refine ⟨fun w1 hw => ?_, ?_⟩); (focus ((have hw := Cl.out hw); (fail))); (go_big_quiet_on))))))))
          (refine wpQuiet_nil ?_); (intro w1 hB); (clear hF hA hn1 hn2); (have hA := Cl.out hB); (clear hB); (try simp only [uA] at hA); have hF := hA.facts; (try simp only [fZ] at hF)
          clear hd hd' hnx hdd' he0 he1 hwr hwj
          go_wp2_with (first | ((with_reducible refine gst ?_); refine wS hA ?_; clear hF hA; intro w1 hA; (try simp only [uA] at hA); have hF := hA.facts; (try simp only [fZ] at hF)) | ((with_reducible refine gbx ?_); refine wB hA ?_; clear hF hA; intro b1 w1 hA hb1; (try simp only [uA] at hA); have hF := hA.facts; (try simp only [fZ] at hF)))
          try go_frame
          have hjt : decide ((j : Int) + 1 < (l.length : Int)) = true := by simp; omega
          try simp only [hjt]
          clear hjt
          go_loopg [5, 3] (l.length - (j + 2)) (CpIn w (.slice (some ⟨g, 0, none⟩) l.length cap) l g cap j)
          case atStart => exact ⟨0, j + 1, l, c, rfl, rfl, by omega, by omega, by omega, rfl, hst.out, rfl, hc3, hc4, hA⟩
          case round =>
            clear hc3 hc4 hst
            obtain ⟨i, k, lc, c, rfl, rfl, him, hk1, hk2, hlc, htk, hdr, hc3, hc4, hB⟩ := hrel
            have htk' := Lib.hid htk
            have hdr' := Lib.hid hdr
            have hlc' := Lib.hid hlc
            clear hF hA htk hdr hlc; have hA := hB; clear hB
            by_cases hi : j + 1 + (i + 1) < l.length
            · have e1 : lc[j + 1 + (i + 1)]? = some l[j + 1 + (i + 1)] := (drop_at hdr'.out (by omega)).trans (List.getElem?_eq_getElem hi)
              have e0 : lc[j + 1 + i]? = some l[j + 1 + i] := (drop_at hdr'.out (by omega)).trans (List.getElem?_eq_getElem (by omega))
              have hc4' : c.take (lc.length * 2) = flatI lc := by rw [hlc'.out]; exact hc4
              have he1 := elem2 hc4' e1
              have he0 := elem2 hc4' e0
              have hnx := Lib.hid (dd_take (l := l) (k := j + 1 + i) hi)
              have hwrt := Lib.hid (write_row idL_len hc4' (i := k) (by rw [hlc'.out]; omega) l[j + 1 + (i + 1)])
              have hdl := Lib.hid (show (lc.set k l[j + 1 + (i + 1)]).drop (j + 1 + (i + 1)) = l.drop (j + 1 + (i + 1)) from by rw [List.drop_set_of_lt (by omega)]; have := congrArg (List.drop 1) hdr'.out; simpa [List.drop_drop, Nat.add_assoc] using this)
              have htl := Lib.hid (show (lc.set k l[j + 1 + (i + 1)]).take (k + 1) = dd (l.take (j + 1 + i + 1)) ++ [l[j + 1 + (i + 1)]] from by rw [List.take_succ_eq_append_getElem (by rw [List.length_set, hlc'.out]; omega), List.take_set_of_le (Nat.le_refl _), htk'.out, List.getElem_set_self])
              have hd1 := Lib.hid (show lc.drop (j + 1 + (i + 1)) = l.drop (j + 1 + (i + 1)) from by have := congrArg (List.drop 1) hdr'.out; simpa [List.drop_drop, Nat.add_assoc] using this)
              clear e0 e1
              generalize l[j + 1 + (i + 1)] = y at *
              have hnx2 := Lib.hid (show dd (l.take (j + 1 + i + 2)) = dd (l.take (j + 1 + i + 1)) ++ (if y = l[j + 1 + i] then [] else [y]) from hnx.out)
              clear hnx
              generalize l[j + 1 + i] = x at *
              obtain ⟨r1, t1⟩ := y
              obtain ⟨r0, t0⟩ := x
              simp only [idL] at he0 he1
              rw [show (j + 1 + (i + 1)) * 2 = (j + 1) * 2 + (i + 1) * 2 by omega] at he1
              rw [show (j + 1 + i) * 2 = (j + 1) * 2 + i * 2 by omega] at he0
              obtain ⟨d, hd⟩ : ∃ d, (decide (r1 = r0) && decide (t1 = t0)) = d := ⟨_, rfl⟩
              have hd' := Lib.hid (show d = decide ((r1, t1) = (r0, t0)) from by rw [← hd, Bool.eq_iff_iff]; simp)
              have hwr : IntKind.i64.wrap ((i : Int) + 1 - 1) = i := by rw [IntKind.wrap_i64] <;> omega
              have hwj : IntKind.i64.wrap (i : Int) = i := by rw [IntKind.wrap_i64] <;> omega
              (try simp only [uA] at hA); have hF := hA.facts; (try simp only [fZ] at hF)
              cases d
              · go_wp2_with (first | ((with_reducible refine gst ?_); refine wS hA ?_; clear hF hA; intro w1 hA; (try simp only [uA] at hA); have hF := hA.facts; (try simp only [fZ] at hF)) | ((with_reducible refine gbx ?_); refine wB hA ?_; clear hF hA; intro b1 w1 hA hb1; (try simp only [uA] at hA); have hF := hA.facts; (try simp only [fZ] at hF)))
                try go_frame
                (refine wp_region_all (Cl _ _ _) (by kernel_rfl) (by kernel_rfl) (Cl.drew hA) ?_); (have hn1 := Cl.none hA); (have hn2 := Cl.none2 hA); (repeat (first | go_big_quiet_skip | (go_big_quiet_want; (first | (refine quiet_loads_at (ty := 38) (n := 2) rfl rfl sR (by kernel_rfl) (by kernel_rfl) (by first | assumption | ((try simp only [List.drop_succ_cons, List.drop_zero, List.take_succ_cons, List.take_zero]) <;> exact rfl)) (by exact rfl) ?_; go_frame; go_big_quiet_on) | (refine quiet_load_at rfl rfl sR (by kernel_rfl) (by first | assumption | exact rfl) ?_; go_frame; go_big_quiet_on) | (go_big_quiet_op; (first | go_big_quiet_on | ((apply Exists.intro); (refine ⟨fun w1 hw => ?_, ?_⟩); (focus ((have hw := Cl.out hw); (fail))); (go_big_quiet_on))))))))
                (refine wpQuiet_nil ?_); (intro w1 hB); (clear hF hA hn1 hn2); (have hA := Cl.out hB); (clear hB); (try simp only [uA] at hA); have hF := hA.facts; (try simp only [fZ] at hF)
                rw [if_neg (of_decide_eq_false hd'.out.symm)] at hnx2
                go_wp2_with (first | ((with_reducible show wpList _ _ _ ({ dst := some 50, op := Op.load _ _, type := _, pos := _, after := _, guard := _ } :: _) _ _); refine wpList_loadRow_at (vs := [.int .i64 r1, .int .i64 t1]) rfl rfl (by (try simp only [Act.eval, eV]) <;> exact rfl) (cells_run hA .here he1) (by kernel_rfl) (by kernel_rfl) ?_) | ((with_reducible refine gst ?_); refine wpList_store_at (b := g) (j := k * 2) (c := c) (vs := idL (r1, t1)) rfl rfl rfl (by (try simp only [Act.eval, eV]) <;> exact rfl) (by exact rfl) hA sR (by kernel_rfl) rfl (by show k * 2 + 2 ≤ c.length; omega) ?_; intro w1 hB; clear hF hA; have hA := hB; clear hB))
                go_roundg (gk - 1)
                case measure => omega
                case rel => exact ⟨i + 1, k + 1, lc.set k (r1, t1), _, by simp, by simp, by omega, by omega, by omega, by rw [List.length_set, hlc'.out], by rw [htl.out]; exact hnx2.out.symm, hdl.out, by rw [setL_length]; exact hc3, by have := hwrt.out; rw [List.length_set, hlc'.out] at this; exact this, hA⟩
              · go_wp2_with (first | ((with_reducible refine gst ?_); refine wS hA ?_; clear hF hA; intro w1 hA; (try simp only [uA] at hA); have hF := hA.facts; (try simp only [fZ] at hF)) | ((with_reducible refine gbx ?_); refine wB hA ?_; clear hF hA; intro b1 w1 hA hb1; (try simp only [uA] at hA); have hF := hA.facts; (try simp only [fZ] at hF)))
                try go_frame
                (refine wp_region_all (Cl _ _ _) (by kernel_rfl) (by kernel_rfl) (Cl.drew hA) ?_); (have hn1 := Cl.none hA); (have hn2 := Cl.none2 hA); (repeat (first | go_big_quiet_skip | (go_big_quiet_want; (first | (refine quiet_loads_at (ty := 38) (n := 2) rfl rfl sR (by kernel_rfl) (by kernel_rfl) (by first | assumption | ((try simp only [List.drop_succ_cons, List.drop_zero, List.take_succ_cons, List.take_zero]) <;> exact rfl)) (by exact rfl) ?_; go_frame; go_big_quiet_on) | (refine quiet_load_at rfl rfl sR (by kernel_rfl) (by first | assumption | exact rfl) ?_; go_frame; go_big_quiet_on) | (go_big_quiet_op; (first | go_big_quiet_on | ((apply Exists.intro); (refine ⟨fun w1 hw => ?_, ?_⟩); (focus ((have hw := Cl.out hw); (fail))); (go_big_quiet_on))))))))
                (refine wpQuiet_nil ?_); (intro w1 hB); (clear hF hA hn1 hn2); (have hA := Cl.out hB); (clear hB); (try simp only [uA] at hA); have hF := hA.facts; (try simp only [fZ] at hF)
                rw [if_pos (of_decide_eq_true hd'.out.symm), List.append_nil] at hnx2
                go_wp2_with (first | ((with_reducible refine gst ?_); refine wS hA ?_; clear hF hA; intro w1 hA; (try simp only [uA] at hA); have hF := hA.facts; (try simp only [fZ] at hF)) | ((with_reducible refine gbx ?_); refine wB hA ?_; clear hF hA; intro b1 w1 hA hb1; (try simp only [uA] at hA); have hF := hA.facts; (try simp only [fZ] at hF)))
                go_roundg (gk - 1)
                case measure => omega
                case rel => exact ⟨i + 1, k, lc, c, by simp, rfl, by omega, by omega, by omega, hlc'.out, by rw [htk'.out]; exact hnx2.out.symm, hd1.out, hc3, hc4, hA⟩
            · have hkd : (dd l).length = k := by
                have := congrArg List.length htk'.out
                rw [List.take_of_length_le (l := l) (by omega), List.length_take, hlc'.out] at this
                omega
              have hfl : flatI (dd l) = (flatI lc).take (k * 2) := by
                rw [flatI_take, htk'.out, List.take_of_length_le (by omega)]
              have hkd' := Lib.hid hkd
              have hfl' := Lib.hid hfl
              clear hkd hfl
              (try simp only [uA] at hA); have hF := hA.facts; (try simp only [fZ] at hF)
              go_wp2_with (first | (refine wpList_clear_at (e := 38) (z := .agg #[.int .i64 0, .int .i64 0]) (b := g) (off := k * 2) (m := l.length - k) (cp := cap - k) (c := c) (T := 38) rfl rfl Try.underlying31 (fun _ => by kernel_rfl) (idL_one (0, 0)) (by decide) (by (try simp only [Act.eval, eV]) <;> exact rfl) (by omega) hA sR (by show k * 2 + (l.length - k) * 2 ≤ c.length; omega) ?_; intro c' w1 hcl' hct2 hB; clear hF hA; have hA := hB; clear hB; (try simp only [uA] at hA); have hF := hA.facts; (try simp only [fZ] at hF)))
              go_ret
              have hS := hA.row_shut (n := k) (cap := cap) (size := 2) (xs := flatI (dd l)) sR (hcl'.trans hc3) (by omega) hc2 (by rw [hfl'.out, hct2, ← hc4, List.take_take, Nat.min_eq_left (by omega)])
              refine ⟨.slice (some ⟨g, 0, none⟩) k cap, rfl, ?_⟩
              show At _ _ [Part.row 38 2 (.slice (some ⟨g, 0, none⟩) k cap) (dd l).length (flatI (dd l))] _
              rw [hkd'.out]
              exact hS
      · have hF := hA.facts
        (try simp only [uA] at hA); have hF := hA.facts; (try simp only [fZ] at hF)
        go_wp2_with (first | ((with_reducible refine gst ?_); refine wS hA ?_; clear hF hA; intro w1 hA; (try simp only [uA] at hA); have hF := hA.facts; (try simp only [fZ] at hF)) | ((with_reducible refine gbx ?_); refine wB hA ?_; clear hF hA; intro b1 w1 hA hb1; (try simp only [uA] at hA); have hF := hA.facts; (try simp only [fZ] at hF)))
        go_ret
        exact ⟨_, rfl, by rw [show dd l = l from by have := hdd'.out; rwa [List.take_of_length_le (by omega)] at this]; exact hA⟩
end Go.Proofs.Ytgicohkmfbbbdaa.Gr
end

section
namespace Go
open _root_.Go.Proofs.Ytgicohkmfbbbdaa
open Go.RowKit
set_option linter.unusedVariables false
set_option linter.unusedSimpArgs false
theorem ext_grown {w w' : World} (h : w.grownBy w' none) : Ext w w' := by
  obtain ⟨h1, h2, h3, h4, h5⟩ := h
  exact ⟨h1, h2, h3, h4, fun k hk => h5 k hk nofun⟩
section
variable {P : Program} {ops : Array Oper} {rest : List Oper} {o : Oper} {a : Act} {Q : Exit → Act → World → Prop} {L0 L F : List Part} {w0 w : World}
/-- a row of structs is made -/
theorem wpList_makeRow_at {t e : TypeId} {i : TypeInfo} {z : Value} {size : Nat} {kl kc : IntKind} (hg : o.guard = none) (l c : Operand) (hop : o.op = .makeSlice t l c) (ht : P.underlying t = some (.slice e)) (hi : P.info? e = some i) (hz : i.zero = some z) (hsize : i.size = size)
    (n : Nat) (hl : a.eval l = .int kl (n : Int)) (hc : a.eval c = .int kc (n : Int)) (hbytes : i.bytes * n ≤ 281474976710656) (h63 : n ≤ maxLen) (h : At L0 w0 L w)
    (hK : ∀ b w', At L0 w0 (Part.row e size (.slice (some ⟨b, 0, none⟩) n n) n (madeCells z.cells (n * size)).toList :: L) w' → wpList P ops Q rest (a.put o.dst (.slice (some ⟨b, 0, none⟩) n n)) w') : wpList P ops Q (o :: rest) a w := by
  obtain ⟨w', h1, h2, h3⟩ := run_make_full (P := P) w w.heap.size t e i z size ht hi hz hsize kl kc n hbytes h63 (Nat.le_refl _)
  refine wpList_val hg ?_ (hK _ w' (h.row_new (ext_grown h3) h2))
  simp [execOp, hop, hl, hc, h1, Result.andThen]
end
end Go
namespace Go.Proofs.Ytgicohkmfbbbdaa.Gr
open _root_.Go.Proofs.Ytgicohkmfbbbdaa.Mark (ltID sortID)
open Go.RowKit
set_option linter.unusedSimpArgs false
set_option linter.unusedVariables false

theorem made_flat {α : Type} (enc : α → List Value) (size : Nat) (hs : ∀ x, (enc x).length = size) (x : α) (z : Array Value) (hz : enc x = z.toList) (n : Nat) : (madeCells z (n * size)).toList = (List.replicate n x).flatMap enc := by
  have hzs : z.size = size := by rw [← hs x, hz]; simp
  apply List.ext_getElem?
  intro j
  by_cases hj : j < n * size
  · have hs0 : 0 < size := by
      rcases Nat.eq_zero_or_pos size with q | q
      · subst q; omega
      · exact q
    have hq : j / size < n := Nat.div_lt_of_lt_mul (by rw [Nat.mul_comm]; exact hj)
    have hm : j % size < size := Nat.mod_lt _ hs0
    have h1 := flat_at enc size hs (List.replicate n x) (j / size) x (by rw [List.getElem?_replicate, if_pos hq]) (j % size) hm
    rw [show j / size * size + j % size = j from by rw [Nat.mul_comm]; exact Nat.div_add_mod j size] at h1
    rw [h1, hz]
    simp [madeCells, hj, hzs]
    rw [getElem!_pos z _ (by rw [hzs]; exact hm)]
    rw [Array.getElem?_eq_getElem (by rw [hzs]; exact hm)]
  · rw [List.getElem?_eq_none (by simp [size_madeCells]; omega), List.getElem?_eq_none (by rw [flat_len enc size hs]; simp; omega)]

/-- a node -/
structure Nd where
  id : I2
  na : Option Addr
  nc : Nat
  nx : List Nat
  low : Nat
  num : Nat
  on : Bool
  knot : Nat
def Nd.nv (d : Nd) : Value := .slice d.na d.nx.length d.nc
def Nd.cells (d : Nd) : List Value := [.int .i64 d.id.1, .int .i64 d.id.2, .slice d.na d.nx.length d.nc, .int .i64 d.low, .int .i64 d.num, .bool d.on, .int .i64 d.knot]
theorem Nd.cells_len (d : Nd) : d.cells.length = 7 := rfl
theorem Nd.ones (d : Nd) : d.cells.all (·.oneCell') = true := rfl
theorem Nd.one (d : Nd) : ∀ u ∈ d.cells, u.oneCell' = true := List.all_eq_true.1 d.ones
def flatN (L : List Nd) : List Value := L.flatMap Nd.cells
theorem flatN_len (L : List Nd) : (flatN L).length = L.length * 7 := flat_len _ _ Nd.cells_len _
abbrev rowNd (v : Value) (L : List Nd) : Part := Part.row 100 7 v L.length (flatN L)
def intL (l : List Nat) : List Value := l.map fun (k : Nat) => Value.int .i64 (k : Int)
theorem intL_len (l : List Nat) : (intL l).length = l.length := by simp [intL]
theorem intL_snoc (l : List Nat) (k : Nat) : intL l ++ [.int .i64 k] = intL (l ++ [k]) := by simp [intL]
theorem intL_one (l : List Nat) : ∀ u ∈ intL l, u.oneCell' = true := by
  intro u hu
  obtain ⟨k, _, rfl⟩ := List.mem_map.1 hu
  rfl
/-- a row of places -/
abbrev rowX (v : Value) (l : List Nat) : Part := Part.row 3 1 v l.length (intL l)
theorem rowX_snoc (v : Value) (l : List Nat) (k : Nat) : Part.row 3 1 v (l.length + 1) (intL l ++ [.int .i64 k]) = rowX v (l ++ [k]) := by
  rw [intL_snoc]
  unfold rowX
  rw [List.length_append]
  rfl
theorem infoX : (Try.prog.info? 3).map (fun i => (i.zero, i.size, i.bytes)) = some (some (.int .i64 0), 1, 8) := by kernel_rfl
/-- what the nodes have -/
def restX (L : List Nd) : Part := Part.all (L.map fun d => rowX d.nv d.nx)
theorem eqvX (l1 l2 : List Nd) (d : Nd) (F : List Part) : Eqv (restX (l1 ++ d :: l2) :: F) (rowX d.nv d.nx :: restX (l1 ++ l2) :: F) := by
  refine (Eqv.all _ F).trans ?_
  have p1 : ((l1 ++ d :: l2).map (fun d => rowX d.nv d.nx) ++ F).Perm (rowX d.nv d.nx :: ((l1 ++ l2).map (fun d => rowX d.nv d.nx) ++ F)) := by
    simp only [List.map_append, List.map_cons, List.append_assoc, List.cons_append]
    exact List.perm_middle
  refine (Eqv.perm p1).trans ?_
  exact (Eqv.all ((l1 ++ l2).map (fun d => rowX d.nv d.nx)) F).symm.prepend [rowX d.nv d.nx]
theorem outX {L0 L F : List Part} {w0 w : World} {N l1 l2 : List Nd} {d : Nd} (q : N = l1 ++ d :: l2) (h : At L0 w0 L w) (s : Sel (restX N) L F) : At L0 w0 (rowX d.nv d.nx :: restX (l1 ++ l2) :: F) w := (h.take s).to (by rw [q]; exact eqvX l1 l2 d F)
theorem inX {L0 L F G : List Part} {w0 w : World} {N l1 l2 : List Nd} {d : Nd} (q : N = l1 ++ d :: l2) (h : At L0 w0 L w) (s1 : Sel (rowX d.nv d.nx) L F) (s2 : Sel (restX (l1 ++ l2)) F G) : At L0 w0 (restX N :: G) w :=
  (h.perm (s1.perm.trans (s2.perm.cons _))).to (by rw [q]; exact (eqvX l1 l2 d G).symm)
/-- the pool hangs on the rows alone -/
theorem restX_congr {L M : List Nd} (h : L.map (fun d => (d.na, d.nc, d.nx)) = M.map (fun d => (d.na, d.nc, d.nx))) : restX L = restX M := by
  unfold restX
  have e : ∀ K : List Nd, K.map (fun d => rowX d.nv d.nx) = (K.map (fun d => (d.na, d.nc, d.nx))).map (fun p => rowX (.slice p.1 p.2.2.length p.2.1) p.2.2) := fun K => by
    rw [List.map_map]; rfl
  rw [e, e, h]
def zeroN : Nd := ⟨(0, 0), none, 0, [], 0, 0, false, 0⟩
theorem nilX {L0 L : List Part} {w0 w : World} (h : At L0 w0 L w) : ∀ n, At L0 w0 (restX (List.replicate n zeroN) :: L) w
  | 0 => h.to (Eqv.all [] L).symm
  | n + 1 => by
    have h1 := nilX h n
    have h2 : At L0 w0 (rowX zeroN.nv zeroN.nx :: restX (List.replicate n zeroN) :: L) w := h1.row_nil 3 1
    rw [List.replicate_succ]
    exact h2.to (eqvX [] (List.replicate n zeroN) zeroN L).symm
theorem infoNd : (Try.prog.info? 100).map (fun i => (i.zero, i.size, i.bytes)) = some (some (.agg #[.int .i64 0, .int .i64 0, .slice none 0 0, .int .i64 0, .int .i64 0, .bool false, .int .i64 0]), 7, 72) := by kernel_rfl
-- places of names
def placeE (l : List I2) : List (Value × Value) := l.mapIdx fun i x => (idV x, .int .i64 i)
theorem place_snoc (l : List I2) (x : I2) : placeE l ++ [(idV x, .int .i64 l.length)] = placeE (l ++ [x]) := by
  unfold placeE
  rw [List.mapIdx_append]
  simp
theorem place_no {l : List I2} {x : I2} (h : x ∉ l) : ∀ p ∈ placeE l, p.1 ≠ idV x := by
  intro p hp e
  obtain ⟨i, hi, rfl⟩ := List.mem_mapIdx.1 hp
  exact h (by rw [← idV_inj e]; exact List.getElem_mem hi)
theorem place_yes {l : List I2} {x : I2} {i : Nat} (h : l[i]? = some x) : (idV x, Value.int .i64 i) ∈ placeE l := by
  obtain ⟨hi, rfl⟩ := List.getElem?_eq_some_iff.1 h
  exact List.mem_mapIdx.2 ⟨i, hi, rfl⟩
/-- the places of those that are there -/
def nextP (l : List I2) (ls : List I2) : List Nat := ls.filterMap fun y => if y ∈ l then some (l.idxOf y) else none
theorem nextP_snoc (l ls : List I2) (y : I2) : nextP l (ls ++ [y]) = nextP l ls ++ (if y ∈ l then [l.idxOf y] else []) := by
  unfold nextP
  rw [List.filterMap_append]
  by_cases h : y ∈ l <;> simp [h]
theorem setL_within : ∀ (vs p q r : List Value) (o : Nat), o + vs.length ≤ q.length → setL (p ++ (q ++ r)) (p.length + o) vs = p ++ (setL q o vs ++ r)
  | [], p, q, r, o, _ => rfl
  | v :: vs, p, q, r, o, h => by
    simp only [List.length_cons] at h
    rw [setL, setL]
    have e : (p ++ (q ++ r)).set (p.length + o) v = p ++ ((q.set o v) ++ r) := by
      rw [List.set_append_right _ _ (by omega), List.set_append_left _ _ (by omega)]
      simp
    rw [e, Nat.add_assoc]
    exact setL_within vs p (q.set o v) r (o + 1) (by rw [List.length_set]; omega)
/-- a part of an element is written -/
theorem write_part {α : Type} {enc : α → List Value} {size : Nat} (hs : ∀ x, (enc x).length = size) {c : List Value} {l : List α} (ht : c.take (l.length * size) = l.flatMap enc) {i o : Nat} {x x' : α} (hi : l[i]? = some x) {vs : List Value}
    (hx : setL (enc x) o vs = enc x') (ho : o + vs.length ≤ size) : (setL c (i * size + o) vs).take (l.length * size) = (l.set i x').flatMap enc := by
  obtain ⟨hlt, rfl⟩ := List.getElem?_eq_some_iff.1 hi
  have e1 : l = l.take i ++ l[i] :: l.drop (i + 1) := by rw [← List.drop_eq_getElem_cons hlt, List.take_append_drop]
  have hl : (l.take i).length = i := by rw [List.length_take]; omega
  have e2 : l.set i x' = l.take i ++ x' :: l.drop (i + 1) := by rw [List.set_eq_take_append_cons_drop, if_pos hlt]
  have e3 : l.flatMap enc = (l.take i).flatMap enc ++ (enc l[i] ++ (l.drop (i + 1)).flatMap enc) := by
    have := congrArg (fun m => m.flatMap enc) e1
    simp only [List.flatMap_append, List.flatMap_cons] at this
    exact this
  have hf : ((l.take i).flatMap enc).length = i * size := by rw [flat_len enc size hs, hl]
  rw [take_setL, ht, e2, e3, ← hf, setL_within _ _ _ _ _ (by rw [hs]; exact ho), hx]
  simp
theorem split_at {α : Type} {l : List α} {i : Nat} {x : α} (h : l[i]? = some x) : l = l.take i ++ x :: l.drop (i + 1) := by
  obtain ⟨hi, rfl⟩ := List.getElem?_eq_some_iff.1 h
  rw [← List.drop_eq_getElem_cons hi, List.take_append_drop]
theorem set_at {α : Type} {l : List α} {i : Nat} {x : α} (h : l[i]? = some x) (y : α) : l.set i y = l.take i ++ y :: l.drop (i + 1) := by
  obtain ⟨hi, rfl⟩ := List.getElem?_eq_some_iff.1 h
  rw [List.set_eq_take_append_cons_drop, if_pos hi]
end Go.Proofs.Ytgicohkmfbbbdaa.Gr
end
