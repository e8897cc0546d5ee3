/- GraK, GraI, RefJ, RefK, joined. -/
import Derived.Test.YtgicohkmfbbbdaaK10
import Derived.Test.YtgicohkmfbbbdaaK9
section
namespace Go.Proofs.Ytgicohkmfbbbdaa.Gr
open _root_.Go.Proofs.Ytgicohkmfbbbdaa.Mark (ltID sortID)
open _root_.Go.Proofs.Ytgicohkmfbbbdaa.Attr (guardI eqlI_any neqI_any)
open Go.RowKit
set_option linter.unusedSimpArgs false
set_option linter.unusedVariables false
attribute [-go_sem] run_eql_struct run_neq_struct run_eqGuard_agg
attribute [local go_sem] guardI eqlI_any neqI_any

theorem dd_one (l : List I2) (h : l.length < 2) : dd l = l := by
  match l, h with
  | [], _ => rfl
  | [x], _ => rfl
def CpRel (w : World) (v : Value) (l : List I2) (k : Nat) (u : Value) (wr : World) : Prop :=
  ∃ j : Nat, u = .int .i64 ((j : Int) + 1) ∧ j + 1 + k = l.length ∧ dd (l.take (j + 1)) = l.take (j + 1) ∧ At [rowI2 v l] w [rowI2 v l] wr
def CpIn (w : World) (v : Value) (l : List I2) (g cap j : Nat) (m : Nat) (u5 u3 : Value) (wr : World) : Prop :=
  ∃ (i k : Nat) (lc : List I2) (c : List Value), u5 = .int .i64 ((i : Int) + 1) ∧ u3 = .int .i64 k ∧ j + 1 + i + 1 + m = l.length ∧ 1 ≤ k ∧ k ≤ j + 1 + i ∧ lc.length = l.length ∧
    lc.take k = dd (l.take (j + 1 + i + 1)) ∧ lc.drop (j + 1 + i) = l.drop (j + 1 + i) ∧ c.length = cap * 2 ∧ c.take (l.length * 2) = flatI lc ∧ At [rowI2 v l] w [Part.cells g c 38] wr
theorem cells_run {L0 L F : List Part} {w0 w : World} {g : Nat} {c : List Value} {T : TypeId} {o n : Nat} {vs : List Value} (h : At L0 w0 L w) (s : Sel (Part.cells g c T) L F) (hv : (c.drop o).take n = vs) : ∀ (k : Nat) u, vs[k]? = some u → w.cell? ⟨g, o + k, none⟩ = some u := by
  intro k u hk
  have hb : BlockIs w g c T := h.get s
  rw [← hv] at hk
  have hkn : k < n := by
    have := (List.getElem?_eq_some_iff.1 hk).1
    rw [List.length_take] at this
    omega
  rw [List.getElem?_take, if_pos hkn, List.getElem?_drop] at hk
  rw [hb.cell, hk]
theorem drop_at {α : Type} {l m : List α} {n i : Nat} (h : l.drop n = m.drop n) (hi : n ≤ i) : l[i]? = m[i]? := by
  have := congrArg (fun x => x[i - n]?) h
  simp only [List.getElem?_drop] at this
  rwa [show n + (i - n) = i by omega] at this
set_option maxRecDepth 100000 in
set_option maxHeartbeats 2000000 in
theorem compact_any {w : World} {v : Value} {l : List I2} (h : Sep [rowI2 v l] w) (hl : l.length ≤ 1000000) :
    Calls Try.prog 59 #[v] w (RowPost [rowI2 v l] (dd l) [] w) := by
  have hA := At.start h
  have hF := hA.facts
  clear h
  obtain ⟨ax, cap, hv, hax, hcp, _⟩ := hA.row_form .here
  subst hv
  have hax' := Lib.hid hax
  clear hax
  (try simp only [uA] at hA); have hF := hA.facts; (try simp only [fZ] at hF)
  go_enter Try.func59, Try.ntmps59
  by_cases h2 : l.length < 2
  · go_wp2_with (first | ((with_reducible refine gst ?_); refine wS hA ?_; clear hF hA; intro w1 hA; (try simp only [uA] at hA); have hF := hA.facts; (try simp only [fZ] at hF)) | ((with_reducible refine gbx ?_); refine wB hA ?_; clear hF hA; intro b1 w1 hA hb1; (try simp only [uA] at hA); have hF := hA.facts; (try simp only [fZ] at hF)))
    go_ret
    exact ⟨_, rfl, by rw [dd_one l h2]; exact hA⟩
  · go_wp2_with (first | ((with_reducible refine gst ?_); refine wS hA ?_; clear hF hA; intro w1 hA; (try simp only [uA] at hA); have hF := hA.facts; (try simp only [fZ] at hF)) | ((with_reducible refine gbx ?_); refine wB hA ?_; clear hF hA; intro b1 w1 hA hb1; (try simp only [uA] at hA); have hF := hA.facts; (try simp only [fZ] at hF)))
    try go_frame
    go_loopg [3] (l.length - 1) (CpRel w (.slice ax l.length cap) l)
    case atStart => exact ⟨0, rfl, by omega, dd_one _ (by simp; omega), hA⟩
    case round =>
      obtain ⟨j, rfl, hjk, hdd, hB⟩ := hrel
      have hdd' := Lib.hid hdd
      clear hF hA hdd; have hA := hB; clear hB
      by_cases hj : j + 1 < l.length
      · obtain ⟨g, c, hg1, _, hc2, hc3, hc4, hB⟩ := hA.row_open (ax := ax) (cap := cap) (n := l.length) (xs := flatI l) .here (by omega)
        have hg1' := Lib.hid hg1
        have he1 := elem2 hc4 (q := j + 1) (List.getElem?_eq_getElem hj)
        have he0 := elem2 hc4 (q := j) (List.getElem?_eq_getElem (by omega))
        have hnx := Lib.hid (dd_take hj)
        have hl0 : (l[j + 1] = l[j]) = ((l[j + 1].1, l[j + 1].2) = (l[j].1, l[j].2)) := rfl
        generalize hy : l[j + 1] = y at *
        have hy' := Lib.hid hy
        clear hy
        generalize l[j] = x at *
        obtain ⟨r1, t1⟩ := y
        obtain ⟨r0, t0⟩ := x
        simp only [idL] at he0 he1
        subst hg1
        clear hA hg1' hl0; have hA := hB; clear hB
        (try simp only [uA] at hA); have hF := hA.facts; (try simp only [fZ] at hF)
        obtain ⟨d, hd⟩ : ∃ d, (decide (r1 = r0) && decide (t1 = t0)) = d := ⟨_, rfl⟩
        have hd' := Lib.hid (show d = decide ((r1, t1) = (r0, t0)) from by rw [← hd, Bool.eq_iff_iff]; simp)
        have hwr : IntKind.i64.wrap ((j : Int) + 1 - 1) = j := by rw [IntKind.wrap_i64] <;> omega
        have hwj : IntKind.i64.wrap (j : Int) = j := by rw [IntKind.wrap_i64] <;> omega
        cases d
        · go_wp2_with (first | ((with_reducible refine gst ?_); refine wS hA ?_; clear hF hA; intro w1 hA; (try simp only [uA] at hA); have hF := hA.facts; (try simp only [fZ] at hF)) | ((with_reducible refine gbx ?_); refine wB hA ?_; clear hF hA; intro b1 w1 hA hb1; (try simp only [uA] at hA); have hF := hA.facts; (try simp only [fZ] at hF)))
          try go_frame
          (refine wp_region_all (Cl _ _ _) (by kernel_rfl) (by kernel_rfl) (Cl.drew hA) ?_); (have hn1 := Cl.none hA); (have hn2 := Cl.none2 hA); (repeat (first | go_big_quiet_skip | (go_big_quiet_want; (first | (refine quiet_loads_at (ty := 38) (n := 2) rfl rfl (by with_reducible repeat (first | exact Sel.here | apply Sel.there)) (by kernel_rfl) (by kernel_rfl) (by first | assumption | ((try simp only [List.drop_succ_cons, List.drop_zero, List.take_succ_cons, List.take_zero]) <;> exact rfl)) (by exact rfl) ?_; go_frame; go_big_quiet_on) | (refine quiet_load_at rfl rfl (by with_reducible repeat (first | exact Sel.here | apply Sel.there)) (by kernel_rfl) (by first | assumption | exact rfl) ?_; go_frame; go_big_quiet_on) | (go_big_quiet_op; (first | go_big_quiet_on | ((apply Exists.intro); (refine ⟨fun w1 hw => ?_, ?_⟩); (focus ((have hw := Cl.out hw); (fail))); (go_big_quiet_on))))))))
          (refine wpQuiet_nil ?_); (intro w1 hB); (clear hF hA hn1 hn2); (have hA := Cl.out hB); (clear hB); (try simp only [uA] at hA); have hF := hA.facts; (try simp only [fZ] at hF)
          go_wp2_with (first | ((with_reducible refine gst ?_); refine wS hA ?_; clear hF hA; intro w1 hA; (try simp only [uA] at hA); have hF := hA.facts; (try simp only [fZ] at hF)) | ((with_reducible refine gbx ?_); refine wB hA ?_; clear hF hA; intro b1 w1 hA hb1; (try simp only [uA] at hA); have hF := hA.facts; (try simp only [fZ] at hF)))
          go_roundg (gk - 1)
          case measure => omega
          case rel => exact ⟨j + 1, by simp, by omega, by rw [hnx.out, hdd'.out, if_neg (of_decide_eq_false hd'.out.symm), List.take_succ_eq_append_getElem hj, hy'.out], hA.row_shut .here hc3 hcp hc2 hc4⟩
        · have hst := Lib.hid (show l.take (j + 1) = dd (l.take (j + 1 + 0 + 1)) from by rw [hnx.out, hdd'.out, if_pos (of_decide_eq_true hd'.out.symm), List.append_nil])
          go_wp2_with (first | ((with_reducible refine gst ?_); refine wS hA ?_; clear hF hA; intro w1 hA; (try simp only [uA] at hA); have hF := hA.facts; (try simp only [fZ] at hF)) | ((with_reducible refine gbx ?_); refine wB hA ?_; clear hF hA; intro b1 w1 hA hb1; (try simp only [uA] at hA); have hF := hA.facts; (try simp only [fZ] at hF)))
          try go_frame
          (refine wp_region_all (Cl _ _ _) (by kernel_rfl) (by kernel_rfl) (Cl.drew hA) ?_); (have hn1 := Cl.none hA); (have hn2 := Cl.none2 hA); (repeat (first | go_big_quiet_skip | (go_big_quiet_want; (first | (refine quiet_loads_at (ty := 38) (n := 2) rfl rfl (by with_reducible repeat (first | exact Sel.here | apply Sel.there)) (by kernel_rfl) (by kernel_rfl) (by first | assumption | ((try simp only [List.drop_succ_cons, List.drop_zero, List.take_succ_cons, List.take_zero]) <;> exact rfl)) (by exact rfl) ?_; go_frame; go_big_quiet_on) | (refine quiet_load_at rfl rfl (by with_reducible repeat (first | exact Sel.here | apply Sel.there)) (by kernel_rfl) (by first | assumption | exact rfl) ?_; go_frame; go_big_quiet_on) | (go_big_quiet_op; (first | go_big_quiet_on | ((apply Exists.intro); (refine ⟨fun w1 hw => ?_, ?_⟩); (focus ((have hw := Cl.out hw); (fail))); (go_big_quiet_on))))))))
          (refine wpQuiet_nil ?_); (intro w1 hB); (clear hF hA hn1 hn2); (have hA := Cl.out hB); (clear hB); (try simp only [uA] at hA); have hF := hA.facts; (try simp only [fZ] at hF)
          clear hd hd' hnx hdd' he0 he1 hwr hwj
          go_wp2_with (first | ((with_reducible refine gst ?_); refine wS hA ?_; clear hF hA; intro w1 hA; (try simp only [uA] at hA); have hF := hA.facts; (try simp only [fZ] at hF)) | ((with_reducible refine gbx ?_); refine wB hA ?_; clear hF hA; intro b1 w1 hA hb1; (try simp only [uA] at hA); have hF := hA.facts; (try simp only [fZ] at hF)))
          try go_frame
          have hjt : decide ((j : Int) + 1 < (l.length : Int)) = true := by simp; omega
          try simp only [hjt]
          clear hjt
          go_loopg [5, 3] (l.length - (j + 2)) (CpIn w (.slice (some ⟨g, 0, none⟩) l.length cap) l g cap j)
          case atStart => exact ⟨0, j + 1, l, c, rfl, rfl, by omega, by omega, by omega, rfl, hst.out, rfl, hc3, hc4, hA⟩
          case round =>
            clear hc3 hc4 hst
            obtain ⟨i, k, lc, c, rfl, rfl, him, hk1, hk2, hlc, htk, hdr, hc3, hc4, hB⟩ := hrel
            have htk' := Lib.hid htk
            have hdr' := Lib.hid hdr
            have hlc' := Lib.hid hlc
            clear hF hA htk hdr hlc; have hA := hB; clear hB
            by_cases hi : j + 1 + (i + 1) < l.length
            · have e1 : lc[j + 1 + (i + 1)]? = some l[j + 1 + (i + 1)] := (drop_at hdr'.out (by omega)).trans (List.getElem?_eq_getElem hi)
              have e0 : lc[j + 1 + i]? = some l[j + 1 + i] := (drop_at hdr'.out (by omega)).trans (List.getElem?_eq_getElem (by omega))
              have hc4' : c.take (lc.length * 2) = flatI lc := by rw [hlc'.out]; exact hc4
              have he1 := elem2 hc4' e1
              have he0 := elem2 hc4' e0
              have hnx := Lib.hid (dd_take (l := l) (k := j + 1 + i) hi)
              have hwrt := Lib.hid (write_row idL_len hc4' (i := k) (by rw [hlc'.out]; omega) l[j + 1 + (i + 1)])
              have hdl := Lib.hid (show (lc.set k l[j + 1 + (i + 1)]).drop (j + 1 + (i + 1)) = l.drop (j + 1 + (i + 1)) from by rw [List.drop_set_of_lt (by omega)]; have := congrArg (List.drop 1) hdr'.out; simpa [List.drop_drop, Nat.add_assoc] using this)
              have htl := Lib.hid (show (lc.set k l[j + 1 + (i + 1)]).take (k + 1) = dd (l.take (j + 1 + i + 1)) ++ [l[j + 1 + (i + 1)]] from by rw [List.take_succ_eq_append_getElem (by rw [List.length_set, hlc'.out]; omega), List.take_set_of_le (Nat.le_refl _), htk'.out, List.getElem_set_self])
              have hd1 := Lib.hid (show lc.drop (j + 1 + (i + 1)) = l.drop (j + 1 + (i + 1)) from by have := congrArg (List.drop 1) hdr'.out; simpa [List.drop_drop, Nat.add_assoc] using this)
              clear e0 e1
              generalize l[j + 1 + (i + 1)] = y at *
              have hnx2 := Lib.hid (show dd (l.take (j + 1 + i + 2)) = dd (l.take (j + 1 + i + 1)) ++ (if y = l[j + 1 + i] then [] else [y]) from hnx.out)
              clear hnx
              generalize l[j + 1 + i] = x at *
              obtain ⟨r1, t1⟩ := y
              obtain ⟨r0, t0⟩ := x
              simp only [idL] at he0 he1
              rw [show (j + 1 + (i + 1)) * 2 = (j + 1) * 2 + (i + 1) * 2 by omega] at he1
              rw [show (j + 1 + i) * 2 = (j + 1) * 2 + i * 2 by omega] at he0
              obtain ⟨d, hd⟩ : ∃ d, (decide (r1 = r0) && decide (t1 = t0)) = d := ⟨_, rfl⟩
              have hd' := Lib.hid (show d = decide ((r1, t1) = (r0, t0)) from by rw [← hd, Bool.eq_iff_iff]; simp)
              have hwr : IntKind.i64.wrap ((i : Int) + 1 - 1) = i := by rw [IntKind.wrap_i64] <;> omega
              have hwj : IntKind.i64.wrap (i : Int) = i := by rw [IntKind.wrap_i64] <;> omega
              (try simp only [uA] at hA); have hF := hA.facts; (try simp only [fZ] at hF)
              cases d
              · go_wp2_with (first | ((with_reducible refine gst ?_); refine wS hA ?_; clear hF hA; intro w1 hA; (try simp only [uA] at hA); have hF := hA.facts; (try simp only [fZ] at hF)) | ((with_reducible refine gbx ?_); refine wB hA ?_; clear hF hA; intro b1 w1 hA hb1; (try simp only [uA] at hA); have hF := hA.facts; (try simp only [fZ] at hF)))
                try go_frame
                (refine wp_region_all (Cl _ _ _) (by kernel_rfl) (by kernel_rfl) (Cl.drew hA) ?_); (have hn1 := Cl.none hA); (have hn2 := Cl.none2 hA); (repeat (first | go_big_quiet_skip | (go_big_quiet_want; (first | (refine quiet_loads_at (ty := 38) (n := 2) rfl rfl (by with_reducible repeat (first | exact Sel.here | apply Sel.there)) (by kernel_rfl) (by kernel_rfl) (by first | assumption | ((try simp only [List.drop_succ_cons, List.drop_zero, List.take_succ_cons, List.take_zero]) <;> exact rfl)) (by exact rfl) ?_; go_frame; go_big_quiet_on) | (refine quiet_load_at rfl rfl (by with_reducible repeat (first | exact Sel.here | apply Sel.there)) (by kernel_rfl) (by first | assumption | exact rfl) ?_; go_frame; go_big_quiet_on) | (go_big_quiet_op; (first | go_big_quiet_on | ((apply Exists.intro); (refine ⟨fun w1 hw => ?_, ?_⟩); (focus ((have hw := Cl.out hw); (fail))); (go_big_quiet_on))))))))
                (refine wpQuiet_nil ?_); (intro w1 hB); (clear hF hA hn1 hn2); (have hA := Cl.out hB); (clear hB); (try simp only [uA] at hA); have hF := hA.facts; (try simp only [fZ] at hF)
                rw [if_neg (of_decide_eq_false hd'.out.symm)] at hnx2
                go_wp2_with (first | ((with_reducible show wpList _ _ _ ({ dst := some 50, op := Op.load _ _, type := _, pos := _, after := _, guard := _ } :: _) _ _); refine wpList_loadRow_at (vs := [.int .i64 r1, .int .i64 t1]) rfl rfl (by (try simp only [Act.eval, eV]) <;> exact rfl) (cells_run hA .here he1) (by kernel_rfl) (by kernel_rfl) ?_) | ((with_reducible refine gst ?_); refine wpList_store_at (b := g) (j := k * 2) (c := c) (vs := idL (r1, t1)) rfl rfl rfl (by (try simp only [Act.eval, eV]) <;> exact rfl) (by exact rfl) hA (by with_reducible repeat (first | exact Sel.here | apply Sel.there)) (by kernel_rfl) rfl (by show k * 2 + 2 ≤ c.length; omega) ?_; intro w1 hB; clear hF hA; have hA := hB; clear hB))
                go_roundg (gk - 1)
                case measure => omega
                case rel => exact ⟨i + 1, k + 1, lc.set k (r1, t1), _, by simp, by simp, by omega, by omega, by omega, by rw [List.length_set, hlc'.out], by rw [htl.out]; exact hnx2.out.symm, hdl.out, by rw [setL_length]; exact hc3, by have := hwrt.out; rw [List.length_set, hlc'.out] at this; exact this, hA⟩
              · go_wp2_with (first | ((with_reducible refine gst ?_); refine wS hA ?_; clear hF hA; intro w1 hA; (try simp only [uA] at hA); have hF := hA.facts; (try simp only [fZ] at hF)) | ((with_reducible refine gbx ?_); refine wB hA ?_; clear hF hA; intro b1 w1 hA hb1; (try simp only [uA] at hA); have hF := hA.facts; (try simp only [fZ] at hF)))
                try go_frame
                (refine wp_region_all (Cl _ _ _) (by kernel_rfl) (by kernel_rfl) (Cl.drew hA) ?_); (have hn1 := Cl.none hA); (have hn2 := Cl.none2 hA); (repeat (first | go_big_quiet_skip | (go_big_quiet_want; (first | (refine quiet_loads_at (ty := 38) (n := 2) rfl rfl (by with_reducible repeat (first | exact Sel.here | apply Sel.there)) (by kernel_rfl) (by kernel_rfl) (by first | assumption | ((try simp only [List.drop_succ_cons, List.drop_zero, List.take_succ_cons, List.take_zero]) <;> exact rfl)) (by exact rfl) ?_; go_frame; go_big_quiet_on) | (refine quiet_load_at rfl rfl (by with_reducible repeat (first | exact Sel.here | apply Sel.there)) (by kernel_rfl) (by first | assumption | exact rfl) ?_; go_frame; go_big_quiet_on) | (go_big_quiet_op; (first | go_big_quiet_on | ((apply Exists.intro); (refine ⟨fun w1 hw => ?_, ?_⟩); (focus ((have hw := Cl.out hw); (fail))); (go_big_quiet_on))))))))
                (refine wpQuiet_nil ?_); (intro w1 hB); (clear hF hA hn1 hn2); (have hA := Cl.out hB); (clear hB); (try simp only [uA] at hA); have hF := hA.facts; (try simp only [fZ] at hF)
                rw [if_pos (of_decide_eq_true hd'.out.symm), List.append_nil] at hnx2
                go_wp2_with (first | ((with_reducible refine gst ?_); refine wS hA ?_; clear hF hA; intro w1 hA; (try simp only [uA] at hA); have hF := hA.facts; (try simp only [fZ] at hF)) | ((with_reducible refine gbx ?_); refine wB hA ?_; clear hF hA; intro b1 w1 hA hb1; (try simp only [uA] at hA); have hF := hA.facts; (try simp only [fZ] at hF)))
                go_roundg (gk - 1)
                case measure => omega
                case rel => exact ⟨i + 1, k, lc, c, by simp, rfl, by omega, by omega, by omega, hlc'.out, by rw [htk'.out]; exact hnx2.out.symm, hd1.out, hc3, hc4, hA⟩
            · have hkd : (dd l).length = k := by
                have := congrArg List.length htk'.out
                rw [List.take_of_length_le (l := l) (by omega), List.length_take, hlc'.out] at this
                omega
              have hfl : flatI (dd l) = (flatI lc).take (k * 2) := by
                rw [flatI_take, htk'.out, List.take_of_length_le (by omega)]
              have hkd' := Lib.hid hkd
              have hfl' := Lib.hid hfl
              clear hkd hfl
              (try simp only [uA] at hA); have hF := hA.facts; (try simp only [fZ] at hF)
              go_wp2_with (first | (refine wpList_clear_at (e := 38) (z := .agg #[.int .i64 0, .int .i64 0]) (b := g) (off := k * 2) (m := l.length - k) (cp := cap - k) (c := c) (T := 38) rfl rfl Try.underlying31 (fun _ => by kernel_rfl) (idL_one (0, 0)) (by decide) (by (try simp only [Act.eval, eV]) <;> exact rfl) (by omega) hA (by with_reducible repeat (first | exact Sel.here | apply Sel.there)) (by show k * 2 + (l.length - k) * 2 ≤ c.length; omega) ?_; intro c' w1 hcl' hct2 hB; clear hF hA; have hA := hB; clear hB; (try simp only [uA] at hA); have hF := hA.facts; (try simp only [fZ] at hF)))
              go_ret
              have hS := hA.row_shut (n := k) (cap := cap) (size := 2) (xs := flatI (dd l)) (by with_reducible repeat (first | exact Sel.here | apply Sel.there)) (hcl'.trans hc3) (by omega) hc2 (by rw [hfl'.out, hct2, ← hc4, List.take_take, Nat.min_eq_left (by omega)])
              refine ⟨.slice (some ⟨g, 0, none⟩) k cap, rfl, ?_⟩
              show At _ _ [Part.row 38 2 (.slice (some ⟨g, 0, none⟩) k cap) (dd l).length (flatI (dd l))] _
              rw [hkd'.out]
              exact hS
      · have hF := hA.facts
        (try simp only [uA] at hA); have hF := hA.facts; (try simp only [fZ] at hF)
        go_wp2_with (first | ((with_reducible refine gst ?_); refine wS hA ?_; clear hF hA; intro w1 hA; (try simp only [uA] at hA); have hF := hA.facts; (try simp only [fZ] at hF)) | ((with_reducible refine gbx ?_); refine wB hA ?_; clear hF hA; intro b1 w1 hA hb1; (try simp only [uA] at hA); have hF := hA.facts; (try simp only [fZ] at hF)))
        go_ret
        exact ⟨_, rfl, by rw [show dd l = l from by have := hdd'.out; rwa [List.take_of_length_le (by omega)] at this]; exact hA⟩
end Go.Proofs.Ytgicohkmfbbbdaa.Gr
end

section
namespace Go.Proofs.Ytgicohkmfbbbdaa.Gr
open _root_.Go.Proofs.Ytgicohkmfbbbdaa.Mark (ltID sortID)
open _root_.Go.Proofs.Ytgicohkmfbbbdaa.Attr (guardI eqlI_any neqI_any)
open Go.RowKit
set_option linter.unusedSimpArgs false
set_option linter.unusedVariables false
attribute [-go_sem] run_eql_struct run_neq_struct run_eqGuard_agg
attribute [local go_sem] guardI eqlI_any neqI_any

def IdxRel (w : World) (v : Value) (l : List I2) (x : I2) (b3 : Nat) (k : Nat) (u : Value) (wr : World) : Prop :=
  ∃ i : Nat, u = .int .i64 i ∧ i + k = l.length ∧ x ∉ l.take i ∧ At [rowI2 v l] w [Part.cells b3 [.int .i64 x.1, .int .i64 x.2] 38, rowI2 v l] wr
/-- a name's place in a row -/
def idxI (l : List I2) (x : I2) : Int := if x ∈ l then l.idxOf x else -1
theorem idxI_at {l : List I2} {x : I2} {i : Nat} (h : l[i]? = some x) (hn : x ∉ l.take i) : idxI l x = i := by
  have hm : x ∈ l := List.mem_of_getElem? h
  unfold idxI
  rw [if_pos hm]
  obtain ⟨hi, hx⟩ := List.getElem?_eq_some_iff.1 h
  have h1 := List.idxOf_lt_length_of_mem hm
  have h2 : l[l.idxOf x] = x := List.getElem_idxOf h1
  rcases Nat.lt_trichotomy (l.idxOf x) i with q | q | q
  · exact absurd (List.mem_iff_getElem.2 ⟨l.idxOf x, by rw [List.length_take]; omega, by rw [List.getElem_take]; exact h2⟩) hn
  · rw [q]
  · exact absurd hx (by simpa using List.not_of_lt_findIdx (p := (· == x)) (xs := l) (i := i) (by simpa [List.idxOf] using q))
theorem idxI_no {l : List I2} {x : I2} (h : x ∉ l) : idxI l x = -1 := if_neg h
def IdxPost (w : World) (v : Value) (l : List I2) (x : I2) (e : Ending) (w' : World) : Prop := e = .returned (.int .i64 (idxI l x)) ∧ At [rowI2 v l] w [rowI2 v l] w'
set_option maxRecDepth 100000 in
set_option maxHeartbeats 2000000 in
theorem index_any {w : World} {v : Value} {l : List I2} (h : Sep [rowI2 v l] w) (x : I2) (hmax : l.length ≤ 1000000) :
    Calls Try.prog 65 #[v, idV x] w (IdxPost w v l x) := by
  have hA := At.start h
  clear h
  obtain ⟨ax, cap, rfl, hax, hcap, _⟩ := hA.row_form (v := v) (xs := flatI l) (by with_reducible repeat (first | exact Sel.here | apply Sel.there))
  have hax' := Lib.hid hax
  clear hax
  obtain ⟨r1, t1⟩ := x
  simp only [idV]
  (try simp only [uA] at hA); have hF := hA.facts; (try simp only [fZ] at hF)
  go_enter Try.func65, Try.ntmps65
  go_wp2_with (first | ((with_reducible refine gbx ?_); refine wX 38 (.agg #[.int .i64 r1, .int .i64 t1]) [.int .i64 r1, .int .i64 t1] hA ?_; clear hF hA; intro b3 w1 hA hb3; (try simp only [uA] at hA); have hF := hA.facts; (try simp only [fZ] at hF)) | ((with_reducible refine gst ?_); refine wS hA ?_; clear hF hA; intro w1 hA; (try simp only [uA] at hA); have hF := hA.facts; (try simp only [fZ] at hF)) | ((with_reducible refine gbx ?_); refine wB hA ?_; clear hF hA; intro b1 w1 hA hb1; (try simp only [uA] at hA); have hF := hA.facts; (try simp only [fZ] at hF)))
  try go_frame
  go_loopg [8] l.length (IdxRel w (.slice ax l.length cap) l (r1, t1) b3)
  case atStart => exact ⟨0, rfl, by simp, by simp, hA⟩
  case round =>
    obtain ⟨i, rfl, hik, hno, hB⟩ := hrel
    have hno' := Lib.hid hno
    clear hF hA hno; have hA := hB; clear hB
    by_cases hi : i < l.length
    · obtain ⟨g, c, rfl, _, hcm, hcl, hct, hB⟩ := hA.row_open (ax := ax) (cap := cap) (n := l.length) (xs := flatI l) (by with_reducible repeat (first | exact Sel.here | apply Sel.there)) (by omega)
      have hx : l[i]? = some l[i] := List.getElem?_eq_getElem hi
      have he := elem2 hct hx
      have htk : l.take (i + 1) = l.take i ++ [l[i]] := List.take_succ_eq_append_getElem hi
      generalize hy : l[i] = y at *
      obtain ⟨r0, t0⟩ := y
      simp only [idL] at he
      clear hA; have hA := hB; clear hB
      obtain ⟨d, hd⟩ : ∃ d, (decide (r1 = r0) && decide (t1 = t0)) = d := ⟨_, rfl⟩
      have hd' := Lib.hid (show d = decide ((r1, t1) = (r0, t0)) from by rw [← hd, Bool.eq_iff_iff]; simp)
      have hx' := Lib.hid hx
      have htk' := Lib.hid htk
      clear hx htk hy
      (try simp only [uA] at hA); have hF := hA.facts; (try simp only [fZ] at hF)
      cases d
      · go_wp2_with (first | ((with_reducible refine gst ?_); refine wS hA ?_; clear hF hA; intro w1 hA; (try simp only [uA] at hA); have hF := hA.facts; (try simp only [fZ] at hF)) | ((with_reducible refine gbx ?_); refine wB hA ?_; clear hF hA; intro b1 w1 hA hb1; (try simp only [uA] at hA); have hF := hA.facts; (try simp only [fZ] at hF)))
        try go_frame
        (refine wp_region_all (Cl _ _ _) (by kernel_rfl) (by kernel_rfl) (Cl.drew hA) ?_); (have hn1 := Cl.none hA); (have hn2 := Cl.none2 hA); (repeat (first | go_big_quiet_skip | (go_big_quiet_want; (first | (refine quiet_loads_at (ty := 38) (n := 2) rfl rfl (by with_reducible repeat (first | exact Sel.here | apply Sel.there)) (by kernel_rfl) (by kernel_rfl) (by first | assumption | ((try simp only [List.drop_succ_cons, List.drop_zero, List.take_succ_cons, List.take_zero]) <;> exact rfl)) (by exact rfl) ?_; go_frame; go_big_quiet_on) | (refine quiet_load_at rfl rfl (by with_reducible repeat (first | exact Sel.here | apply Sel.there)) (by kernel_rfl) (by first | assumption | exact rfl) ?_; go_frame; go_big_quiet_on) | (go_big_quiet_op; (first | go_big_quiet_on | ((apply Exists.intro); (refine ⟨fun w1 hw => ?_, ?_⟩); (focus ((have hw := Cl.out hw); (fail))); (go_big_quiet_on))))))))
        (refine wpQuiet_nil ?_); (intro w1 hB); (clear hF hA hn1 hn2); (have hA := Cl.out hB); (clear hB); (try simp only [uA] at hA); have hF := hA.facts; (try simp only [fZ] at hF)
        go_wp2_with (first | ((with_reducible refine gst ?_); refine wS hA ?_; clear hF hA; intro w1 hA; (try simp only [uA] at hA); have hF := hA.facts; (try simp only [fZ] at hF)) | ((with_reducible refine gbx ?_); refine wB hA ?_; clear hF hA; intro b1 w1 hA hb1; (try simp only [uA] at hA); have hF := hA.facts; (try simp only [fZ] at hF)))
        go_roundg (gk - 1)
        case measure => omega
        case rel =>
          have hB := shut_i hA (by with_reducible repeat (first | exact Sel.here | apply Sel.there)) hcl hcap hcm hct
          refine ⟨i + 1, by simp, by omega, ?_, hB.pick (by repeat (first | exact Picks.nil | refine Picks.cons (by repeat (first | exact Sel.here | apply Sel.there)) ?_))⟩
          rw [htk'.out]
          intro hm
          rcases List.mem_append.1 hm with hm | hm
          · exact hno'.out hm
          · exact of_decide_eq_false hd'.out.symm (List.mem_singleton.1 hm)
      · go_wp2_with (first | ((with_reducible refine gst ?_); refine wS hA ?_; clear hF hA; intro w1 hA; (try simp only [uA] at hA); have hF := hA.facts; (try simp only [fZ] at hF)) | ((with_reducible refine gbx ?_); refine wB hA ?_; clear hF hA; intro b1 w1 hA hb1; (try simp only [uA] at hA); have hF := hA.facts; (try simp only [fZ] at hF)))
        try go_frame
        (refine wp_region_all (Cl _ _ _) (by kernel_rfl) (by kernel_rfl) (Cl.drew hA) ?_); (have hn1 := Cl.none hA); (have hn2 := Cl.none2 hA); (repeat (first | go_big_quiet_skip | (go_big_quiet_want; (first | (refine quiet_loads_at (ty := 38) (n := 2) rfl rfl (by with_reducible repeat (first | exact Sel.here | apply Sel.there)) (by kernel_rfl) (by kernel_rfl) (by first | assumption | ((try simp only [List.drop_succ_cons, List.drop_zero, List.take_succ_cons, List.take_zero]) <;> exact rfl)) (by exact rfl) ?_; go_frame; go_big_quiet_on) | (refine quiet_load_at rfl rfl (by with_reducible repeat (first | exact Sel.here | apply Sel.there)) (by kernel_rfl) (by first | assumption | exact rfl) ?_; go_frame; go_big_quiet_on) | (go_big_quiet_op; (first | go_big_quiet_on | ((apply Exists.intro); (refine ⟨fun w1 hw => ?_, ?_⟩); (focus ((have hw := Cl.out hw); (fail))); (go_big_quiet_on))))))))
        (refine wpQuiet_nil ?_); (intro w1 hB); (clear hF hA hn1 hn2); (have hA := Cl.out hB); (clear hB); (try simp only [uA] at hA); have hF := hA.facts; (try simp only [fZ] at hF)
        go_wp2_with (first | ((with_reducible refine gst ?_); refine wS hA ?_; clear hF hA; intro w1 hA; (try simp only [uA] at hA); have hF := hA.facts; (try simp only [fZ] at hF)) | ((with_reducible refine gbx ?_); refine wB hA ?_; clear hF hA; intro b1 w1 hA hb1; (try simp only [uA] at hA); have hF := hA.facts; (try simp only [fZ] at hF)))
        go_ret
        have e0 := of_decide_eq_true hd'.out.symm
        have hx0 := hx'.out
        rw [← e0] at hx0
        exact ⟨by rw [idxI_at hx0 hno'.out]; rfl, (shut_i hA (by with_reducible repeat (first | exact Sel.here | apply Sel.there)) hcl hcap hcm hct).only1 (by with_reducible repeat (first | exact Sel.here | apply Sel.there))⟩
    · have hF := hA.facts
      (try simp only [uA] at hA); have hF := hA.facts; (try simp only [fZ] at hF)
      go_wp2_with (first | ((with_reducible refine gst ?_); refine wS hA ?_; clear hF hA; intro w1 hA; (try simp only [uA] at hA); have hF := hA.facts; (try simp only [fZ] at hF)) | ((with_reducible refine gbx ?_); refine wB hA ?_; clear hF hA; intro b1 w1 hA hb1; (try simp only [uA] at hA); have hF := hA.facts; (try simp only [fZ] at hF)))
      go_ret
      have hno2 := hno'.out
      rw [List.take_of_length_le (by omega)] at hno2
      exact ⟨by rw [idxI_no hno2]; rfl, hA.only1 (by repeat (first | exact Sel.here | apply Sel.there))⟩
set_option maxRecDepth 100000 in
theorem contains_any {w : World} {v : Value} {l : List I2} (h : Sep [rowI2 v l] w) (x : I2) (hmax : l.length ≤ 1000000) :
    Calls Try.prog 53 #[v, idV x] w fun e w' => e = .returned (.bool (decide (x ∈ l))) ∧ At [rowI2 v l] w [rowI2 v l] w' := by
  have hA := At.start h
  clear h
  have hc := fun (w1 : World) (q : Sep [rowI2 v l] w1) => index_any q x hmax
  have hdx : decide (x ∈ l) = decide (0 ≤ idxI l x) := by
    rw [decide_eq_decide]
    unfold idxI
    split <;> rename_i q
    · exact ⟨fun _ => by omega, fun _ => q⟩
    · exact ⟨fun h => absurd h q, fun h => by omega⟩
  rw [hdx]
  unfold IdxPost at hc
  generalize idxI l x = ix at *
  obtain ⟨r1, t1⟩ := x
  simp only [idV] at *
  have hdx' := Lib.hid hdx
  clear hdx
  (try simp only [uA] at hA); have hF := hA.facts; (try simp only [fZ] at hF)
  go_enter Try.func53, Try.ntmps53
  go_wp2_with (first | ((with_reducible refine gbx ?_); refine wX 38 (.agg #[.int .i64 r1, .int .i64 t1]) [.int .i64 r1, .int .i64 t1] hA ?_; clear hF hA; intro b3 w1 hA hb3; (try simp only [uA] at hA); have hF := hA.facts; (try simp only [fZ] at hF)) | ((with_reducible refine gst ?_); refine wS hA ?_; clear hF hA; intro w1 hA; (try simp only [uA] at hA); have hF := hA.facts; (try simp only [fZ] at hF)) | ((with_reducible refine gbx ?_); refine wB hA ?_; clear hF hA; intro b1 w1 hA hb1; (try simp only [uA] at hA); have hF := hA.facts; (try simp only [fZ] at hF)))
  refine (hc _ (hA.sep1 (A := rowI2 v l) (by repeat (first | exact Sel.here | apply Sel.there)))).mono ?_
  rintro e w1 ⟨rfl, hT⟩
  have hB := hA.call1 (A := rowI2 v l) (by repeat (first | exact Sel.here | apply Sel.there)) hT
  clear hF hA hT; have hA := hB; clear hB
  simp only [List.cons_append, List.nil_append] at hA
  (try simp only [uA] at hA); have hF := hA.facts; (try simp only [fZ] at hF)
  go_wp2_with (first | ((with_reducible refine gst ?_); refine wS hA ?_; clear hF hA; intro w1 hA; (try simp only [uA] at hA); have hF := hA.facts; (try simp only [fZ] at hF)) | ((with_reducible refine gbx ?_); refine wB hA ?_; clear hF hA; intro b1 w1 hA hb1; (try simp only [uA] at hA); have hF := hA.facts; (try simp only [fZ] at hF)))
  go_ret
  exact ⟨rfl, hA.only1 (by repeat (first | exact Sel.here | apply Sel.there))⟩
end Go.Proofs.Ytgicohkmfbbbdaa.Gr
end

section
namespace Go.Proofs.Ytgicohkmfbbbdaa.Ref
open _root_.Go.Proofs.Ytgicohkmfbbbdaa.Gr
open _root_.Go.Proofs.Ytgicohkmfbbbdaa.Mark (ltID)
open _root_.Go.Proofs.Ytgicohkmfbbbdaa.Attr (guardI eqlI_any neqI_any guardJ eqlJ_any)
open Go.RowKit
set_option linter.unusedSimpArgs false
set_option linter.unusedVariables false
attribute [-go_sem] run_eql_struct run_neq_struct run_eqGuard_agg
attribute [local go_sem] guardI eqlI_any neqI_any guardJ eqlJ_any

set_option maxRecDepth 100000 in
theorem before_any (a b : I2) (w : World) : Calls Try.prog 49 #[idV a, idV b] w fun e w' => e = .returned (.bool (decide (ltID a b))) ∧ Ext w w' := by
  have hA : At [] w [] w := At.start (L0 := []) trivial
  have hF := hA.facts
  obtain ⟨r1, t1⟩ := a
  obtain ⟨r2, t2⟩ := b
  simp only [idV]
  (try simp only [uA] at hA); have hF := hA.facts; (try simp only [fZ] at hF)
  go_enter Try.func49, Try.ntmps49
  by_cases h0 : r1 < r2
  · skip
    rw [show decide (ltID (r1, t1) (r2, t2)) = true from decide_eq_true (by show r1 < r2 ∨ (r1 = r2 ∧ t1 < t2); omega)]
    go_wp2_with (first | ((with_reducible show wpList _ _ _ ({ dst := some 2, op := Op.box _ _, type := _, pos := _, after := _, guard := _ } :: _) _ _); ((with_reducible refine gbx ?_); refine wX 45 (.agg #[.int .i64 r1, .int .i64 t1]) [.int .i64 r1, .int .i64 t1] hA ?_; clear hF hA; intro bX w1 hA hbX; (try simp only [uA] at hA); have hF := hA.facts; (try simp only [fZ] at hF))) | ((with_reducible show wpList _ _ _ ({ dst := some 3, op := Op.box _ _, type := _, pos := _, after := _, guard := _ } :: _) _ _); ((with_reducible refine gbx ?_); refine wX 45 (.agg #[.int .i64 r2, .int .i64 t2]) [.int .i64 r2, .int .i64 t2] hA ?_; clear hF hA; intro bY w1 hA hbY; (try simp only [uA] at hA); have hF := hA.facts; (try simp only [fZ] at hF))) | ((with_reducible refine gst ?_); refine wS hA ?_; clear hF hA; intro w1 hA; (try simp only [uA] at hA); have hF := hA.facts; (try simp only [fZ] at hF)) | ((with_reducible refine gbx ?_); refine wB hA ?_; clear hF hA; intro b1 w1 hA hb1; (try simp only [uA] at hA); have hF := hA.facts; (try simp only [fZ] at hF)))
    go_ret
    exact ⟨rfl, hA.toExt⟩
  · by_cases h1 : r1 = r2
    · by_cases h2 : t1 < t2
      · skip
        rw [show decide (ltID (r1, t1) (r2, t2)) = true from decide_eq_true (by show r1 < r2 ∨ (r1 = r2 ∧ t1 < t2); omega)]
        go_wp2_with (first | ((with_reducible show wpList _ _ _ ({ dst := some 2, op := Op.box _ _, type := _, pos := _, after := _, guard := _ } :: _) _ _); ((with_reducible refine gbx ?_); refine wX 45 (.agg #[.int .i64 r1, .int .i64 t1]) [.int .i64 r1, .int .i64 t1] hA ?_; clear hF hA; intro bX w1 hA hbX; (try simp only [uA] at hA); have hF := hA.facts; (try simp only [fZ] at hF))) | ((with_reducible show wpList _ _ _ ({ dst := some 3, op := Op.box _ _, type := _, pos := _, after := _, guard := _ } :: _) _ _); ((with_reducible refine gbx ?_); refine wX 45 (.agg #[.int .i64 r2, .int .i64 t2]) [.int .i64 r2, .int .i64 t2] hA ?_; clear hF hA; intro bY w1 hA hbY; (try simp only [uA] at hA); have hF := hA.facts; (try simp only [fZ] at hF))) | ((with_reducible refine gst ?_); refine wS hA ?_; clear hF hA; intro w1 hA; (try simp only [uA] at hA); have hF := hA.facts; (try simp only [fZ] at hF)) | ((with_reducible refine gbx ?_); refine wB hA ?_; clear hF hA; intro b1 w1 hA hb1; (try simp only [uA] at hA); have hF := hA.facts; (try simp only [fZ] at hF)))
        go_ret
        exact ⟨rfl, hA.toExt⟩
      · skip
        rw [show decide (ltID (r1, t1) (r2, t2)) = false from decide_eq_false (by show ¬ (r1 < r2 ∨ (r1 = r2 ∧ t1 < t2)); omega)]
        go_wp2_with (first | ((with_reducible show wpList _ _ _ ({ dst := some 2, op := Op.box _ _, type := _, pos := _, after := _, guard := _ } :: _) _ _); ((with_reducible refine gbx ?_); refine wX 45 (.agg #[.int .i64 r1, .int .i64 t1]) [.int .i64 r1, .int .i64 t1] hA ?_; clear hF hA; intro bX w1 hA hbX; (try simp only [uA] at hA); have hF := hA.facts; (try simp only [fZ] at hF))) | ((with_reducible show wpList _ _ _ ({ dst := some 3, op := Op.box _ _, type := _, pos := _, after := _, guard := _ } :: _) _ _); ((with_reducible refine gbx ?_); refine wX 45 (.agg #[.int .i64 r2, .int .i64 t2]) [.int .i64 r2, .int .i64 t2] hA ?_; clear hF hA; intro bY w1 hA hbY; (try simp only [uA] at hA); have hF := hA.facts; (try simp only [fZ] at hF))) | ((with_reducible refine gst ?_); refine wS hA ?_; clear hF hA; intro w1 hA; (try simp only [uA] at hA); have hF := hA.facts; (try simp only [fZ] at hF)) | ((with_reducible refine gbx ?_); refine wB hA ?_; clear hF hA; intro b1 w1 hA hb1; (try simp only [uA] at hA); have hF := hA.facts; (try simp only [fZ] at hF)))
        go_ret
        exact ⟨rfl, hA.toExt⟩
    · skip
      rw [show decide (ltID (r1, t1) (r2, t2)) = false from decide_eq_false (by show ¬ (r1 < r2 ∨ (r1 = r2 ∧ t1 < t2)); omega)]
      go_wp2_with (first | ((with_reducible show wpList _ _ _ ({ dst := some 2, op := Op.box _ _, type := _, pos := _, after := _, guard := _ } :: _) _ _); ((with_reducible refine gbx ?_); refine wX 45 (.agg #[.int .i64 r1, .int .i64 t1]) [.int .i64 r1, .int .i64 t1] hA ?_; clear hF hA; intro bX w1 hA hbX; (try simp only [uA] at hA); have hF := hA.facts; (try simp only [fZ] at hF))) | ((with_reducible show wpList _ _ _ ({ dst := some 3, op := Op.box _ _, type := _, pos := _, after := _, guard := _ } :: _) _ _); ((with_reducible refine gbx ?_); refine wX 45 (.agg #[.int .i64 r2, .int .i64 t2]) [.int .i64 r2, .int .i64 t2] hA ?_; clear hF hA; intro bY w1 hA hbY; (try simp only [uA] at hA); have hF := hA.facts; (try simp only [fZ] at hF))) | ((with_reducible refine gst ?_); refine wS hA ?_; clear hF hA; intro w1 hA; (try simp only [uA] at hA); have hF := hA.facts; (try simp only [fZ] at hF)) | ((with_reducible refine gbx ?_); refine wB hA ?_; clear hF hA; intro b1 w1 hA hb1; (try simp only [uA] at hA); have hF := hA.facts; (try simp only [fZ] at hF)))
      go_ret
      exact ⟨rfl, hA.toExt⟩
end Go.Proofs.Ytgicohkmfbbbdaa.Ref
end

section
namespace Go.Proofs.Ytgicohkmfbbbdaa.Ref
open _root_.Go.Proofs.Ytgicohkmfbbbdaa.Gr
open _root_.Go.Proofs.Ytgicohkmfbbbdaa.Mark (ltID)
open _root_.Go.Proofs.Ytgicohkmfbbbdaa.Attr (A8 guardI eqlI_any neqI_any guardJ eqlJ_any)
open Go.RowKit
set_option linter.unusedSimpArgs false
set_option linter.unusedVariables false
attribute [-go_sem] run_eql_struct run_neq_struct run_eqGuard_agg
attribute [local go_sem] guardI eqlI_any neqI_any guardJ eqlJ_any

/-- an instance, and its attributes -/
abbrev IA := I2 × A8
def cellsD (e : IA) : List Value := [.int .i64 e.1.1, .int .i64 e.1.2, .int .i64 e.2.s, .int .i64 e.2.d0, .int .i64 e.2.d1, .int .i64 e.2.d2, .int .i64 e.2.d3, .int .i64 e.2.d4, .int .i64 e.2.d5, .int .i64 e.2.d6]
theorem cellsD_len (e : IA) : (cellsD e).length = 10 := rfl
theorem cellsD_ones (e : IA) : (cellsD e).all (·.oneCell') = true := rfl
theorem cellsD_one (e : IA) : ∀ u ∈ cellsD e, u.oneCell' = true := List.all_eq_true.1 (cellsD_ones e)
def flatD (l : List IA) : List Value := l.flatMap cellsD
theorem flatD_len (l : List IA) : (flatD l).length = l.length * 10 := flat_len _ _ cellsD_len _
abbrev rowD (v : Value) (l : List IA) : Part := Part.row 52 10 v l.length (flatD l)
/-- where an instance is -/
def findD (l : List IA) (x : I2) : Int := idxI (l.map Prod.fst) x
theorem elemD {c : List Value} {l : List IA} {q : Nat} {e : IA} (hct : c.take (l.length * 10) = flatD l) (hx : l[q]? = some e) : (c.drop (q * 10)).take 2 = [.int .i64 e.1.1, .int .i64 e.1.2] := by
  apply List.ext_getElem?
  intro j
  by_cases hj : j < 2
  · rw [List.getElem?_take, if_pos hj, List.getElem?_drop, cells_at cellsD_len hct hx j (by omega)]
    rcases (show j = 0 ∨ j = 1 by omega) with rfl | rfl <;> rfl
  · rw [List.getElem?_eq_none (by simp; omega), List.getElem?_eq_none (by simp; omega)]
def FindRel (w : World) (v : Value) (l : List IA) (x : I2) (b3 : Nat) (k : Nat) (u : Value) (wr : World) : Prop :=
  ∃ i : Nat, u = .int .i64 i ∧ i + k = l.length ∧ x ∉ (l.map Prod.fst).take i ∧ At [rowD v l] w [Part.cells b3 [.int .i64 x.1, .int .i64 x.2] 45, rowD v l] wr
def FindPost (w : World) (v : Value) (l : List IA) (x : I2) (e : Ending) (w' : World) : Prop := e = .returned (.int .i64 (findD l x)) ∧ At [rowD v l] w [rowD v l] w'
set_option maxRecDepth 100000 in
set_option maxHeartbeats 2000000 in
theorem find_any {w : World} {v : Value} {l : List IA} (h : Sep [rowD v l] w) (x : I2) (hmax : l.length ≤ 1000000) :
    Calls Try.prog 19 #[v, idV x] w (FindPost w v l x) := by
  have hA := At.start h
  clear h
  obtain ⟨ax, cap, rfl, hax, hcap, _⟩ := hA.row_form (v := v) (xs := flatD l) (by with_reducible repeat (first | exact Sel.here | apply Sel.there))
  have hax' := Lib.hid hax
  clear hax
  obtain ⟨r1, t1⟩ := x
  simp only [idV]
  (try simp only [uA] at hA); have hF := hA.facts; (try simp only [fZ] at hF)
  go_enter Try.func19, Try.ntmps19
  go_wp2_with (first | ((with_reducible refine gbx ?_); refine wX 45 (.agg #[.int .i64 r1, .int .i64 t1]) [.int .i64 r1, .int .i64 t1] hA ?_; clear hF hA; intro b3 w1 hA hb3; (try simp only [uA] at hA); have hF := hA.facts; (try simp only [fZ] at hF)) | ((with_reducible refine gst ?_); refine wS hA ?_; clear hF hA; intro w1 hA; (try simp only [uA] at hA); have hF := hA.facts; (try simp only [fZ] at hF)) | ((with_reducible refine gbx ?_); refine wB hA ?_; clear hF hA; intro b1 w1 hA hb1; (try simp only [uA] at hA); have hF := hA.facts; (try simp only [fZ] at hF)))
  try go_frame
  go_loopg [5] l.length (FindRel w (.slice ax l.length cap) l (r1, t1) b3)
  case atStart => exact ⟨0, rfl, by simp, by simp, hA⟩
  case round =>
    obtain ⟨i, rfl, hik, hno, hB⟩ := hrel
    have hno' := Lib.hid hno
    clear hF hA hno; have hA := hB; clear hB
    by_cases hi : i < l.length
    · obtain ⟨g, c, rfl, _, hcm, hcl, hct, hB⟩ := hA.row_open (e := 52) (size := 10) (ax := ax) (cap := cap) (n := l.length) (xs := flatD l) (by with_reducible repeat (first | exact Sel.here | apply Sel.there)) (by omega)
      obtain ⟨y, hx⟩ : ∃ y, l[i]? = some y := ⟨_, List.getElem?_eq_getElem hi⟩
      have he := elemD hct hx
      have hy : (l.map Prod.fst)[i]? = some (y.1.1, y.1.2) := by rw [List.getElem?_map, hx]; rfl
      have htk : (l.map Prod.fst).take (i + 1) = (l.map Prod.fst).take i ++ [(y.1.1, y.1.2)] := by rw [List.take_add_one, hy]; rfl
      generalize y.1.1 = r0 at *
      generalize y.1.2 = t0 at *
      clear hA; have hA := hB; clear hB
      obtain ⟨d, hd⟩ : ∃ d, (decide (r0 = r1) && decide (t0 = t1)) = d := ⟨_, rfl⟩
      have hd' := Lib.hid (show d = decide ((r0, t0) = (r1, t1)) from by rw [← hd, Bool.eq_iff_iff]; simp)
      have hy' := Lib.hid hy
      have htk' := Lib.hid htk
      clear hx htk hy
      (try simp only [uA] at hA); have hF := hA.facts; (try simp only [fZ] at hF)
      cases d
      · go_wp2_with (first | ((with_reducible refine gst ?_); refine wS hA ?_; clear hF hA; intro w1 hA; (try simp only [uA] at hA); have hF := hA.facts; (try simp only [fZ] at hF)) | ((with_reducible refine gbx ?_); refine wB hA ?_; clear hF hA; intro b1 w1 hA hb1; (try simp only [uA] at hA); have hF := hA.facts; (try simp only [fZ] at hF)))
        try go_frame
        (refine wp_region_all (Cl _ _ _) (by kernel_rfl) (by kernel_rfl) (Cl.drew hA) ?_); (have hn1 := Cl.none hA); (have hn2 := Cl.none2 hA); (repeat (first | go_big_quiet_skip | (go_big_quiet_want; (first | (refine quiet_loads_at (ty := 45) (n := 2) rfl rfl (by with_reducible repeat (first | exact Sel.here | apply Sel.there)) (by kernel_rfl) (by kernel_rfl) (by first | assumption | ((try simp only [List.drop_succ_cons, List.drop_zero, List.take_succ_cons, List.take_zero]) <;> exact rfl)) (by exact rfl) ?_; go_frame; go_big_quiet_on) | (refine quiet_load_at rfl rfl (by with_reducible repeat (first | exact Sel.here | apply Sel.there)) (by kernel_rfl) (by first | assumption | exact rfl) ?_; go_frame; go_big_quiet_on) | (go_big_quiet_op; (first | go_big_quiet_on | ((apply Exists.intro); (refine ⟨fun w1 hw => ?_, ?_⟩); (focus ((have hw := Cl.out hw); (fail))); (go_big_quiet_on))))))))
        (refine wpQuiet_nil ?_); (intro w1 hB); (clear hF hA hn1 hn2); (have hA := Cl.out hB); (clear hB); (try simp only [uA] at hA); have hF := hA.facts; (try simp only [fZ] at hF)
        go_wp2_with (first | ((with_reducible refine gst ?_); refine wS hA ?_; clear hF hA; intro w1 hA; (try simp only [uA] at hA); have hF := hA.facts; (try simp only [fZ] at hF)) | ((with_reducible refine gbx ?_); refine wB hA ?_; clear hF hA; intro b1 w1 hA hb1; (try simp only [uA] at hA); have hF := hA.facts; (try simp only [fZ] at hF)))
        go_roundg (gk - 1)
        case measure => omega
        case rel =>
          have hB := hA.row_shut (e := 52) (size := 10) (g := g) (n := l.length) (cap := cap) (xs := flatD l) (by repeat (first | exact Sel.here | apply Sel.there)) hcl hcap hcm hct
          refine ⟨i + 1, by simp, by omega, ?_, hB.pick (by repeat (first | exact Picks.nil | refine Picks.cons (by repeat (first | exact Sel.here | apply Sel.there)) ?_))⟩
          rw [htk'.out]
          intro hm
          rcases List.mem_append.1 hm with hm | hm
          · exact hno'.out hm
          · exact of_decide_eq_false hd'.out.symm (List.mem_singleton.1 hm).symm
      · go_wp2_with (first | ((with_reducible refine gst ?_); refine wS hA ?_; clear hF hA; intro w1 hA; (try simp only [uA] at hA); have hF := hA.facts; (try simp only [fZ] at hF)) | ((with_reducible refine gbx ?_); refine wB hA ?_; clear hF hA; intro b1 w1 hA hb1; (try simp only [uA] at hA); have hF := hA.facts; (try simp only [fZ] at hF)))
        try go_frame
        (refine wp_region_all (Cl _ _ _) (by kernel_rfl) (by kernel_rfl) (Cl.drew hA) ?_); (have hn1 := Cl.none hA); (have hn2 := Cl.none2 hA); (repeat (first | go_big_quiet_skip | (go_big_quiet_want; (first | (refine quiet_loads_at (ty := 45) (n := 2) rfl rfl (by with_reducible repeat (first | exact Sel.here | apply Sel.there)) (by kernel_rfl) (by kernel_rfl) (by first | assumption | ((try simp only [List.drop_succ_cons, List.drop_zero, List.take_succ_cons, List.take_zero]) <;> exact rfl)) (by exact rfl) ?_; go_frame; go_big_quiet_on) | (refine quiet_load_at rfl rfl (by with_reducible repeat (first | exact Sel.here | apply Sel.there)) (by kernel_rfl) (by first | assumption | exact rfl) ?_; go_frame; go_big_quiet_on) | (go_big_quiet_op; (first | go_big_quiet_on | ((apply Exists.intro); (refine ⟨fun w1 hw => ?_, ?_⟩); (focus ((have hw := Cl.out hw); (fail))); (go_big_quiet_on))))))))
        (refine wpQuiet_nil ?_); (intro w1 hB); (clear hF hA hn1 hn2); (have hA := Cl.out hB); (clear hB); (try simp only [uA] at hA); have hF := hA.facts; (try simp only [fZ] at hF)
        go_wp2_with (first | ((with_reducible refine gst ?_); refine wS hA ?_; clear hF hA; intro w1 hA; (try simp only [uA] at hA); have hF := hA.facts; (try simp only [fZ] at hF)) | ((with_reducible refine gbx ?_); refine wB hA ?_; clear hF hA; intro b1 w1 hA hb1; (try simp only [uA] at hA); have hF := hA.facts; (try simp only [fZ] at hF)))
        go_ret
        have e0 := of_decide_eq_true hd'.out.symm
        have hx0 := hy'.out
        rw [e0] at hx0
        have hB := hA.row_shut (e := 52) (size := 10) (g := g) (n := l.length) (cap := cap) (xs := flatD l) (by repeat (first | exact Sel.here | apply Sel.there)) hcl hcap hcm hct
        exact ⟨by unfold findD; rw [idxI_at hx0 hno'.out]; rfl, hB.only1 (by repeat (first | exact Sel.here | apply Sel.there))⟩
    · have hF := hA.facts
      (try simp only [uA] at hA); have hF := hA.facts; (try simp only [fZ] at hF)
      go_wp2_with (first | ((with_reducible refine gst ?_); refine wS hA ?_; clear hF hA; intro w1 hA; (try simp only [uA] at hA); have hF := hA.facts; (try simp only [fZ] at hF)) | ((with_reducible refine gbx ?_); refine wB hA ?_; clear hF hA; intro b1 w1 hA hb1; (try simp only [uA] at hA); have hF := hA.facts; (try simp only [fZ] at hF)))
      go_ret
      have hno2 := hno'.out
      rw [List.take_of_length_le (by simp; omega)] at hno2
      exact ⟨by unfold findD; rw [idxI_no hno2]; rfl, hA.only1 (by repeat (first | exact Sel.here | apply Sel.there))⟩
end Go.Proofs.Ytgicohkmfbbbdaa.Ref
end
