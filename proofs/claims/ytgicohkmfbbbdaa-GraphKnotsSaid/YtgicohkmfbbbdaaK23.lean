/- GraH, joined. -/
import Derived.Test.YtgicohkmfbbbdaaK21
section
namespace Go.Proofs.Ytgicohkmfbbbdaa.Gr
open _root_.Go.Proofs.Ytgicohkmfbbbdaa.Ref (rowD flatD cellsD cellsD_len elemD IA)
open _root_.Go.Proofs.Ytgicohkmfbbbdaa.Attr (guardI eqlI_any neqI_any guardJ eqlJ_any neqJ_any)
open Go.RowKit
set_option linter.unusedSimpArgs false
set_option linter.unusedVariables false
attribute [-go_sem] run_eql_struct run_neq_struct run_eqGuard_agg
attribute [local go_sem] guardI eqlI_any neqI_any guardJ eqlJ_any neqJ_any

def SmRel (w : World) (v u : Value) (l : List I2) (xs : List IA) (k : Nat) (z : Value) (wr : World) : Prop :=
  ∃ i : Nat, z = .int .i64 i ∧ i + k = l.length ∧ l.take i = (xs.map Prod.fst).take i ∧ At [rowI2 v l, rowD u xs] w [rowI2 v l, rowD u xs] wr
def SmPost (w : World) (v u : Value) (l : List I2) (xs : List IA) (e : Ending) (w' : World) : Prop := e = .returned (.bool (decide (l = xs.map Prod.fst))) ∧ At [rowI2 v l, rowD u xs] w [rowI2 v l, rowD u xs] w'
set_option maxRecDepth 100000 in
set_option maxHeartbeats 2000000 in
theorem same_any {w : World} {v u : Value} {l : List I2} {xs : List IA} (h : Sep [rowI2 v l, rowD u xs] w) (hmax : l.length ≤ 1000000) :
    Calls Try.prog 14 #[v, u] w (SmPost w v u l xs) := by
  have hA := At.start h
  clear h
  obtain ⟨ax, cap, rfl, hax, hcap, _⟩ := hA.row_form (e := 38) (size := 2) (n := l.length) (v := v) (xs := flatI l) sZ
  obtain ⟨ay, cay, rfl, hay, hcay, _⟩ := hA.row_form (e := 52) (size := 10) (n := xs.length) (v := u) (xs := flatD xs) sZ
  have hax' := Lib.hid hax
  have hay' := Lib.hid hay
  clear hax hay
  (try simp only [uA] at hA); have hF := hA.facts; (try simp only [fZ] at hF)
  go_enter Try.func14, Try.ntmps14
  by_cases hl : l.length = xs.length
  · go_wp2_with (first | ((with_reducible refine gst ?_); refine wS hA ?_; clear hF hA; intro w1 hA; (try simp only [uA] at hA); have hF := hA.facts; (try simp only [fZ] at hF)) | ((with_reducible refine gbx ?_); refine wB hA ?_; clear hF hA; intro b1 w1 hA hb1; (try simp only [uA] at hA); have hF := hA.facts; (try simp only [fZ] at hF)))
    try go_frame
    go_loopg [14] l.length (SmRel w (.slice ax l.length cap) (.slice ay xs.length cay) l xs)
    case atStart => exact ⟨0, rfl, by simp, by simp, hA⟩
    case round =>
      obtain ⟨i, rfl, hik, hno, hB⟩ := hrel
      have hno' := Lib.hid hno
      clear hF hA hno; have hA := hB; clear hB
      by_cases hi : i < l.length
      · obtain ⟨y, hx⟩ : ∃ y, l[i]? = some y := ⟨_, List.getElem?_eq_getElem hi⟩
        have hix : i < xs.length := by omega
        have hixI : (i : Int) < xs.length := by omega
        obtain ⟨x, hx2⟩ : ∃ x, xs[i]? = some x := ⟨_, List.getElem?_eq_getElem hix⟩
        have htk : l.take (i + 1) = l.take i ++ [y] := by rw [List.take_add_one, hx]; rfl
        have htk2 : (xs.map Prod.fst).take (i + 1) = (xs.map Prod.fst).take i ++ [(x.1.1, x.1.2)] := by rw [List.take_add_one, List.getElem?_map, hx2]; rfl
        have hne : y ≠ (x.1.1, x.1.2) → l ≠ xs.map Prod.fst := fun hn e => by
          rw [e, List.getElem?_map, hx2] at hx
          exact hn (Option.some.inj hx).symm
        obtain ⟨bt, offt, hax2, hce⟩ := row_elem (hA.row_reads (v := .slice ax l.length cap) (n := l.length) (xs := flatI l) sZ) hx
        obtain ⟨r0, t0⟩ := y
        subst hax2
        obtain ⟨g, c, rfl, _, hcm, hcl, hct, hB⟩ := hA.row_open (e := 52) (size := 10) (ax := ay) (cap := cay) (n := xs.length) (xs := flatD xs) sZ (by omega)
        have he := elemD hct hx2
        have hr2' := Lib.hid (show ∀ (k : Nat) u, ([.int .i64 r0, .int .i64 t0] : List Value)[k]? = some u → wr.cell? ⟨bt, offt + i * 2 + k, none⟩ = some u from hce)
        clear hce hx hx2
        generalize x.1.1 = r1 at *
        generalize x.1.2 = t1 at *
        clear hA; have hA := hB; clear hB
        obtain ⟨d, hd⟩ : ∃ d, (decide (r0 = r1) && decide (t0 = t1)) = d := ⟨_, rfl⟩
        have hd' := Lib.hid (show d = decide ((r0, t0) = (r1, t1)) from by rw [← hd, Bool.eq_iff_iff]; simp)
        have hne' := Lib.hid hne
        have htk' := Lib.hid htk
        have htk2' := Lib.hid htk2
        clear htk htk2 hne
        have hl' := Lib.hid hl
        clear hl
        (try simp only [uA] at hA); have hF := hA.facts; (try simp only [fZ] at hF)
        cases d
        · go_wp2_with (first | ((with_reducible refine gal ?_); refine wA 38 (.agg #[.int .i64 0, .int .i64 0]) [.int .i64 0, .int .i64 0] hA ?_; clear hF hA; intro b6 w1 hA hb6; (try simp only [uA] at hA); have hF := hA.facts; (try simp only [fZ] at hF)) | ((with_reducible show wpList _ _ _ ({ dst := some 18, op := Op.load _ _, type := _, pos := _, after := _, guard := _ } :: _) _ _); refine wpList_loadRow_at (vs := [.int .i64 r0, .int .i64 t0]) rfl rfl (by (try simp only [Act.eval, eV]) <;> exact rfl) hr2'.out (by kernel_rfl) (by kernel_rfl) ?_) | ((with_reducible refine gst ?_); refine wS hA ?_; clear hF hA; intro w1 hA; (try simp only [uA] at hA); have hF := hA.facts; (try simp only [fZ] at hF)) | ((with_reducible refine gbx ?_); refine wB hA ?_; clear hF hA; intro b1 w1 hA hb1; (try simp only [uA] at hA); have hF := hA.facts; (try simp only [fZ] at hF)))
          try go_frame
          (refine wp_region_all (Cl _ _ _) (by kernel_rfl) (by kernel_rfl) (Cl.drew hA) ?_); (have hn1 := Cl.none hA); (have hn2 := Cl.none2 hA); (repeat (first | go_big_quiet_skip | (go_big_quiet_want; (first | (refine quiet_loads_at (ty := 45) (n := 2) rfl rfl sR (by kernel_rfl) (by kernel_rfl) (by first | assumption | ((try simp only [List.drop_succ_cons, List.drop_zero, List.take_succ_cons, List.take_zero]) <;> exact rfl)) (by exact rfl) ?_; go_frame; go_big_quiet_on) | (refine quiet_loads_at (ty := 38) (n := 2) rfl rfl sR (by kernel_rfl) (by kernel_rfl) (by first | assumption | ((try simp only [List.drop_succ_cons, List.drop_zero, List.take_succ_cons, List.take_zero]) <;> exact rfl)) (by exact rfl) ?_; go_frame; go_big_quiet_on) | (refine quiet_load_at rfl rfl sR (by kernel_rfl) (by first | assumption | exact rfl) ?_; go_frame; go_big_quiet_on) | (go_big_quiet_op; (first | go_big_quiet_on | ((apply Exists.intro); (refine ⟨fun w1 hw => ?_, ?_⟩); (focus ((have hw := Cl.out hw); (fail))); (go_big_quiet_on))))))))
          (refine wpQuiet_nil ?_); (intro w1 hB); (clear hF hA hn1 hn2); (have hA := Cl.out hB); (clear hB); (try simp only [uA] at hA); have hF := hA.facts; (try simp only [fZ] at hF)
          go_wp2_with (first | ((with_reducible refine gst ?_); refine wS hA ?_; clear hF hA; intro w1 hA; (try simp only [uA] at hA); have hF := hA.facts; (try simp only [fZ] at hF)) | ((with_reducible refine gbx ?_); refine wB hA ?_; clear hF hA; intro b1 w1 hA hb1; (try simp only [uA] at hA); have hF := hA.facts; (try simp only [fZ] at hF)))
          go_ret
          have hB := hA.row_shut (e := 52) (size := 10) (g := g) (n := xs.length) (cap := cay) (xs := flatD xs) sZ hcl hcay hcm hct
          exact ⟨by rw [decide_eq_false (hne'.out (of_decide_eq_false hd'.out.symm))]; rfl, hB.pick pZ⟩
        · go_wp2_with (first | ((with_reducible refine gal ?_); refine wA 38 (.agg #[.int .i64 0, .int .i64 0]) [.int .i64 0, .int .i64 0] hA ?_; clear hF hA; intro b6 w1 hA hb6; (try simp only [uA] at hA); have hF := hA.facts; (try simp only [fZ] at hF)) | ((with_reducible show wpList _ _ _ ({ dst := some 18, op := Op.load _ _, type := _, pos := _, after := _, guard := _ } :: _) _ _); refine wpList_loadRow_at (vs := [.int .i64 r0, .int .i64 t0]) rfl rfl (by (try simp only [Act.eval, eV]) <;> exact rfl) hr2'.out (by kernel_rfl) (by kernel_rfl) ?_) | ((with_reducible refine gst ?_); refine wS hA ?_; clear hF hA; intro w1 hA; (try simp only [uA] at hA); have hF := hA.facts; (try simp only [fZ] at hF)) | ((with_reducible refine gbx ?_); refine wB hA ?_; clear hF hA; intro b1 w1 hA hb1; (try simp only [uA] at hA); have hF := hA.facts; (try simp only [fZ] at hF)))
          try go_frame
          (refine wp_region_all (Cl _ _ _) (by kernel_rfl) (by kernel_rfl) (Cl.drew hA) ?_); (have hn1 := Cl.none hA); (have hn2 := Cl.none2 hA); (repeat (first | go_big_quiet_skip | (go_big_quiet_want; (first | (refine quiet_loads_at (ty := 45) (n := 2) rfl rfl sR (by kernel_rfl) (by kernel_rfl) (by first | assumption | ((try simp only [List.drop_succ_cons, List.drop_zero, List.take_succ_cons, List.take_zero]) <;> exact rfl)) (by exact rfl) ?_; go_frame; go_big_quiet_on) | (refine quiet_loads_at (ty := 38) (n := 2) rfl rfl sR (by kernel_rfl) (by kernel_rfl) (by first | assumption | ((try simp only [List.drop_succ_cons, List.drop_zero, List.take_succ_cons, List.take_zero]) <;> exact rfl)) (by exact rfl) ?_; go_frame; go_big_quiet_on) | (refine quiet_load_at rfl rfl sR (by kernel_rfl) (by first | assumption | exact rfl) ?_; go_frame; go_big_quiet_on) | (go_big_quiet_op; (first | go_big_quiet_on | ((apply Exists.intro); (refine ⟨fun w1 hw => ?_, ?_⟩); (focus ((have hw := Cl.out hw); (fail))); (go_big_quiet_on))))))))
          (refine wpQuiet_nil ?_); (intro w1 hB); (clear hF hA hn1 hn2); (have hA := Cl.out hB); (clear hB); (try simp only [uA] at hA); have hF := hA.facts; (try simp only [fZ] at hF)
          go_wp2_with (first | ((with_reducible refine gst ?_); refine wS hA ?_; clear hF hA; intro w1 hA; (try simp only [uA] at hA); have hF := hA.facts; (try simp only [fZ] at hF)) | ((with_reducible refine gbx ?_); refine wB hA ?_; clear hF hA; intro b1 w1 hA hb1; (try simp only [uA] at hA); have hF := hA.facts; (try simp only [fZ] at hF)))
          go_roundg (gk - 1)
          case measure => omega
          case rel =>
            have hB := hA.row_shut (e := 52) (size := 10) (g := g) (n := xs.length) (cap := cay) (xs := flatD xs) sZ hcl hcay hcm hct
            exact ⟨i + 1, by simp, by omega, by rw [htk'.out, htk2'.out, hno'.out, of_decide_eq_true hd'.out.symm], hB.pick pZ⟩
      · have hl' := Lib.hid hl
        (try simp only [uA] at hA); have hF := hA.facts; (try simp only [fZ] at hF)
        go_wp2_with (first | ((with_reducible refine gst ?_); refine wS hA ?_; clear hF hA; intro w1 hA; (try simp only [uA] at hA); have hF := hA.facts; (try simp only [fZ] at hF)) | ((with_reducible refine gbx ?_); refine wB hA ?_; clear hF hA; intro b1 w1 hA hb1; (try simp only [uA] at hA); have hF := hA.facts; (try simp only [fZ] at hF)))
        go_ret
        have hno2 := hno'.out
        rw [List.take_of_length_le (by omega), List.take_of_length_le (by simp; have := hl'.out; omega)] at hno2
        exact ⟨by rw [decide_eq_true hno2]; rfl, hA.pick pZ⟩
  · go_wp2_with (first | ((with_reducible refine gst ?_); refine wS hA ?_; clear hF hA; intro w1 hA; (try simp only [uA] at hA); have hF := hA.facts; (try simp only [fZ] at hF)) | ((with_reducible refine gbx ?_); refine wB hA ?_; clear hF hA; intro b1 w1 hA hb1; (try simp only [uA] at hA); have hF := hA.facts; (try simp only [fZ] at hF)))
    go_ret
    exact ⟨by rw [decide_eq_false (fun e => hl (by rw [e]; simp))]; rfl, hA.pick pZ⟩
end Go.Proofs.Ytgicohkmfbbbdaa.Gr
end
