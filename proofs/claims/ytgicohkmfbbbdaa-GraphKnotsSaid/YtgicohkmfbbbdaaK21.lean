/- RefJ, RefK, RefL, GraX, GrbF, joined. -/
import Derived.Test.YtgicohkmfbbbdaaK20
section
namespace Go.Proofs.Ytgicohkmfbbbdaa.Ref
open _root_.Go.Proofs.Ytgicohkmfbbbdaa.Gr
open _root_.Go.Proofs.Ytgicohkmfbbbdaa.Mark (ltID)
open _root_.Go.Proofs.Ytgicohkmfbbbdaa.Attr (guardI eqlI_any neqI_any guardJ eqlJ_any)
open Go.RowKit
set_option linter.unusedSimpArgs false
set_option linter.unusedVariables false
attribute [-go_sem] run_eql_struct run_neq_struct run_eqGuard_agg
attribute [local go_sem] guardI eqlI_any neqI_any guardJ eqlJ_any

set_option maxRecDepth 100000 in
theorem before_any (a b : I2) (w : World) : Calls Try.prog 49 #[idV a, idV b] w fun e w' => e = .returned (.bool (decide (ltID a b))) ∧ Ext w w' := by
  have hA : At [] w [] w := At.start (L0 := []) trivial
  have hF := hA.facts
  obtain ⟨r1, t1⟩ := a
  obtain ⟨r2, t2⟩ := b
  simp only [idV]
  (try simp only [uA] at hA); have hF := hA.facts; (try simp only [fZ] at hF)
  go_enter Try.func49, Try.ntmps49
  by_cases h0 : r1 < r2
  · skip
    rw [show decide (ltID (r1, t1) (r2, t2)) = true from decide_eq_true (by show r1 < r2 ∨ (r1 = r2 ∧ t1 < t2); omega)]
    go_wp2_with (first | ((with_reducible show wpList _ _ _ ({ dst := some 2, op := Op.box _ _, type := _, pos := _, after := _, guard := _ } :: _) _ _); ((with_reducible refine gbx ?_); refine wX 45 (.agg #[.int .i64 r1, .int .i64 t1]) [.int .i64 r1, .int .i64 t1] hA ?_; clear hF hA; intro bX w1 hA hbX; (try simp only [uA] at hA); have hF := hA.facts; (try simp only [fZ] at hF))) | ((with_reducible show wpList _ _ _ ({ dst := some 3, op := Op.box _ _, type := _, pos := _, after := _, guard := _ } :: _) _ _); ((with_reducible refine gbx ?_); refine wX 45 (.agg #[.int .i64 r2, .int .i64 t2]) [.int .i64 r2, .int .i64 t2] hA ?_; clear hF hA; intro bY w1 hA hbY; (try simp only [uA] at hA); have hF := hA.facts; (try simp only [fZ] at hF))) | ((with_reducible refine gst ?_); refine wS hA ?_; clear hF hA; intro w1 hA; (try simp only [uA] at hA); have hF := hA.facts; (try simp only [fZ] at hF)) | ((with_reducible refine gbx ?_); refine wB hA ?_; clear hF hA; intro b1 w1 hA hb1; (try simp only [uA] at hA); have hF := hA.facts; (try simp only [fZ] at hF)))
    go_ret
    exact ⟨rfl, hA.toExt⟩
  · by_cases h1 : r1 = r2
    · by_cases h2 : t1 < t2
      · skip
        rw [show decide (ltID (r1, t1) (r2, t2)) = true from decide_eq_true (by show r1 < r2 ∨ (r1 = r2 ∧ t1 < t2); omega)]
        go_wp2_with (first | ((with_reducible show wpList _ _ _ ({ dst := some 2, op := Op.box _ _, type := _, pos := _, after := _, guard := _ } :: _) _ _); ((with_reducible refine gbx ?_); refine wX 45 (.agg #[.int .i64 r1, .int .i64 t1]) [.int .i64 r1, .int .i64 t1] hA ?_; clear hF hA; intro bX w1 hA hbX; (try simp only [uA] at hA); have hF := hA.facts; (try simp only [fZ] at hF))) | ((with_reducible show wpList _ _ _ ({ dst := some 3, op := Op.box _ _, type := _, pos := _, after := _, guard := _ } :: _) _ _); ((with_reducible refine gbx ?_); refine wX 45 (.agg #[.int .i64 r2, .int .i64 t2]) [.int .i64 r2, .int .i64 t2] hA ?_; clear hF hA; intro bY w1 hA hbY; (try simp only [uA] at hA); have hF := hA.facts; (try simp only [fZ] at hF))) | ((with_reducible refine gst ?_); refine wS hA ?_; clear hF hA; intro w1 hA; (try simp only [uA] at hA); have hF := hA.facts; (try simp only [fZ] at hF)) | ((with_reducible refine gbx ?_); refine wB hA ?_; clear hF hA; intro b1 w1 hA hb1; (try simp only [uA] at hA); have hF := hA.facts; (try simp only [fZ] at hF)))
        go_ret
        exact ⟨rfl, hA.toExt⟩
      · skip
        rw [show decide (ltID (r1, t1) (r2, t2)) = false from decide_eq_false (by show ¬ (r1 < r2 ∨ (r1 = r2 ∧ t1 < t2)); omega)]
        go_wp2_with (first | ((with_reducible show wpList _ _ _ ({ dst := some 2, op := Op.box _ _, type := _, pos := _, after := _, guard := _ } :: _) _ _); ((with_reducible refine gbx ?_); refine wX 45 (.agg #[.int .i64 r1, .int .i64 t1]) [.int .i64 r1, .int .i64 t1] hA ?_; clear hF hA; intro bX w1 hA hbX; (try simp only [uA] at hA); have hF := hA.facts; (try simp only [fZ] at hF))) | ((with_reducible show wpList _ _ _ ({ dst := some 3, op := Op.box _ _, type := _, pos := _, after := _, guard := _ } :: _) _ _); ((with_reducible refine gbx ?_); refine wX 45 (.agg #[.int .i64 r2, .int .i64 t2]) [.int .i64 r2, .int .i64 t2] hA ?_; clear hF hA; intro bY w1 hA hbY; (try simp only [uA] at hA); have hF := hA.facts; (try simp only [fZ] at hF))) | ((with_reducible refine gst ?_); refine wS hA ?_; clear hF hA; intro w1 hA; (try simp only [uA] at hA); have hF := hA.facts; (try simp only [fZ] at hF)) | ((with_reducible refine gbx ?_); refine wB hA ?_; clear hF hA; intro b1 w1 hA hb1; (try simp only [uA] at hA); have hF := hA.facts; (try simp only [fZ] at hF)))
        go_ret
        exact ⟨rfl, hA.toExt⟩
    · skip
      rw [show decide (ltID (r1, t1) (r2, t2)) = false from decide_eq_false (by show ¬ (r1 < r2 ∨ (r1 = r2 ∧ t1 < t2)); omega)]
      go_wp2_with (first | ((with_reducible show wpList _ _ _ ({ dst := some 2, op := Op.box _ _, type := _, pos := _, after := _, guard := _ } :: _) _ _); ((with_reducible refine gbx ?_); refine wX 45 (.agg #[.int .i64 r1, .int .i64 t1]) [.int .i64 r1, .int .i64 t1] hA ?_; clear hF hA; intro bX w1 hA hbX; (try simp only [uA] at hA); have hF := hA.facts; (try simp only [fZ] at hF))) | ((with_reducible show wpList _ _ _ ({ dst := some 3, op := Op.box _ _, type := _, pos := _, after := _, guard := _ } :: _) _ _); ((with_reducible refine gbx ?_); refine wX 45 (.agg #[.int .i64 r2, .int .i64 t2]) [.int .i64 r2, .int .i64 t2] hA ?_; clear hF hA; intro bY w1 hA hbY; (try simp only [uA] at hA); have hF := hA.facts; (try simp only [fZ] at hF))) | ((with_reducible refine gst ?_); refine wS hA ?_; clear hF hA; intro w1 hA; (try simp only [uA] at hA); have hF := hA.facts; (try simp only [fZ] at hF)) | ((with_reducible refine gbx ?_); refine wB hA ?_; clear hF hA; intro b1 w1 hA hb1; (try simp only [uA] at hA); have hF := hA.facts; (try simp only [fZ] at hF)))
      go_ret
      exact ⟨rfl, hA.toExt⟩
end Go.Proofs.Ytgicohkmfbbbdaa.Ref
end

section
namespace Go.Proofs.Ytgicohkmfbbbdaa.Ref
open _root_.Go.Proofs.Ytgicohkmfbbbdaa.Gr
open _root_.Go.Proofs.Ytgicohkmfbbbdaa.Mark (ltID)
open _root_.Go.Proofs.Ytgicohkmfbbbdaa.Attr (A8 guardI eqlI_any neqI_any guardJ eqlJ_any)
open Go.RowKit
set_option linter.unusedSimpArgs false
set_option linter.unusedVariables false
attribute [-go_sem] run_eql_struct run_neq_struct run_eqGuard_agg
attribute [local go_sem] guardI eqlI_any neqI_any guardJ eqlJ_any

/-- an instance, and its attributes -/
abbrev IA := I2 × A8
def cellsD (e : IA) : List Value := [.int .i64 e.1.1, .int .i64 e.1.2, .int .i64 e.2.s, .int .i64 e.2.d0, .int .i64 e.2.d1, .int .i64 e.2.d2, .int .i64 e.2.d3, .int .i64 e.2.d4, .int .i64 e.2.d5, .int .i64 e.2.d6]
theorem cellsD_len (e : IA) : (cellsD e).length = 10 := rfl
theorem cellsD_ones (e : IA) : (cellsD e).all (·.oneCell') = true := rfl
theorem cellsD_one (e : IA) : ∀ u ∈ cellsD e, u.oneCell' = true := List.all_eq_true.1 (cellsD_ones e)
def flatD (l : List IA) : List Value := l.flatMap cellsD
theorem flatD_len (l : List IA) : (flatD l).length = l.length * 10 := flat_len _ _ cellsD_len _
abbrev rowD (v : Value) (l : List IA) : Part := Part.row 52 10 v l.length (flatD l)
/-- where an instance is -/
def findD (l : List IA) (x : I2) : Int := idxI (l.map Prod.fst) x
theorem elemD {c : List Value} {l : List IA} {q : Nat} {e : IA} (hct : c.take (l.length * 10) = flatD l) (hx : l[q]? = some e) : (c.drop (q * 10)).take 2 = [.int .i64 e.1.1, .int .i64 e.1.2] := by
  apply List.ext_getElem?
  intro j
  by_cases hj : j < 2
  · rw [List.getElem?_take, if_pos hj, List.getElem?_drop, cells_at cellsD_len hct hx j (by omega)]
    rcases (show j = 0 ∨ j = 1 by omega) with rfl | rfl <;> rfl
  · rw [List.getElem?_eq_none (by simp; omega), List.getElem?_eq_none (by simp; omega)]
def FindRel (w : World) (v : Value) (l : List IA) (x : I2) (b3 : Nat) (k : Nat) (u : Value) (wr : World) : Prop :=
  ∃ i : Nat, u = .int .i64 i ∧ i + k = l.length ∧ x ∉ (l.map Prod.fst).take i ∧ At [rowD v l] w [Part.cells b3 [.int .i64 x.1, .int .i64 x.2] 45, rowD v l] wr
def FindPost (w : World) (v : Value) (l : List IA) (x : I2) (e : Ending) (w' : World) : Prop := e = .returned (.int .i64 (findD l x)) ∧ At [rowD v l] w [rowD v l] w'
set_option maxRecDepth 100000 in
set_option maxHeartbeats 2000000 in
theorem find_any {w : World} {v : Value} {l : List IA} (h : Sep [rowD v l] w) (x : I2) (hmax : l.length ≤ 1000000) :
    Calls Try.prog 19 #[v, idV x] w (FindPost w v l x) := by
  have hA := At.start h
  clear h
  obtain ⟨ax, cap, rfl, hax, hcap, _⟩ := hA.row_form (v := v) (xs := flatD l) sR
  have hax' := Lib.hid hax
  clear hax
  obtain ⟨r1, t1⟩ := x
  simp only [idV]
  (try simp only [uA] at hA); have hF := hA.facts; (try simp only [fZ] at hF)
  go_enter Try.func19, Try.ntmps19
  go_wp2_with (first | ((with_reducible refine gbx ?_); refine wX 45 (.agg #[.int .i64 r1, .int .i64 t1]) [.int .i64 r1, .int .i64 t1] hA ?_; clear hF hA; intro b3 w1 hA hb3; (try simp only [uA] at hA); have hF := hA.facts; (try simp only [fZ] at hF)) | ((with_reducible refine gst ?_); refine wS hA ?_; clear hF hA; intro w1 hA; (try simp only [uA] at hA); have hF := hA.facts; (try simp only [fZ] at hF)) | ((with_reducible refine gbx ?_); refine wB hA ?_; clear hF hA; intro b1 w1 hA hb1; (try simp only [uA] at hA); have hF := hA.facts; (try simp only [fZ] at hF)))
  try go_frame
  go_loopg [5] l.length (FindRel w (.slice ax l.length cap) l (r1, t1) b3)
  case atStart => exact ⟨0, rfl, by simp, by simp, hA⟩
  case round =>
    obtain ⟨i, rfl, hik, hno, hB⟩ := hrel
    have hno' := Lib.hid hno
    clear hF hA hno; have hA := hB; clear hB
    by_cases hi : i < l.length
    · obtain ⟨g, c, rfl, _, hcm, hcl, hct, hB⟩ := hA.row_open (e := 52) (size := 10) (ax := ax) (cap := cap) (n := l.length) (xs := flatD l) sR (by omega)
      obtain ⟨y, hx⟩ : ∃ y, l[i]? = some y := ⟨_, List.getElem?_eq_getElem hi⟩
      have he := elemD hct hx
      have hy : (l.map Prod.fst)[i]? = some (y.1.1, y.1.2) := by rw [List.getElem?_map, hx]; rfl
      have htk : (l.map Prod.fst).take (i + 1) = (l.map Prod.fst).take i ++ [(y.1.1, y.1.2)] := by rw [List.take_add_one, hy]; rfl
      generalize y.1.1 = r0 at *
      generalize y.1.2 = t0 at *
      clear hA; have hA := hB; clear hB
      obtain ⟨d, hd⟩ : ∃ d, (decide (r0 = r1) && decide (t0 = t1)) = d := ⟨_, rfl⟩
      have hd' := Lib.hid (show d = decide ((r0, t0) = (r1, t1)) from by rw [← hd, Bool.eq_iff_iff]; simp)
      have hy' := Lib.hid hy
      have htk' := Lib.hid htk
      clear hx htk hy
      (try simp only [uA] at hA); have hF := hA.facts; (try simp only [fZ] at hF)
      cases d
      · go_wp2_with (first | ((with_reducible refine gst ?_); refine wS hA ?_; clear hF hA; intro w1 hA; (try simp only [uA] at hA); have hF := hA.facts; (try simp only [fZ] at hF)) | ((with_reducible refine gbx ?_); refine wB hA ?_; clear hF hA; intro b1 w1 hA hb1; (try simp only [uA] at hA); have hF := hA.facts; (try simp only [fZ] at hF)))
        try go_frame
        (refine wp_region_all (Cl _ _ _) (by kernel_rfl) (by kernel_rfl) (Cl.drew hA) ?_); (have hn1 := Cl.none hA); (have hn2 := Cl.none2 hA); (repeat (first | go_big_quiet_skip | (go_big_quiet_want; (first | (refine quiet_loads_at (ty := 45) (n := 2) rfl rfl sR (by kernel_rfl) (by kernel_rfl) (by first | assumption | ((try simp only [List.drop_succ_cons, List.drop_zero, List.take_succ_cons, List.take_zero]) <;> exact rfl)) (by exact rfl) ?_; go_frame; go_big_quiet_on) | (refine quiet_load_at rfl rfl sR (by kernel_rfl) (by first | assumption | exact rfl) ?_; go_frame; go_big_quiet_on) | (go_big_quiet_op; (first | go_big_quiet_on | ((apply Exists.intro); (refine ⟨fun w1 hw => ?_, ?_⟩); (focus ((have hw := Cl.out hw); (fail))); (go_big_quiet_on))))))))
        (refine wpQuiet_nil ?_); (intro w1 hB); (clear hF hA hn1 hn2); (have hA := Cl.out hB); (clear hB); (try simp only [uA] at hA); have hF := hA.facts; (try simp only [fZ] at hF)
        go_wp2_with (first | ((with_reducible refine gst ?_); refine wS hA ?_; clear hF hA; intro w1 hA; (try simp only [uA] at hA); have hF := hA.facts; (try simp only [fZ] at hF)) | ((with_reducible refine gbx ?_); refine wB hA ?_; clear hF hA; intro b1 w1 hA hb1; (try simp only [uA] at hA); have hF := hA.facts; (try simp only [fZ] at hF)))
        go_roundg (gk - 1)
        case measure => omega
        case rel =>
          have hB := hA.row_shut (e := 52) (size := 10) (g := g) (n := l.length) (cap := cap) (xs := flatD l) sZ hcl hcap hcm hct
          refine ⟨i + 1, by simp, by omega, ?_, hB.pick pZ⟩
          rw [htk'.out]
          intro hm
          rcases List.mem_append.1 hm with hm | hm
          · exact hno'.out hm
          · exact of_decide_eq_false hd'.out.symm (List.mem_singleton.1 hm).symm
      · go_wp2_with (first | ((with_reducible refine gst ?_); refine wS hA ?_; clear hF hA; intro w1 hA; (try simp only [uA] at hA); have hF := hA.facts; (try simp only [fZ] at hF)) | ((with_reducible refine gbx ?_); refine wB hA ?_; clear hF hA; intro b1 w1 hA hb1; (try simp only [uA] at hA); have hF := hA.facts; (try simp only [fZ] at hF)))
        try go_frame
        (refine wp_region_all (Cl _ _ _) (by kernel_rfl) (by kernel_rfl) (Cl.drew hA) ?_); (have hn1 := Cl.none hA); (have hn2 := Cl.none2 hA); (repeat (first | go_big_quiet_skip | (go_big_quiet_want; (first | (refine quiet_loads_at (ty := 45) (n := 2) rfl rfl sR (by kernel_rfl) (by kernel_rfl) (by first | assumption | ((try simp only [List.drop_succ_cons, List.drop_zero, List.take_succ_cons, List.take_zero]) <;> exact rfl)) (by exact rfl) ?_; go_frame; go_big_quiet_on) | (refine quiet_load_at rfl rfl sR (by kernel_rfl) (by first | assumption | exact rfl) ?_; go_frame; go_big_quiet_on) | (go_big_quiet_op; (first | go_big_quiet_on | ((apply Exists.intro); (refine ⟨fun w1 hw => ?_, ?_⟩); (focus ((have hw := Cl.out hw); (fail))); (go_big_quiet_on))))))))
        (refine wpQuiet_nil ?_); (intro w1 hB); (clear hF hA hn1 hn2); (have hA := Cl.out hB); (clear hB); (try simp only [uA] at hA); have hF := hA.facts; (try simp only [fZ] at hF)
        go_wp2_with (first | ((with_reducible refine gst ?_); refine wS hA ?_; clear hF hA; intro w1 hA; (try simp only [uA] at hA); have hF := hA.facts; (try simp only [fZ] at hF)) | ((with_reducible refine gbx ?_); refine wB hA ?_; clear hF hA; intro b1 w1 hA hb1; (try simp only [uA] at hA); have hF := hA.facts; (try simp only [fZ] at hF)))
        go_ret
        have e0 := of_decide_eq_true hd'.out.symm
        have hx0 := hy'.out
        rw [e0] at hx0
        have hB := hA.row_shut (e := 52) (size := 10) (g := g) (n := l.length) (cap := cap) (xs := flatD l) sZ hcl hcap hcm hct
        exact ⟨by unfold findD; rw [idxI_at hx0 hno'.out]; rfl, hB.only1 sZ⟩
    · have hF := hA.facts
      (try simp only [uA] at hA); have hF := hA.facts; (try simp only [fZ] at hF)
      go_wp2_with (first | ((with_reducible refine gst ?_); refine wS hA ?_; clear hF hA; intro w1 hA; (try simp only [uA] at hA); have hF := hA.facts; (try simp only [fZ] at hF)) | ((with_reducible refine gbx ?_); refine wB hA ?_; clear hF hA; intro b1 w1 hA hb1; (try simp only [uA] at hA); have hF := hA.facts; (try simp only [fZ] at hF)))
      go_ret
      have hno2 := hno'.out
      rw [List.take_of_length_le (by simp; omega)] at hno2
      exact ⟨by unfold findD; rw [idxI_no hno2]; rfl, hA.only1 sZ⟩
end Go.Proofs.Ytgicohkmfbbbdaa.Ref
end

section
namespace Go.Proofs.Ytgicohkmfbbbdaa.Ref
open _root_.Go.Proofs.Ytgicohkmfbbbdaa.Gr
open _root_.Go.Proofs.Ytgicohkmfbbbdaa.Mark (ltID)
open _root_.Go.Proofs.Ytgicohkmfbbbdaa.Attr (A8)
open Go.RowKit
set_option linter.unusedSimpArgs false
set_option linter.unusedVariables false
attribute [-go_sem] run_eql_struct run_neq_struct run_eqGuard_agg

/-- a row of the document's names -/
abbrev rowJ (v : Value) (l : List I2) : Part := Part.row 45 2 v l.length (flatI l)
theorem rowJ_snoc (v : Value) (l : List I2) (x : I2) : Part.row 45 2 v (l.length + 1) (flatI l ++ idL x) = rowJ v (l ++ [x]) := by
  unfold rowJ
  rw [List.length_append]
  have : flatI (l ++ [x]) = flatI l ++ idL x := by unfold flatI; rw [List.flatMap_append]; simp
  rw [this]
  rfl
theorem infoJ : (Try.prog.info? 45).map (fun i => (i.zero, i.size, i.bytes)) = some (some (.agg #[.int .i64 0, .int .i64 0]), 2, 16) := by kernel_rfl
theorem dep_get (e : IA) {q : Nat} (hq : q < 7) : (cellsD e)[3 + q]? = some (.int .i64 (e.2.dep q)) := by
  rcases (show q = 0 ∨ q = 1 ∨ q = 2 ∨ q = 3 ∨ q = 4 ∨ q = 5 ∨ q = 6 by omega) with rfl | rfl | rfl | rfl | rfl | rfl | rfl <;> rfl
def LnRel (w : World) (b2 b3 : Nat) (e : IA) (f : F7) (k : Nat) (u v : Value) (wr : World) : Prop :=
  ∃ q : Nat, u = .int .i64 q ∧ q + k = 7 ∧ At [] w [rowJ v (leadsU f e.2 q), Part.cells b2 (cellsD e) 52, Part.cells b3 f.cells 23] wr
def LnPost (l : List I2) (w : World) (e : Ending) (w' : World) : Prop := ∃ v, e = .returned v ∧ At [] w [rowJ v l] w'
set_option maxRecDepth 100000 in
set_option maxHeartbeats 2000000 in
theorem leadsN_any (w : World) (e : IA) (f : F7) (hd : ∀ q, q < 7 → 0 ≤ e.2.dep q ∧ e.2.dep q ≤ 1024) :
    Calls Try.prog 21 #[.agg (cellsD e).toArray, f.val] w (LnPost (leads f e.2) w) := by
  obtain ⟨i0, hi0, hz0, hz1, hz2⟩ := info_parts infoJ
  have hA : At [] w [] w := At.start (L0 := []) trivial
  have hd' := Lib.hid hd
  have hlen' := Lib.hid (fun q => leadsU_len f e.2 q)
  clear hd
  simp only [cellsD, F7.val] at *
  (try simp only [uA] at hA); have hF := hA.facts; (try simp only [fZ] at hF)
  go_enter Try.func21, Try.ntmps21
  go_wp2_with (first | ((with_reducible show wpList _ _ _ ({ dst := some 2, op := Op.box _ _, type := _, pos := _, after := _, guard := _ } :: _) _ _); ((with_reducible refine gbx ?_); refine wX 52 (.agg #[.int .i64 e.1.1, .int .i64 e.1.2, .int .i64 e.2.s, .int .i64 e.2.d0, .int .i64 e.2.d1, .int .i64 e.2.d2, .int .i64 e.2.d3, .int .i64 e.2.d4, .int .i64 e.2.d5, .int .i64 e.2.d6]) [.int .i64 e.1.1, .int .i64 e.1.2, .int .i64 e.2.s, .int .i64 e.2.d0, .int .i64 e.2.d1, .int .i64 e.2.d2, .int .i64 e.2.d3, .int .i64 e.2.d4, .int .i64 e.2.d5, .int .i64 e.2.d6] hA ?_; clear hF hA; intro b2 w1 hA hb2; (try simp only [uA] at hA); have hF := hA.facts; (try simp only [fZ] at hF))) | ((with_reducible show wpList _ _ _ ({ dst := some 3, op := Op.box _ _, type := _, pos := _, after := _, guard := _ } :: _) _ _); ((with_reducible refine gbx ?_); refine wX 23 (.agg #[.int .i64 f.f0, .int .i64 f.f1, .int .i64 f.f2, .int .i64 f.f3, .int .i64 f.f4, .int .i64 f.f5, .int .i64 f.f6]) [.int .i64 f.f0, .int .i64 f.f1, .int .i64 f.f2, .int .i64 f.f3, .int .i64 f.f4, .int .i64 f.f5, .int .i64 f.f6] hA ?_; clear hF hA; intro b3 w1 hA hb3; (try simp only [uA] at hA); have hF := hA.facts; (try simp only [fZ] at hF))) | ((with_reducible refine gst ?_); refine wS hA ?_; clear hF hA; intro w1 hA; (try simp only [uA] at hA); have hF := hA.facts; (try simp only [fZ] at hF)) | ((with_reducible refine gbx ?_); refine wB hA ?_; clear hF hA; intro b1 w1 hA hb1; (try simp only [uA] at hA); have hF := hA.facts; (try simp only [fZ] at hF)))
  try go_frame
  have hB := hA.row_nil 45 2
  clear hF hA; have hA := hB; clear hB
  go_loopg [6, 5] 7 (LnRel w b2 b3 e f)
  case atStart => exact ⟨0, rfl, rfl, hA.pick pZ⟩
  case round =>
    obtain ⟨q, rfl, hqk, hB⟩ := hrel
    clear hA; have hA := hB; clear hB
    by_cases hq7 : q < 7
    · have hcd : (cellsD e)[3 + q]? = some (.int .i64 (e.2.dep q)) := dep_get e hq7
      have hcf : f.cells[q]? = some (.int .i64 (f.at q)) := f7_get f hq7
      have hdq := hd'.out q hq7
      have hsc := Lib.hid (leadsU_succ f e.2 q)
      have hll := hlen'.out q
      have hq8 : (q : Int) < 7 := by omega
      generalize e.2.dep q = dq at *
      generalize f.at q = fq at *
      generalize leadsU f e.2 q = l at *
      obtain ⟨cD, hcD⟩ : ∃ z, cellsD e = z := ⟨_, rfl⟩
      rw [hcD] at hA hcd
      have hcD' := Lib.hid hcD
      clear hcD
      obtain ⟨fc, hfc⟩ : ∃ z, f.cells = z := ⟨_, rfl⟩
      rw [hfc] at hA hcf
      have hfc' := Lib.hid hfc
      clear hfc
      obtain ⟨ax, cap, hv9, hax, hcp, _⟩ := hA.row_form .here
      have hax' := Lib.hid hax
      subst hv9
      clear hax
      (try simp only [uA] at hA); have hF := hA.facts; (try simp only [fZ] at hF)
      by_cases hlt : fq < dq
      · have hwr : IntKind.i64.wrap (dq - 1) = dq - 1 := by rw [IntKind.wrap_i64] <;> omega
        rw [if_pos hlt] at hsc
        go_wp2_with (first | ((with_reducible refine gst ?_); refine wS hA ?_; clear hF hA; intro w1 hA; (try simp only [uA] at hA); have hF := hA.facts; (try simp only [fZ] at hF)) | ((with_reducible refine gbx ?_); refine wB hA ?_; clear hF hA; intro b1 w1 hA hb1; (try simp only [uA] at hA); have hF := hA.facts; (try simp only [fZ] at hF)))
        try go_frame
        (refine wp_region_all (Cl _ _ _) (by kernel_rfl) (by kernel_rfl) (Cl.drew hA) ?_); (have hn1 := Cl.none hA); (have hn2 := Cl.none2 hA); (repeat (first | go_big_quiet_skip | (go_big_quiet_want; (first | (refine quiet_load_at rfl rfl sR (by kernel_rfl) (by first | assumption | exact rfl) ?_; go_frame; go_big_quiet_on) | (go_big_quiet_op; (first | go_big_quiet_on | ((apply Exists.intro); (refine ⟨fun w1 hw => ?_, ?_⟩); (focus ((have hw := Cl.out hw); (fail))); (go_big_quiet_on))))))))
        (refine wpQuiet_nil ?_); (intro w1 hB); (clear hF hA hn1 hn2); (have hA := Cl.out hB); (clear hB); (try simp only [uA] at hA); have hF := hA.facts; (try simp only [fZ] at hF)
        go_wp2_with (first | ((with_reducible show wpList _ _ _ ({ dst := _, op := Op.buildSlice _ _ _, type := _, pos := _, after := _, guard := _ } :: _) _ _); refine wpList_one_at (e := 45) (vs := idL ((q : Int), dq - 1)) rfl rfl (by (try simp only [Act.eval, eV]) <;> exact rfl) (fun _ => by kernel_rfl) hA ?_; intro b39 w1 hB hb39; clear hF hA; have hA := hB; clear hB; (try simp only [uA] at hA); have hF := hA.facts; (try simp only [fZ] at hF)) | ((with_reducible show wpList _ _ _ ({ dst := _, op := Op.call { callee := Callee.builtin Builtin.append, args := _, argTypes := _ }, type := _, pos := _, after := _, guard := _ } :: _) _ _); refine wpList_append_at (e := 45) (size := 2) (v := .slice ax l.length cap) (xs := flatI l) (n := l.length) (m := 1) (news := idL ((q : Int), dq - 1)) rfl _ _ 48 rfl Try.underlying48 hi0 hz0 hz1 hz2 rfl (by omega) hA sR (by (try simp only [Act.eval, eV]) <;> exact rfl) (by (try simp only [Act.eval, eV]) <;> exact rfl) rfl (hA.cells_reads sR _ _) (idL_one _) (by unfold maxLen; omega) (by omega) ?_; intro v1 w1 hB; rw [rowJ_snoc] at hB; clear hF hA; have hA := hB; clear hB; (try simp only [uA] at hA); have hF := hA.facts; (try simp only [fZ] at hF)) | ((with_reducible refine gst ?_); refine wS hA ?_; clear hF hA; intro w1 hA; (try simp only [uA] at hA); have hF := hA.facts; (try simp only [fZ] at hF)) | ((with_reducible refine gbx ?_); refine wB hA ?_; clear hF hA; intro b1 w1 hA hb1; (try simp only [uA] at hA); have hF := hA.facts; (try simp only [fZ] at hF)))
        go_roundg (gk - 1)
        case measure => omega
        case rel => exact ⟨q + 1, by simp, by omega, by rw [hsc.out, hfc'.out, hcD'.out]; exact hA.pick pZ⟩
      · rw [if_neg hlt, List.append_nil] at hsc
        go_wp2_with (first | ((with_reducible refine gst ?_); refine wS hA ?_; clear hF hA; intro w1 hA; (try simp only [uA] at hA); have hF := hA.facts; (try simp only [fZ] at hF)) | ((with_reducible refine gbx ?_); refine wB hA ?_; clear hF hA; intro b1 w1 hA hb1; (try simp only [uA] at hA); have hF := hA.facts; (try simp only [fZ] at hF)))
        try go_frame
        (refine wp_region_all (Cl _ _ _) (by kernel_rfl) (by kernel_rfl) (Cl.drew hA) ?_); (have hn1 := Cl.none hA); (have hn2 := Cl.none2 hA); (repeat (first | go_big_quiet_skip | (go_big_quiet_want; (first | (refine quiet_load_at rfl rfl sR (by kernel_rfl) (by first | assumption | exact rfl) ?_; go_frame; go_big_quiet_on) | (go_big_quiet_op; (first | go_big_quiet_on | ((apply Exists.intro); (refine ⟨fun w1 hw => ?_, ?_⟩); (focus ((have hw := Cl.out hw); (fail))); (go_big_quiet_on))))))))
        (refine wpQuiet_nil ?_); (intro w1 hB); (clear hF hA hn1 hn2); (have hA := Cl.out hB); (clear hB); (try simp only [uA] at hA); have hF := hA.facts; (try simp only [fZ] at hF)
        go_wp2_with (first | ((with_reducible refine gst ?_); refine wS hA ?_; clear hF hA; intro w1 hA; (try simp only [uA] at hA); have hF := hA.facts; (try simp only [fZ] at hF)) | ((with_reducible refine gbx ?_); refine wB hA ?_; clear hF hA; intro b1 w1 hA hb1; (try simp only [uA] at hA); have hF := hA.facts; (try simp only [fZ] at hF)))
        go_roundg (gk - 1)
        case measure => omega
        case rel => exact ⟨q + 1, by simp, by omega, by rw [hsc.out, hfc'.out, hcD'.out]; exact hA.pick pZ⟩
    · have hq2 : q = 7 := by omega
      subst hq2
      (try simp only [uA] at hA); have hF := hA.facts; (try simp only [fZ] at hF)
      go_wp2_with (first | ((with_reducible refine gst ?_); refine wS hA ?_; clear hF hA; intro w1 hA; (try simp only [uA] at hA); have hF := hA.facts; (try simp only [fZ] at hF)) | ((with_reducible refine gbx ?_); refine wB hA ?_; clear hF hA; intro b1 w1 hA hb1; (try simp only [uA] at hA); have hF := hA.facts; (try simp only [fZ] at hF)))
      go_ret
      exact ⟨_, rfl, hA.only1 sZ⟩
end Go.Proofs.Ytgicohkmfbbbdaa.Ref
end

section
namespace Go.Proofs.Ytgicohkmfbbbdaa.Gr
open _root_.Go.Proofs.Ytgicohkmfbbbdaa.Mark (ltID sortID)
open _root_.Go.Proofs.Ytgicohkmfbbbdaa.Ref (rowD flatD cellsD cellsD_len elemD IA)
open _root_.Go.Proofs.Ytgicohkmfbbbdaa.Attr (guardI eqlI_any neqI_any guardJ eqlJ_any neqJ_any)
open Go.RowKit
set_option linter.unusedSimpArgs false
set_option linter.unusedVariables false
attribute [-go_sem] run_eql_struct run_neq_struct run_eqGuard_agg
attribute [local go_sem] guardI eqlI_any neqI_any guardJ eqlJ_any neqJ_any

/-- a front that may be -/
def FrontOk (f : F7) : Prop := ∀ q, q < 7 → 0 ≤ f.at q ∧ f.at q ≤ 1024
def RtRel (w : World) (b1 : Nat) (f : F7) (k : Nat) (u : Value) (wr : World) : Prop :=
  ∃ q : Nat, u = .int .i64 q ∧ q + k = 7 ∧ (∀ j, j < q → 0 ≤ f.at j ∧ f.at j ≤ 1024) ∧ At [] w [Part.cells b1 [.int .i64 f.f0, .int .i64 f.f1, .int .i64 f.f2, .int .i64 f.f3, .int .i64 f.f4, .int .i64 f.f5, .int .i64 f.f6] 24] wr
def RightPost (f : F7) (w : World) (e : Ending) (w' : World) : Prop := ∃ c, e = .returned (.bool c) ∧ (c = true ↔ FrontOk f) ∧ Ext w w'
set_option maxRecDepth 100000 in
set_option maxHeartbeats 2000000 in
theorem right_any (w : World) (f : F7) : Calls Try.prog 10 #[f.val] w (RightPost f w) := by
  have hA : At [] w [] w := At.start (L0 := []) trivial
  simp only [F7.val] at *
  (try simp only [uA] at hA); have hF := hA.facts; (try simp only [fZ] at hF)
  go_enter Try.func10, Try.ntmps10
  go_wp2_with (first | ((with_reducible refine gbx ?_); refine wX 24 (.agg #[.int .i64 f.f0, .int .i64 f.f1, .int .i64 f.f2, .int .i64 f.f3, .int .i64 f.f4, .int .i64 f.f5, .int .i64 f.f6]) [.int .i64 f.f0, .int .i64 f.f1, .int .i64 f.f2, .int .i64 f.f3, .int .i64 f.f4, .int .i64 f.f5, .int .i64 f.f6] hA ?_; clear hF hA; intro b1 w1 hA hb1; (try simp only [uA] at hA); have hF := hA.facts; (try simp only [fZ] at hF)) | ((with_reducible refine gst ?_); refine wS hA ?_; clear hF hA; intro w1 hA; (try simp only [uA] at hA); have hF := hA.facts; (try simp only [fZ] at hF)) | ((with_reducible refine gbx ?_); refine wB hA ?_; clear hF hA; intro b1 w1 hA hb1; (try simp only [uA] at hA); have hF := hA.facts; (try simp only [fZ] at hF)))
  try go_frame
  go_loopg [6] 7 (RtRel w b1 f)
  case atStart => exact ⟨0, rfl, rfl, nofun, hA.pick pZ⟩
  case round =>
    obtain ⟨q, rfl, hqk, hno, hB⟩ := hrel
    have hno' := Lib.hid hno
    clear hF hA hno; have hA := hB; clear hB
    by_cases hq7 : q < 7
    · have hix : ∀ w, (Instr.index 24 (.agg #[.int .i64 f.f0, .int .i64 f.f1, .int .i64 f.f2, .int .i64 f.f3, .int .i64 f.f4, .int .i64 f.f5, .int .i64 f.f6]) (.int .i64 q)).run Try.prog w = .ok (.int .i64 (f.at q)) w := fun w => index7F (fun q => f.at q) q hq7 w
      obtain ⟨fq, hfq⟩ : ∃ z, f.at q = z := ⟨_, rfl⟩
      rw [hfq] at hix
      have hfq' := Lib.hid hfq
      clear hfq
      (try simp only [uA] at hA); have hF := hA.facts; (try simp only [fZ] at hF)
      by_cases h0 : fq < 0
      · go_wp2_with (first | ((with_reducible refine gst ?_); refine wS hA ?_; clear hF hA; intro w1 hA; (try simp only [uA] at hA); have hF := hA.facts; (try simp only [fZ] at hF)) | ((with_reducible refine gbx ?_); refine wB hA ?_; clear hF hA; intro b1 w1 hA hb1; (try simp only [uA] at hA); have hF := hA.facts; (try simp only [fZ] at hF)))
        go_ret
        exact ⟨false, rfl, ⟨nofun, fun h => by have := h q hq7; rw [hfq'.out] at this; omega⟩, hA.toExt⟩
      · by_cases h1 : 1024 < fq
        · go_wp2_with (first | ((with_reducible refine gst ?_); refine wS hA ?_; clear hF hA; intro w1 hA; (try simp only [uA] at hA); have hF := hA.facts; (try simp only [fZ] at hF)) | ((with_reducible refine gbx ?_); refine wB hA ?_; clear hF hA; intro b1 w1 hA hb1; (try simp only [uA] at hA); have hF := hA.facts; (try simp only [fZ] at hF)))
          go_ret
          exact ⟨false, rfl, ⟨nofun, fun h => by have := h q hq7; rw [hfq'.out] at this; omega⟩, hA.toExt⟩
        · go_wp2_with (first | ((with_reducible refine gst ?_); refine wS hA ?_; clear hF hA; intro w1 hA; (try simp only [uA] at hA); have hF := hA.facts; (try simp only [fZ] at hF)) | ((with_reducible refine gbx ?_); refine wB hA ?_; clear hF hA; intro b1 w1 hA hb1; (try simp only [uA] at hA); have hF := hA.facts; (try simp only [fZ] at hF)))
          go_roundg (gk - 1)
          case measure => omega
          case rel =>
            refine ⟨q + 1, by simp, by omega, fun j hj => ?_, hA.pick pZ⟩
            rcases Nat.lt_succ_iff_lt_or_eq.1 hj with hj | rfl
            · exact hno'.out j hj
            · rw [hfq'.out]; omega
    · have hq : q = 7 := by omega
      subst hq
      (try simp only [uA] at hA); have hF := hA.facts; (try simp only [fZ] at hF)
      go_wp2_with (first | ((with_reducible refine gst ?_); refine wS hA ?_; clear hF hA; intro w1 hA; (try simp only [uA] at hA); have hF := hA.facts; (try simp only [fZ] at hF)) | ((with_reducible refine gbx ?_); refine wB hA ?_; clear hF hA; intro b1 w1 hA hb1; (try simp only [uA] at hA); have hF := hA.facts; (try simp only [fZ] at hF)))
      go_ret
      exact ⟨true, rfl, ⟨fun _ => hno'.out, fun _ => rfl⟩, hA.toExt⟩
def PlRel (w : World) (v : Value) (l : List I2) (x : I2) (b3 : Nat) (k : Nat) (u : Value) (wr : World) : Prop :=
  ∃ i : Nat, u = .int .i64 i ∧ i + k = l.length ∧ x ∉ l.take i ∧ At [rowI2 v l] w [Part.cells b3 [.int .i64 x.1, .int .i64 x.2] 38, rowI2 v l] wr
set_option maxRecDepth 100000 in
set_option maxHeartbeats 2000000 in
theorem place_any {w : World} {v : Value} {l : List I2} (h : Sep [rowI2 v l] w) (x : I2) (hmax : l.length ≤ 1000000) :
    Calls Try.prog 28 #[v, idV x] w (IdxPost w v l x) := by
  have hA := At.start h
  clear h
  obtain ⟨ax, cap, rfl, hax, hcap, _⟩ := hA.row_form (v := v) (xs := flatI l) sR
  have hax' := Lib.hid hax
  clear hax
  obtain ⟨r1, t1⟩ := x
  simp only [idV]
  (try simp only [uA] at hA); have hF := hA.facts; (try simp only [fZ] at hF)
  go_enter Try.func28, Try.ntmps28
  go_wp2_with (first | ((with_reducible refine gbx ?_); refine wX 38 (.agg #[.int .i64 r1, .int .i64 t1]) [.int .i64 r1, .int .i64 t1] hA ?_; clear hF hA; intro b3 w1 hA hb3; (try simp only [uA] at hA); have hF := hA.facts; (try simp only [fZ] at hF)) | ((with_reducible refine gst ?_); refine wS hA ?_; clear hF hA; intro w1 hA; (try simp only [uA] at hA); have hF := hA.facts; (try simp only [fZ] at hF)) | ((with_reducible refine gbx ?_); refine wB hA ?_; clear hF hA; intro b1 w1 hA hb1; (try simp only [uA] at hA); have hF := hA.facts; (try simp only [fZ] at hF)))
  try go_frame
  go_loopg [9] l.length (PlRel w (.slice ax l.length cap) l (r1, t1) b3)
  case atStart => exact ⟨0, rfl, by simp, by simp, hA⟩
  case round =>
    obtain ⟨i, rfl, hik, hno, hB⟩ := hrel
    have hno' := Lib.hid hno
    clear hF hA hno; have hA := hB; clear hB
    by_cases hi : i < l.length
    · obtain ⟨y, hx⟩ : ∃ y, l[i]? = some y := ⟨_, List.getElem?_eq_getElem hi⟩
      have htk : l.take (i + 1) = l.take i ++ [y] := by rw [List.take_add_one, hx]; rfl
      obtain ⟨bt, offt, hax2, hce⟩ := row_elem (hA.row_reads (v := .slice ax l.length cap) (n := l.length) (xs := flatI l) sZ) hx
      obtain ⟨r0, t0⟩ := y
      have hr2' := Lib.hid (show ∀ (k : Nat) u, ([.int .i64 r0, .int .i64 t0] : List Value)[k]? = some u → wr.cell? ⟨bt, offt + i * 2 + k, none⟩ = some u from hce)
      clear hce
      subst hax2
      obtain ⟨d, hd⟩ : ∃ d, (decide (r0 = r1) && decide (t0 = t1)) = d := ⟨_, rfl⟩
      have hd' := Lib.hid (show d = decide ((r0, t0) = (r1, t1)) from by rw [← hd, Bool.eq_iff_iff]; simp)
      have hx' := Lib.hid hx
      have htk' := Lib.hid htk
      clear hx htk
      (try simp only [uA] at hA); have hF := hA.facts; (try simp only [fZ] at hF)
      cases d
      · go_wp2_with (first | ((with_reducible refine gal ?_); refine wA 38 (.agg #[.int .i64 0, .int .i64 0]) [.int .i64 0, .int .i64 0] hA ?_; clear hF hA; intro b6 w1 hA hb6; (try simp only [uA] at hA); have hF := hA.facts; (try simp only [fZ] at hF)) | ((with_reducible show wpList _ _ _ ({ dst := some 13, op := Op.load _ _, type := _, pos := _, after := _, guard := _ } :: _) _ _); refine wpList_loadRow_at (vs := [.int .i64 r0, .int .i64 t0]) rfl rfl (by (try simp only [Act.eval, eV]) <;> exact rfl) hr2'.out (by kernel_rfl) (by kernel_rfl) ?_) | ((with_reducible refine gst ?_); refine wS hA ?_; clear hF hA; intro w1 hA; (try simp only [uA] at hA); have hF := hA.facts; (try simp only [fZ] at hF)) | ((with_reducible refine gbx ?_); refine wB hA ?_; clear hF hA; intro b1 w1 hA hb1; (try simp only [uA] at hA); have hF := hA.facts; (try simp only [fZ] at hF)))
        go_roundg (gk - 1)
        case measure => omega
        case rel =>
          refine ⟨i + 1, by simp, by omega, ?_, hA.pick pZ⟩
          rw [htk'.out]
          intro hm
          rcases List.mem_append.1 hm with hm | hm
          · exact hno'.out hm
          · exact of_decide_eq_false hd'.out.symm (List.mem_singleton.1 hm).symm
      · go_wp2_with (first | ((with_reducible refine gal ?_); refine wA 38 (.agg #[.int .i64 0, .int .i64 0]) [.int .i64 0, .int .i64 0] hA ?_; clear hF hA; intro b6 w1 hA hb6; (try simp only [uA] at hA); have hF := hA.facts; (try simp only [fZ] at hF)) | ((with_reducible show wpList _ _ _ ({ dst := some 13, op := Op.load _ _, type := _, pos := _, after := _, guard := _ } :: _) _ _); refine wpList_loadRow_at (vs := [.int .i64 r0, .int .i64 t0]) rfl rfl (by (try simp only [Act.eval, eV]) <;> exact rfl) hr2'.out (by kernel_rfl) (by kernel_rfl) ?_) | ((with_reducible refine gst ?_); refine wS hA ?_; clear hF hA; intro w1 hA; (try simp only [uA] at hA); have hF := hA.facts; (try simp only [fZ] at hF)) | ((with_reducible refine gbx ?_); refine wB hA ?_; clear hF hA; intro b1 w1 hA hb1; (try simp only [uA] at hA); have hF := hA.facts; (try simp only [fZ] at hF)))
        go_ret
        have e0 := of_decide_eq_true hd'.out.symm
        have hx0 := hx'.out
        rw [e0] at hx0
        exact ⟨by rw [idxI_at hx0 hno'.out]; rfl, hA.only1 sZ⟩
    · have hF := hA.facts
      (try simp only [uA] at hA); have hF := hA.facts; (try simp only [fZ] at hF)
      go_wp2_with (first | ((with_reducible refine gst ?_); refine wS hA ?_; clear hF hA; intro w1 hA; (try simp only [uA] at hA); have hF := hA.facts; (try simp only [fZ] at hF)) | ((with_reducible refine gbx ?_); refine wB hA ?_; clear hF hA; intro b1 w1 hA hb1; (try simp only [uA] at hA); have hF := hA.facts; (try simp only [fZ] at hF)))
      go_ret
      have hno2 := hno'.out
      rw [List.take_of_length_le (by omega)] at hno2
      exact ⟨by rw [idxI_no hno2]; rfl, hA.only1 sZ⟩
end Go.Proofs.Ytgicohkmfbbbdaa.Gr
end

section
namespace Go.Proofs.Ytgicohkmfbbbdaa.Gr
open _root_.Go.Proofs.Ytgicohkmfbbbdaa.Mark (ltID sortID)
open _root_.Go.Proofs.Ytgicohkmfbbbdaa.Attr (guardI eqlI_any neqI_any guardJ eqlJ_any guardF eqlF_any eq7)
open Go.RowKit
open Attr (A8 thro)
set_option linter.unusedSimpArgs false
set_option linter.unusedVariables false
attribute [-go_sem] run_eql_struct run_neq_struct run_eqGuard_agg
attribute [local go_sem] guardI eqlI_any guardF eqlF_any

def aA : A8 := ⟨2, 0, 1, 0, 0, 0, 0, 0⟩
def bA : A8 := ⟨1, 1, 0, 0, 0, 0, 0, 0⟩
def esA : List (I2 × A8) := [((0, 0), aA), ((1, 0), bA)]
def fA0 : F7 := ⟨0, 0, 0, 0, 0, 0, 0⟩
def lA : List I2 := [(0, 0), (1, 0)]
theorem getA_A {x : I2} (h0 : x ≠ (0, 0)) (h1 : x ≠ (1, 0)) : getA esA x = none := by
  rw [getA_isNone]
  simp [esA]
  exact ⟨h0, h1⟩
theorem leads0 : leadsG esA fA0 (0, 0) = [(1, 0)] := by decide
theorem leads1 : leadsG esA fA0 (1, 0) = [(0, 0)] := by decide
theorem RI_A {x : I2} (h : RI esA fA0 (0, 0) x) : x = (0, 0) ∨ x = (1, 0) := by
  induction h with
  | refl => exact .inl rfl
  | step _ hy ih =>
    rcases ih with rfl | rfl
    · rw [leads0] at hy; exact .inr (List.mem_singleton.1 hy)
    · rw [leads1] at hy; exact .inl (List.mem_singleton.1 hy)
theorem firstA : FirstIs esA fA0 (some lA) := by
  refine ⟨0, by decide, nofun, by decide, by simp [lA, ltID], fun x => ⟨fun hx => ?_, fun hx => ?_⟩, fun x hx => ?_⟩
  · simp only [lA, List.mem_cons, List.not_mem_nil, or_false] at hx
    rcases hx with rfl | rfl
    · exact .refl
    · exact .step .refl (by show _ ∈ leadsG esA fA0 (0, 0); rw [leads0]; simp)
  · rcases RI_A hx with rfl | rfl <;> simp [lA]
  · simp only [lA, List.mem_cons, List.not_mem_nil, or_false] at hx
    rcases hx with rfl | rfl <;> decide
theorem endA : FirstIs esA (upF fA0 lA) none := by
  intro k hk
  refine .inr ⟨_, .refl, ?_⟩
  rcases (show k = 0 ∨ k = 1 ∨ k = 2 ∨ k = 3 ∨ k = 4 ∨ k = 5 ∨ k = 6 by omega) with rfl | rfl | rfl | rfl | rfl | rfl | rfl <;> exact getA_A (by decide) (by decide)
theorem ordA : ordG esA fA0 lA = [(1, 0), (0, 0)] := by
  have h0 : nxL esA fA0 lA 0 = [1] := by decide
  have h1 : nxL esA fA0 lA 1 = [0] := by decide
  have hr : ∀ i k, i < 2 → k < 2 → Tar.R (nxL esA fA0 lA) i k := by
    intro i k hi hk
    have r01 : Tar.R (nxL esA fA0 lA) 0 1 := .one (by rw [h0]; simp)
    have r10 : Tar.R (nxL esA fA0 lA) 1 0 := .one (by rw [h1]; simp)
    rcases (show i = 0 ∨ i = 1 by omega) with rfl | rfl <;> rcases (show k = 0 ∨ k = 1 by omega) with rfl | rfl
    · exact .refl _
    · exact r01
    · exact r10
    · exact .refl _
  have e : ordN esA fA0 lA = Tar.ordD 2 (fun _ _ => true) (sqE (enL esA lA)) 2 fun _ => false :=
    (Tar.ordD_R (fun x _ y hy => nxL_lt hy) (fun i k hi hk => by simp [hr i k hi hk]) (sqE (enL esA lA)) 2 (fun _ => false) (fun _ => false) fun _ _ => rfl).symm
  unfold ordG
  rw [e]
  decide
theorem runA : RunR esA fA0 [(1, 0), (0, 0)] ⟨1, 1, 0, 0, 0, 0, 0⟩ := by
  have h := RunR.go firstA (.stop endA)
  rw [ordA] at h
  exact h
theorem ownA : Own esA := by
  refine ⟨by simp [Uq, esA], fun x a h q hq => ?_, fun e he => ?_⟩
  · have := getA_mem h
    simp only [esA, List.mem_cons, List.not_mem_nil, or_false, Prod.mk.injEq] at this
    rcases this with ⟨_, rfl⟩ | ⟨_, rfl⟩ <;>
    rcases (show q = 0 ∨ q = 1 ∨ q = 2 ∨ q = 3 ∨ q = 4 ∨ q = 5 ∨ q = 6 by omega) with rfl | rfl | rfl | rfl | rfl | rfl | rfl <;> decide
  · simp only [esA, List.mem_cons, List.not_mem_nil, or_false] at he
    rcases he with rfl | rfl <;> (show 0 ≤ _ ∧ _; decide)
theorem addA : addG [] (0, 0) aA = ([((0, 0), aA)], 0) := by decide
theorem addB : addG [((0, 0), aA)] (1, 0) bA = (esA, 0) := by decide
def AnchorPost (w : World) (e : Ending) (w' : World) : Prop := e = .returned (.bool true) ∧ Ext w w'
set_option maxRecDepth 100000 in
set_option maxHeartbeats 4000000 in
theorem anchor_any (w : World) : Calls Try.prog 9 #[] w (AnchorPost w) := by
  have hA : At [] w [] w := At.start (L0 := []) trivial
  (try simp only [uA] at hA); have hF := hA.facts; (try simp only [fZ] at hF)
  go_enter Try.func9, Try.ntmps9
  go_wp2_with fail
  refine (new_any _).mono ?_
  rintro e w1 ⟨p, m, rfl, hT⟩
  have hB := hA.call0 hT
  clear hF hA hT; have hA := hB; clear hB
  simp only [List.cons_append, List.nil_append] at hA
  (try simp only [uA] at hA); have hF := hA.facts; (try simp only [fZ] at hF)
  go_wp2_with (first | (((with_reducible show wpList _ _ _ ({ dst := some 2, op := Op.alloc _, type := _, pos := _, after := _, guard := _ } :: _) _ _)); ((with_reducible refine gal ?_); refine wA 38 (.agg #[.int .i64 0, .int .i64 0]) [.int .i64 0, .int .i64 0] hA ?_; clear hF hA; intro b2 w1 hA hb2; (try simp only [uA] at hA); have hF := hA.facts; (try simp only [fZ] at hF))) | (((with_reducible show wpList _ _ _ ({ dst := some 3, op := Op.alloc _, type := _, pos := _, after := _, guard := _ } :: _) _ _)); ((with_reducible refine gal ?_); refine wA 38 (.agg #[.int .i64 0, .int .i64 0]) [.int .i64 0, .int .i64 0] hA ?_; clear hF hA; intro b3 w1 hA hb3; (try simp only [uA] at hA); have hF := hA.facts; (try simp only [fZ] at hF))) | ((with_reducible refine gst ?_); refine wS hA ?_; clear hF hA; intro w1 hA; (try simp only [uA] at hA); have hF := hA.facts; (try simp only [fZ] at hF)) | ((with_reducible refine gbx ?_); refine wB hA ?_; clear hF hA; intro b1 w1 hA hb1; (try simp only [uA] at hA); have hF := hA.facts; (try simp only [fZ] at hF)))
  refine (add_any (hA.sep1 (A := GrP p m []) sZ) (0, 0) (by unfold okD okI; simp) aA).mono ?_
  rintro e w2 ⟨rfl, hT⟩
  rw [addA] at hT
  have hB := hA.call1 (A := GrP p m []) sZ hT
  clear hF hA hT; have hA := hB; clear hB
  simp only [List.cons_append, List.nil_append] at hA
  (try simp only [uA] at hA); have hF := hA.facts; (try simp only [fZ] at hF)
  go_wp2_with (first | ((with_reducible refine gst ?_); refine wS hA ?_; clear hF hA; intro w1 hA; (try simp only [uA] at hA); have hF := hA.facts; (try simp only [fZ] at hF)) | ((with_reducible refine gbx ?_); refine wB hA ?_; clear hF hA; intro b1 w1 hA hb1; (try simp only [uA] at hA); have hF := hA.facts; (try simp only [fZ] at hF)))
  refine (add_any (hA.sep1 (A := GrP p m [((0, 0), aA)]) sZ) (1, 0) (by unfold okD okI; simp) bA).mono ?_
  rintro e w3 ⟨rfl, hT⟩
  rw [addB] at hT
  have hB := hA.call1 (A := GrP p m [((0, 0), aA)]) sZ hT
  clear hF hA hT; have hA := hB; clear hB
  simp only [List.cons_append, List.nil_append] at hA
  (try simp only [uA] at hA); have hF := hA.facts; (try simp only [fZ] at hF)
  rw [addA, addB]
  go_wp2_with (first | ((with_reducible refine gst ?_); refine wS hA ?_; clear hF hA; intro w1 hA; (try simp only [uA] at hA); have hF := hA.facts; (try simp only [fZ] at hF)) | ((with_reducible refine gbx ?_); refine wB hA ?_; clear hF hA; intro b1 w1 hA hb1; (try simp only [uA] at hA); have hF := hA.facts; (try simp only [fZ] at hF)))
  refine (grun_any (hA.sep1 (A := GrP p m esA) sZ) fA0 (fun q hq => by rcases (show q = 0 ∨ q = 1 ∨ q = 2 ∨ q = 3 ∨ q = 4 ∨ q = 5 ∨ q = 6 by omega) with rfl | rfl | rfl | rfl | rfl | rfl | rfl <;> decide) ownA (by decide)).mono ?_
  rintro e w4 ⟨u, r, g, rfl, hrn, _, _, hT⟩
  obtain ⟨rfl, rfl⟩ := run_one hrn runA
  have hB := hA.call1 (A := GrP p m esA) sZ hT
  clear hF hA hT; have hA := hB; clear hB
  simp only [List.cons_append, List.nil_append] at hA
  (try simp only [uA] at hA); have hF := hA.facts; (try simp only [fZ] at hF)
  obtain ⟨ax, cap, hv, _, hcap, _⟩ := hA.row_form .here
  subst hv
  obtain ⟨g, c, hax, _, hcm, hcl, hct, hB⟩ := hA.row_open (e := 38) (size := 2) (ax := ax) (cap := cap) (n := [((1 : Int), (0 : Int)), (0, 0)].length) (xs := flatI [(1, 0), (0, 0)]) .here (by decide)
  subst hax
  clear hF hA hrn; have hA := hB; clear hB
  have hct : c.take 4 = [.int .i64 1, .int .i64 0, .int .i64 0, .int .i64 0] := hct
  have he0 : (c.drop 0).take 2 = [.int .i64 1, .int .i64 0] := by
    have := congrArg (List.take 2) hct
    rw [List.take_take] at this
    exact this
  have he1 : (c.drop 2).take 2 = [.int .i64 0, .int .i64 0] := by
    have := congrArg (List.drop 2) hct
    simpa [List.drop_take] using this
  have hct' := Lib.hid hct
  clear hct
  (try simp only [uA] at hA); have hF := hA.facts; (try simp only [fZ] at hF)
  simp only [F7.val]
  go_wp2_with (first | (((with_reducible show wpList _ _ _ ({ dst := some 7, op := Op.alloc _, type := _, pos := _, after := _, guard := _ } :: _) _ _)); ((with_reducible refine gal ?_); refine wA 24 (.agg #[.int .i64 0, .int .i64 0, .int .i64 0, .int .i64 0, .int .i64 0, .int .i64 0, .int .i64 0]) [.int .i64 0, .int .i64 0, .int .i64 0, .int .i64 0, .int .i64 0, .int .i64 0, .int .i64 0] hA ?_; clear hF hA; intro b7 w1 hA hb7; (try simp only [uA] at hA); have hF := hA.facts; (try simp only [fZ] at hF))) | ((with_reducible refine gst ?_); refine wS hA ?_; clear hF hA; intro w1 hA; (try simp only [uA] at hA); have hF := hA.facts; (try simp only [fZ] at hF)) | ((with_reducible refine gbx ?_); refine wB hA ?_; clear hF hA; intro b1 w1 hA hb1; (try simp only [uA] at hA); have hF := hA.facts; (try simp only [fZ] at hF)))
  try go_frame
  (refine wp_region_all (Cl _ _ _) (by kernel_rfl) (by kernel_rfl) (Cl.drew hA) ?_); (have hn1 := Cl.none hA); (have hn2 := Cl.none2 hA); (repeat (first | go_big_quiet_skip | (go_big_quiet_want; (first | (refine quiet_loads_at (ty := 38) (n := 2) rfl rfl sR (by kernel_rfl) (by kernel_rfl) (by first | assumption | ((try simp only [List.drop_succ_cons, List.drop_zero, List.take_succ_cons, List.take_zero]) <;> exact rfl)) (by exact rfl) ?_; go_frame; go_big_quiet_on) | (refine quiet_loads_at (ty := 24) (n := 7) rfl rfl sR (by kernel_rfl) (by kernel_rfl) (by first | assumption | ((try simp only [List.drop_succ_cons, List.drop_zero, List.take_succ_cons, List.take_zero]) <;> exact rfl)) (by exact rfl) ?_; go_frame; go_big_quiet_on) | (refine quiet_load_at rfl rfl sR (by kernel_rfl) (by first | assumption | exact rfl) ?_; go_frame; go_big_quiet_on) | (go_big_quiet_op; (first | go_big_quiet_on | ((apply Exists.intro); (refine ⟨fun w1 hw => ?_, ?_⟩); (focus ((have hw := Cl.out hw); (fail))); (go_big_quiet_on))))))))
  (refine wpQuiet_nil ?_); (intro w1 hB); (clear hF hA hn1 hn2); (have hA := Cl.out hB); (clear hB); (try simp only [uA] at hA); have hF := hA.facts; (try simp only [fZ] at hF)
  go_wp2_with (first | ((with_reducible refine gst ?_); refine wS hA ?_; clear hF hA; intro w1 hA; (try simp only [uA] at hA); have hF := hA.facts; (try simp only [fZ] at hF)) | ((with_reducible refine gbx ?_); refine wB hA ?_; clear hF hA; intro b1 w1 hA hb1; (try simp only [uA] at hA); have hF := hA.facts; (try simp only [fZ] at hF)))
  go_ret
  exact ⟨rfl, hA.toExt⟩
end Go.Proofs.Ytgicohkmfbbbdaa.Gr
end
