/- RefY, GrbM, joined. -/
import Derived.Test.YtgicohkmfbbbdaaK23
import Derived.Test.YtgicohkmfbbbdaaK25
import Derived.Test.YtgicohkmfbbbdaaK30
import Derived.Test.YtgicohkmfbbbdaaK28
import Derived.Deep.LoopGhost
import Derived.Test.YtgicohkmfbbbdaaK24
section
namespace Go.Proofs.Ytgicohkmfbbbdaa.Ref
open _root_.Go.Proofs.Ytgicohkmfbbbdaa.Gr
open _root_.Go.Proofs.Ytgicohkmfbbbdaa.Mark (ltID)
open _root_.Go.Proofs.Ytgicohkmfbbbdaa.Attr (A8 rightI rightI_iff thro)
open Go.RowKit
set_option linter.unusedSimpArgs false
set_option linter.unusedVariables false
attribute [-go_sem] run_eql_struct run_neq_struct run_eqGuard_agg

theorem elem_cut2 (l : List IA) {i : Nat} {e : IA} (h : l[i]? = some e) : ((flatD l).drop (i * 10)).take 10 = cellsD e :=
  cut_cells cellsD_len (c := flatD l) (l := l) (by rw [List.take_of_length_le (by rw [flatD_len]; omega)]; rfl) h
theorem name_cut (l : List I2) {i : Nat} {x : I2} (h : l[i]? = some x) : ((flatI l).drop (i * 2)).take 2 = idL x :=
  cut_cells idL_len (c := flatI l) (l := l) (by rw [List.take_of_length_le (by rw [flatI_len]; omega)]; rfl) h
theorem find_names {l : List IA} {x : I2} (h : x ∈ l.map Prod.fst) : ∃ k : Nat, findD l x = k := ⟨_, if_pos h⟩
theorem find_lacks {l : List IA} {x : I2} (h : x ∉ l.map Prod.fst) : findD l x = -1 := if_neg h
/-- what was gone through -/
structure NdS (xs : List IA) (f : F7) (x : I2) (todo : List I2) (out : List IA) (i : Nat) : Prop where
  ms : MsS xs f x todo [] (out.map Prod.fst) i
  all : ∀ y ∈ todo.take i, y ∈ out.map Prod.fst
  sub : ∀ e ∈ out, getA xs e.1 = some e.2
theorem NdS.known {xs : List IA} {f : F7} {x : I2} {todo : List I2} {out : List IA} {i : Nat} (h : NdS xs f x todo out i) {y : I2} (hy : todo[i]? = some y) (hk : y ∈ out.map Prod.fst) : NdS xs f x todo out (i + 1) := by
  refine ⟨h.ms.known hy (h.ms.ksm y hk).1, fun z hz => ?_, h.sub⟩
  rw [List.take_add_one, hy] at hz
  rcases List.mem_append.1 hz with q | q
  · exact h.all z q
  · rw [show z = y from by simpa using q]; exact hk
theorem NdS.more {xs : List IA} {f : F7} {x : I2} {todo : List I2} {out : List IA} {i : Nat} (h : NdS xs f x todo out i) {y : I2} {a : A8} (hy : todo[i]? = some y) (hk : y ∉ out.map Prod.fst) (ha : getA xs y = some a) : NdS xs f x (todo ++ leads f a) (out ++ [(y, a)]) (i + 1) := by
  have hi := (List.getElem?_eq_some_iff.1 hy).1
  refine ⟨?_, fun z hz => ?_, fun e he => ?_⟩
  · rw [List.map_append]
    exact h.ms.more hy (fun q => hk (h.all y q)) ha
  · rw [List.take_append_of_le_length (by omega), List.take_add_one, hy] at hz
    rw [List.map_append]
    rcases List.mem_append.1 hz with q | q
    · exact List.mem_append_left _ (h.all z q)
    · rw [show z = y from by simpa using q]; simp
  · rcases List.mem_append.1 he with q | q
    · exact h.sub e q
    · rw [List.mem_singleton.1 q]; exact ha
theorem NdS.done {xs : List IA} {f : F7} {x : I2} {todo : List I2} {out : List IA} {i : Nat} (h : NdS xs f x todo out i) (hi : todo.length ≤ i) (hb : behind f x = false) : NeedsIs xs f x (some ((sortedD out).map Prod.fst)) := by
  have ht : todo.take i = todo := List.take_of_length_le hi
  have hr : ∀ y, RI xs f x y → y ∈ todo := fun y r => by
    induction r with
    | refl => exact h.ms.head
    | step _ hy ih => exact h.ms.cl _ (by rw [ht]; exact ih) _ hy
  refine ⟨hb, sortedD_sorted out, fun y => ?_, fun y hy => ?_⟩
  · rw [sortedD_names]
    exact ⟨fun q => h.ms.reach y (by have := (h.ms.ksm y q).1; rwa [ht] at this), fun q => h.all y (by rw [ht]; exact hr y q)⟩
  · rw [sortedD_names] at hy
    exact (h.ms.ksm y hy).2
def CutN (w : World) (b4 b5 : Nat) (xs : List IA) (f : F7) (r0 t0 : Int) (xv : Value) (u22 : Value) (wc : World) : Prop :=
  u22 = .bool (behind f (r0, t0)) ∧ At [rowD xv xs] w [rowD xv xs, Part.cells b4 [.int .i64 f.f0, .int .i64 f.f1, .int .i64 f.f2, .int .i64 f.f3, .int .i64 f.f4, .int .i64 f.f5, .int .i64 f.f6] 23, Part.cells b5 [.int .i64 r0, .int .i64 t0] 45] wc
def NdRel (w : World) (b4 b5 : Nat) (xs : List IA) (f : F7) (r0 t0 : Int) (xv : Value) (k : Nat) (u10 u9 u8 : Value) (wr : World) : Prop :=
  ∃ (i : Nat) (todo : List I2) (out : List IA), u10 = .int .i64 i ∧ i ≤ todo.length ∧ i + k = 1 + 7 * xs.length ∧ NdS xs f (r0, t0) todo out i ∧ At [rowD xv xs] w [rowJ u8 todo, rowD u9 out, rowD xv xs, Part.cells b4 [.int .i64 f.f0, .int .i64 f.f1, .int .i64 f.f2, .int .i64 f.f3, .int .i64 f.f4, .int .i64 f.f5, .int .i64 f.f6] 23, Part.cells b5 [.int .i64 r0, .int .i64 t0] 45] wr
def NeedsDPost (xs : List IA) (f : F7) (x : I2) (xv : Value) (w : World) (e : Ending) (w' : World) : Prop :=
  ∃ nv rd ls, e = .returned (.tuple #[nv, .bool rd]) ∧ (∀ y ∈ ls, getA xs y.1 = some y.2) ∧ (rd = true → NeedsIs xs f x (some (ls.map Prod.fst))) ∧ (rd = false → NeedsIs xs f x none ∧ ls = []) ∧ At [rowD xv xs] w [rowD nv ls, rowD xv xs] w'
set_option maxRecDepth 100000 in
set_option maxHeartbeats 8000000 in
theorem needsD_any {w : World} {xv : Value} {xs : List IA} (h : Sep [rowD xv xs] w) (f : F7) (x : I2) (hd : Deps xs) (hmax : xs.length ≤ 1000) :
    Calls Try.prog 18 #[xv, f.val, idV x] w (NeedsDPost xs f x xv w) := by
  have hm : Try.prog.follows .mixedOrders = true := by kernel_rfl
  obtain ⟨i0, hi0, hz0, hz1, hz2⟩ := info_parts infoD
  obtain ⟨i1, hi1, hz3, hz4, hz5⟩ := info_parts infoJ
  have hA := At.start h
  have hd' := Lib.hid hd
  clear h hd
  obtain ⟨axx, capx, hvx, _, hcpx, _⟩ := hA.row_form (e := 52) (size := 10) (n := xs.length) (v := xv) (xs := flatD xs) (by repeat (first | exact Sel.here | apply Sel.there))
  subst hvx
  obtain ⟨r0, t0⟩ := x
  simp only [F7.val, idV]
  (try simp only [uA] at hA); have hF := hA.facts; (try simp only [fZ] at hF)
  go_enter Try.func18, Try.ntmps18
  go_wp2_with (first | (((with_reducible show wpList _ _ _ ({ dst := some 4, op := Op.box _ _, type := _, pos := _, after := _, guard := _ } :: _) _ _)); ((with_reducible refine gbx ?_); refine wX 23 (.agg #[.int .i64 f.f0, .int .i64 f.f1, .int .i64 f.f2, .int .i64 f.f3, .int .i64 f.f4, .int .i64 f.f5, .int .i64 f.f6]) [.int .i64 f.f0, .int .i64 f.f1, .int .i64 f.f2, .int .i64 f.f3, .int .i64 f.f4, .int .i64 f.f5, .int .i64 f.f6] hA ?_; clear hF hA; intro b4 w1 hA hb4; (try simp only [uA] at hA); have hF := hA.facts; (try simp only [fZ] at hF))) | (((with_reducible show wpList _ _ _ ({ dst := some 5, op := Op.box _ _, type := _, pos := _, after := _, guard := _ } :: _) _ _)); ((with_reducible refine gbx ?_); refine wX 45 (.agg #[.int .i64 r0, .int .i64 t0]) [.int .i64 r0, .int .i64 t0] hA ?_; clear hF hA; intro b5 w1 hA hb5; (try simp only [uA] at hA); have hF := hA.facts; (try simp only [fZ] at hF))) | ((with_reducible refine gst ?_); refine wS hA ?_; clear hF hA; intro w1 hA; (try simp only [uA] at hA); have hF := hA.facts; (try simp only [fZ] at hF)) | ((with_reducible refine gbx ?_); refine wB hA ?_; clear hF hA; intro b1 w1 hA hb1; (try simp only [uA] at hA); have hF := hA.facts; (try simp only [fZ] at hF)))
  try go_frame
  have hri := fun w => idR_any r0 t0 w
  go_cut [22] from 12 to 21 (CutN w b4 b5 xs f r0 t0 (.slice axx xs.length capx))
  case first =>
    obtain ⟨x0, hx0⟩ : ∃ z, rightI r0 t0 = z := ⟨_, rfl⟩
    rw [hx0] at hri
    cases x0
    · have hb : behind f (r0, t0) = false := by unfold behind; rw [hx0]; rfl
      (refine wp_region_all (Cl _ _ _) (by kernel_rfl) (by kernel_rfl) (Cl.drew hA) ?_); (have hn1 := Cl.none hA); (have hn2 := Cl.none2 hA); (repeat (first | go_big_quiet_skip | (go_big_quiet_want; (first | (refine quiet_loads_at (ty := 45) (n := 2) rfl rfl (by with_reducible repeat (first | exact Sel.here | apply Sel.there)) (by kernel_rfl) (by kernel_rfl) (by first | assumption | ((try simp only [List.drop_succ_cons, List.drop_zero, List.take_succ_cons, List.take_zero]) <;> exact rfl)) (by exact rfl) ?_; go_frame; go_big_quiet_on) | (refine quiet_load_at rfl rfl (by with_reducible repeat (first | exact Sel.here | apply Sel.there)) (by kernel_rfl) (by first | assumption | exact rfl) ?_; go_frame; go_big_quiet_on) | (go_big_quiet_op; (first | go_big_quiet_on | ((apply Exists.intro); (refine ⟨fun w1 hw => ?_, ?_⟩); (focus ((have hw := Cl.out hw); (exact thro hw (hri _)))); (go_big_quiet_on))))))))
      (refine wpQuiet_nil ?_); (intro w1 hB); (clear hF hA hn1 hn2); (have hA := Cl.out hB); (clear hB); (try simp only [uA] at hA); have hF := hA.facts; (try simp only [fZ] at hF)
      go_wp2_with fail
      go_meet
      case rel => exact ⟨by rw [hb], hA.pick (by repeat (first | exact Picks.nil | refine Picks.cons (by repeat (first | exact Sel.here | apply Sel.there)) ?_))⟩
    · have hq7 := rightI_iff.1 hx0
      obtain ⟨q, rfl⟩ : ∃ q : Nat, r0 = q := ⟨r0.toNat, by omega⟩
      have hb : behind f ((q : Int), t0) = decide (t0 < f.at q) := by unfold behind; rw [hx0]; rfl
      have hcf := f.cell (q := q) (by omega)
      obtain ⟨fc, hfc⟩ : ∃ z, f.cells = z := ⟨_, rfl⟩
      rw [hfc] at hcf
      have hfc2 : ([.int .i64 f.f0, .int .i64 f.f1, .int .i64 f.f2, .int .i64 f.f3, .int .i64 f.f4, .int .i64 f.f5, .int .i64 f.f6] : List Value) = fc := hfc
      rw [hfc2] at hA
      generalize f.at q = fq at *
      have hq8 : (q : Int) < 7 := by omega
      (try simp only [uA] at hA); have hF := hA.facts; (try simp only [fZ] at hF)
      clear hx0 hfc
      (refine wp_region_all (Cl _ _ _) (by kernel_rfl) (by kernel_rfl) (Cl.drew hA) ?_); (have hn1 := Cl.none hA); (have hn2 := Cl.none2 hA); (repeat (first | go_big_quiet_skip | (go_big_quiet_want; (first | (refine quiet_loads_at (ty := 45) (n := 2) rfl rfl (by with_reducible repeat (first | exact Sel.here | apply Sel.there)) (by kernel_rfl) (by kernel_rfl) (by first | assumption | ((try simp only [List.drop_succ_cons, List.drop_zero, List.take_succ_cons, List.take_zero]) <;> exact rfl)) (by exact rfl) ?_; go_frame; go_big_quiet_on) | (refine quiet_load_at rfl rfl (by with_reducible repeat (first | exact Sel.here | apply Sel.there)) (by kernel_rfl) (by first | assumption | exact rfl) ?_; go_frame; go_big_quiet_on) | (go_big_quiet_op; (first | go_big_quiet_on | ((apply Exists.intro); (refine ⟨fun w1 hw => ?_, ?_⟩); (focus ((have hw := Cl.out hw); (exact thro hw (hri _)))); (go_big_quiet_on))))))))
      (refine wpQuiet_nil ?_); (intro w1 hB); (clear hF hA hn1 hn2); (have hA := Cl.out hB); (clear hB); (try simp only [uA] at hA); have hF := hA.facts; (try simp only [fZ] at hF)
      rw [← hfc2] at hA
      go_wp2_with fail
      go_meet
      case rel => exact ⟨by rw [hb], hA.pick (by repeat (first | exact Picks.nil | refine Picks.cons (by repeat (first | exact Sel.here | apply Sel.there)) ?_))⟩
  case rest =>
    obtain ⟨rfl, hB⟩ := hcut
    clear hF hA hri; have hA := hB; clear hB
    obtain ⟨bh, hbh⟩ : ∃ z, behind f (r0, t0) = z := ⟨_, rfl⟩
    rw [hbh]
    have hbh' := Lib.hid hbh
    clear hbh
    (try simp only [uA] at hA); have hF := hA.facts; (try simp only [fZ] at hF)
    cases bh
    · go_wp2_with (first | ((with_reducible show wpList _ _ _ ({ dst := _, op := Op.buildSlice _ _ _, type := _, pos := _, after := _, guard := _ } :: _) _ _); refine wpList_one_at (e := 45) (vs := idL (r0, t0)) rfl rfl (by (try simp only [Act.eval, eV]) <;> exact rfl) (fun _ => by kernel_rfl) hA ?_; intro b24 w1 hB hb24; clear hF hA; have hA := hB; clear hB; (try simp only [uA] at hA); have hF := hA.facts; (try simp only [fZ] at hF)) | ((with_reducible refine gst ?_); refine wS hA ?_; clear hF hA; intro w1 hA; (try simp only [uA] at hA); have hF := hA.facts; (try simp only [fZ] at hF)) | ((with_reducible refine gbx ?_); refine wB hA ?_; clear hF hA; intro b1 w1 hA hb1; (try simp only [uA] at hA); have hF := hA.facts; (try simp only [fZ] at hF)))
      try go_frame
      have hB := hA.row_shut (e := 45) (size := 2) (g := b24) (n := 1) (cap := 1) (xs := flatI [(r0, t0)]) (by repeat (first | exact Sel.here | apply Sel.there)) rfl (Nat.le_refl _) (by decide) rfl
      clear hF hA; have hA := hB; clear hB
      have hB := row_nilD hA
      clear hA
      have hns := Lib.hid (show NdS xs f (r0, t0) [(r0, t0)] [] 0 from ⟨ms_start xs f (r0, t0), by simp, by simp⟩)
      go_loopg [10, 9, 8] (1 + 7 * xs.length) (NdRel w b4 b5 xs f r0 t0 (.slice axx xs.length capx))
      case atStart => exact ⟨0, [(r0, t0)], [], rfl, by simp, by omega, hns.out, hB.pick (by repeat (first | exact Picks.nil | refine Picks.cons (by repeat (first | exact Sel.here | apply Sel.there)) ?_))⟩
      case round =>
        obtain ⟨i, todo, out, rfl, hit, hik, hnd, hA⟩ := hrel
        clear hB
        have hnd' := Lib.hid hnd
        have hmx := hnd.ms.max
        have hol : out.length ≤ xs.length := by
          have h1 : (out.map Prod.fst).length ≤ (xs.map (·.1)).length := nodup_le hnd.ms.ksd fun y hy => by
            have := (hnd.ms.ksm y hy).2
            cases hq : getA xs y with
            | none => rw [hq] at this; cases this
            | some b => exact List.mem_map.2 ⟨_, getA_mem hq, rfl⟩
          rwa [List.length_map, List.length_map] at h1
        clear hnd
        obtain ⟨axt, capt, hvt, _, hcpt, _⟩ := hA.row_form (e := 45) (size := 2) (n := todo.length) (v := u8) (xs := flatI todo) .here
        obtain ⟨axo, capo, hvo, _, hcpo, _⟩ := hA.row_form (e := 52) (size := 10) (n := out.length) (v := u9) (xs := flatD out) (by repeat (first | exact Sel.here | apply Sel.there))
        subst hvt
        subst hvo
        by_cases hi : i < todo.length
        · obtain ⟨y, hy⟩ : ∃ y, todo[i]? = some y := ⟨_, List.getElem?_eq_getElem hi⟩
          have hiI : (i : Int) < todo.length := by omega
          obtain ⟨gt, ct, hgt2, _, _, _, _, _⟩ := hA.row_open (e := 45) (size := 2) (ax := axt) (cap := capt) (n := todo.length) (xs := flatI todo) (by repeat (first | exact Sel.here | apply Sel.there)) (by omega)
          subst hgt2
          have hnc := name_cut todo hy
          have hy' := Lib.hid hy
          have hyr := hnd'.out.ms.reach y (List.mem_of_getElem? hy)
          clear hy
          obtain ⟨ry, ty⟩ := y
          have hnc' := Lib.hid (show ((flatI todo).drop (i * 2)).take (List.length (α := Value) [.int .i64 ry, .int .i64 ty]) = [.int .i64 ry, .int .i64 ty] from hnc)
          clear hnc
          (try simp only [uA] at hA); have hF := hA.facts; (try simp only [fZ] at hF)
          go_wp2_with (first | ((with_reducible show wpList _ _ _ ({ dst := some 35, op := Op.load _ _, type := _, pos := _, after := _, guard := _ } :: _) _ _); refine wpList_rowN_at (g := gt) (j := i * 2) (vs := [.int .i64 ry, .int .i64 ty]) rfl rfl (by (try simp only [Act.eval, eV]) <;> exact rfl) hA (by repeat (first | exact Sel.here | apply Sel.there)) hnc'.out (by kernel_rfl) (by kernel_rfl) ?_) | ((with_reducible refine gst ?_); refine wS hA ?_; clear hF hA; intro w1 hA; (try simp only [uA] at hA); have hF := hA.facts; (try simp only [fZ] at hF)) | ((with_reducible refine gbx ?_); refine wB hA ?_; clear hF hA; intro b1 w1 hA hb1; (try simp only [uA] at hA); have hF := hA.facts; (try simp only [fZ] at hF)))
          refine (find_any (hA.sep1 (A := rowD (.slice axx xs.length capx) xs) (by repeat (first | exact Sel.here | apply Sel.there))) (ry, ty) (by omega)).mono ?_
          rintro e w7 ⟨rfl, hT⟩
          have hB := hA.call1 (A := rowD (.slice axx xs.length capx) xs) (by repeat (first | exact Sel.here | apply Sel.there)) hT
          clear hT
          clear hF hA; have hA := hB; clear hB
          try simp only [List.cons_append, List.nil_append] at hA
          (try simp only [uA] at hA); have hF := hA.facts; (try simp only [fZ] at hF)
          cases hg : getA xs (ry, ty) with
          | none =>
            rw [find_none hg]
            have hneed := Lib.hid (show NeedsIs xs f (r0, t0) none from .inr ⟨(ry, ty), hyr, hg⟩)
            clear hg hyr
            go_wp2_with (first | ((with_reducible refine gst ?_); refine wS hA ?_; clear hF hA; intro w1 hA; (try simp only [uA] at hA); have hF := hA.facts; (try simp only [fZ] at hF)) | ((with_reducible refine gbx ?_); refine wB hA ?_; clear hF hA; intro b1 w1 hA hb1; (try simp only [uA] at hA); have hF := hA.facts; (try simp only [fZ] at hF)))
            have hB := row_nilD hA
            refine bodyPost_ret (v := .tuple #[.slice none 0 0, .bool false]) (by simp [results, Try.results18, go_sem]) rfl ?_
            exact ⟨_, false, [], rfl, nofun, nofun, fun _ => ⟨hneed.out, rfl⟩, hB.pick (by repeat (first | exact Picks.nil | refine Picks.cons (by repeat (first | exact Sel.here | apply Sel.there)) ?_))⟩
          | some b =>
            obtain ⟨k, hfk, hkl, hke⟩ := find_some hg
            rw [hfk]
            have hk0 : ¬ (k : Int) < 0 := by omega
            have hkI : (k : Int) < xs.length := by omega
            have hG0 : i + 1 + (gk - 1) = 1 + 7 * xs.length ∧ gk - 1 < gk := by omega
            obtain ⟨G, hG⟩ : ∃ G, gk - 1 = G := ⟨_, rfl⟩
            rw [hG] at hG0
            have hGk := Lib.hid hG0
            clear hG hG0 hik hyr
            go_wp2_with (first | ((with_reducible show wpList _ _ _ ({ dst := some 43, op := Op.load _ _, type := _, pos := _, after := _, guard := _ } :: _) _ _); refine wpList_rowN_at (g := gt) (j := i * 2) (vs := [.int .i64 ry, .int .i64 ty]) rfl rfl (by (try simp only [Act.eval, eV]) <;> exact rfl) hA (by repeat (first | exact Sel.here | apply Sel.there)) hnc'.out (by kernel_rfl) (by kernel_rfl) ?_) | ((with_reducible refine gst ?_); refine wS hA ?_; clear hF hA; intro w1 hA; (try simp only [uA] at hA); have hF := hA.facts; (try simp only [fZ] at hF)) | ((with_reducible refine gbx ?_); refine wB hA ?_; clear hF hA; intro b1 w1 hA hb1; (try simp only [uA] at hA); have hF := hA.facts; (try simp only [fZ] at hF)))
            refine (find_any (hA.sep1 (A := rowD (.slice axo out.length capo) out) (by repeat (first | exact Sel.here | apply Sel.there))) (ry, ty) (by omega)).mono ?_
            rintro e w8 ⟨rfl, hT⟩
            have hB := hA.call1 (A := rowD (.slice axo out.length capo) out) (by repeat (first | exact Sel.here | apply Sel.there)) hT
            clear hT
            clear hF hA; have hA := hB; clear hB
            try simp only [List.cons_append, List.nil_append] at hA
            (try simp only [uA] at hA); have hF := hA.facts; (try simp only [fZ] at hF)
            by_cases hkn : (ry, ty) ∈ out.map Prod.fst
            · obtain ⟨k2, hk2⟩ := find_names hkn
              rw [hk2]
              have hk20 : (0 : Int) ≤ (k2 : Int) := by omega
              have hnx := Lib.hid (hnd'.out.known hy'.out hkn)
              clear hkn hg hke
              go_wp2_with (first | ((with_reducible refine gst ?_); refine wS hA ?_; clear hF hA; intro w1 hA; (try simp only [uA] at hA); have hF := hA.facts; (try simp only [fZ] at hF)) | ((with_reducible refine gbx ?_); refine wB hA ?_; clear hF hA; intro b1 w1 hA hb1; (try simp only [uA] at hA); have hF := hA.facts; (try simp only [fZ] at hF)))
              go_roundg G
              case measure => exact hGk.out.2
              case rel => exact ⟨i + 1, todo, out, by simp, by omega, hGk.out.1, hnx.out, hA.pick (by repeat (first | exact Picks.nil | refine Picks.cons (by repeat (first | exact Sel.here | apply Sel.there)) ?_))⟩
            · rw [find_lacks hkn]
              have hnx := Lib.hid (hnd'.out.more hy'.out hkn hg)
              have hdep := Lib.hid (hd'.out _ _ hg)
              have hll7 := leads_len f b
              have hec := elem_cut2 xs hke
              obtain ⟨gx, cx, hgx2, _, _, _, _, _⟩ := hA.row_open (e := 52) (size := 10) (ax := axx) (cap := capx) (n := xs.length) (xs := flatD xs) (by repeat (first | exact Sel.here | apply Sel.there)) (by omega)
              subst hgx2
              have hlds := fun w1 => leadsN_any w1 ((ry, ty), b) f hdep.out
              obtain ⟨ss, d0, d1, d2, d3, d4, d5, d6⟩ := b
              have hec' := Lib.hid (show ((flatD xs).drop (k * 10)).take (List.length (α := Value) [.int .i64 ry, .int .i64 ty, .int .i64 ss, .int .i64 d0, .int .i64 d1, .int .i64 d2, .int .i64 d3, .int .i64 d4, .int .i64 d5, .int .i64 d6]) = [.int .i64 ry, .int .i64 ty, .int .i64 ss, .int .i64 d0, .int .i64 d1, .int .i64 d2, .int .i64 d3, .int .i64 d4, .int .i64 d5, .int .i64 d6] from hec)
              simp only [cellsD] at hlds
              simp only [F7.val] at hlds
              clear hkn hg hke hec
              (try simp only [uA] at hA); have hF := hA.facts; (try simp only [fZ] at hF)
              go_upto_region 13 with (first | ((with_reducible show wpList _ _ _ ({ dst := some 50, op := Op.load _ _, type := _, pos := _, after := _, guard := _ } :: _) _ _); refine wpList_rowN_at (g := gx) (j := k * 10) (vs := [.int .i64 ry, .int .i64 ty, .int .i64 ss, .int .i64 d0, .int .i64 d1, .int .i64 d2, .int .i64 d3, .int .i64 d4, .int .i64 d5, .int .i64 d6]) rfl rfl (by (try simp only [Act.eval, eV]) <;> exact rfl) hA (by repeat (first | exact Sel.here | apply Sel.there)) hec'.out (by kernel_rfl) (by kernel_rfl) ?_) | ((with_reducible show wpList _ _ _ ({ dst := _, op := Op.buildSlice _ _ _, type := _, pos := _, after := _, guard := _ } :: _) _ _); refine wpList_one_at (e := 52) (vs := cellsD ((ry, ty), (⟨ss, d0, d1, d2, d3, d4, d5, d6⟩ : A8))) rfl rfl (by (try simp only [Act.eval, eV]) <;> exact rfl) (fun _ => by kernel_rfl) hA ?_; intro b51 w1 hB hb51; clear hF hA; have hA := hB; clear hB; (try simp only [uA] at hA); have hF := hA.facts; (try simp only [fZ] at hF)) | ((with_reducible show wpList _ _ _ ({ dst := _, op := Op.call { callee := Callee.builtin Builtin.append, args := _, argTypes := _ }, type := _, pos := _, after := _, guard := _ } :: _) _ _); refine wpList_append_at (e := 52) (size := 10) (v := .slice axo out.length capo) (xs := flatD out) (n := out.length) (m := 1) (news := cellsD ((ry, ty), (⟨ss, d0, d1, d2, d3, d4, d5, d6⟩ : A8))) rfl _ _ 28 rfl Try.underlying28 hi0 hz0 hz1 hz2 rfl (by omega) hA (by repeat (first | exact Sel.here | apply Sel.there)) (by (try simp only [Act.eval, eV]) <;> exact rfl) (by (try simp only [Act.eval, eV]) <;> exact rfl) rfl (hA.cells_reads (by repeat (first | exact Sel.here | apply Sel.there)) _ _) (cellsD_one _) (by unfold maxLen; omega) (by omega) ?_; intro v9 w1 hB; rw [rowD_snoc] at hB; clear hF hA; have hA := hB; clear hB; (try simp only [uA] at hA); have hF := hA.facts; (try simp only [fZ] at hF)) | ((with_reducible refine gst ?_); refine wS hA ?_; clear hF hA; intro w1 hA; (try simp only [uA] at hA); have hF := hA.facts; (try simp only [fZ] at hF)) | ((with_reducible refine gbx ?_); refine wB hA ?_; clear hF hA; intro b1 w1 hA hb1; (try simp only [uA] at hA); have hF := hA.facts; (try simp only [fZ] at hF)))
              try go_frame
              obtain ⟨gx2, cx, hgx2, k1, k2, k3, k4, hB⟩ := hA.row_open (e := 52) (size := 10) (ax := some ⟨gx, 0, none⟩) (cap := capx) (n := xs.length) (xs := flatD xs) (by repeat (first | exact Sel.here | apply Sel.there)) (by omega)
              cases hgx2
              clear hF hA
              have hA := hB.drew
              clear hB
              have hx10 : (cx.drop (k * 10)).take 10 = [.int .i64 ry, .int .i64 ty, .int .i64 ss, .int .i64 d0, .int .i64 d1, .int .i64 d2, .int .i64 d3, .int .i64 d4, .int .i64 d5, .int .i64 d6] := by
                have hq := hec'.out
                have h2 : ((cx.take (xs.length * 10)).drop (k * 10)).take 10 = ((flatD xs).drop (k * 10)).take 10 := by rw [k4]
                rw [List.drop_take, List.take_take, Nat.min_eq_left (by omega)] at h2
                rw [h2]
                exact hq
              have k4' := Lib.hid k4
              clear k4
              refine wp_region_held (S := fun w' => BlockIs w' gx cx 52 ∧ BlockIs w' b4 [.int .i64 f.f0, .int .i64 f.f1, .int .i64 f.f2, .int .i64 f.f3, .int .i64 f.f4, .int .i64 f.f5, .int .i64 f.f6] 23) hm ?_
              change wpAnyH _ _ _ _ _ 9 _ _ (World.drew _)
              generalize World.drew _ = wd at *
              have hS0 := (⟨hA.get (A := Part.cells gx cx 52) (by repeat (first | exact Sel.here | apply Sel.there)), hA.get (A := Part.cells b4 [.int .i64 f.f0, .int .i64 f.f1, .int .i64 f.f2, .int .i64 f.f3, .int .i64 f.f4, .int .i64 f.f5, .int .i64 f.f6] 23) (by repeat (first | exact Sel.here | apply Sel.there))⟩ : (fun w' => BlockIs w' gx cx 52 ∧ BlockIs w' b4 [.int .i64 f.f0, .int .i64 f.f1, .int .i64 f.f2, .int .i64 f.f3, .int .i64 f.f4, .int .i64 f.f5, .int .i64 f.f6] 23) wd)
              refine tP 0 53 (.slice (some ⟨gt, 0, none⟩) todo.length capt) (s := hS0) (h := ?_)
              try go_frame
              refine tP 1 54 (.slice (some ⟨gx, 0, none⟩) xs.length capx) (s := hS0) (h := ?_)
              try go_frame
              refine tP 2 55 (.int .i64 (k : Int)) (s := hS0) (h := ?_)
              try go_frame
              refine tZ 3 56 (.pointer (some ⟨gx, k * 10, none⟩)) (r := (fun w' hS => by simp [execOp, go_sem, Act.eval, Act.put]; omega)) (s := hS0) (h := ?_)
              try go_frame
              refine tZ 4 57 (.agg #[.int .i64 ry, .int .i64 ty, .int .i64 ss, .int .i64 d0, .int .i64 d1, .int .i64 d2, .int .i64 d3, .int .i64 d4, .int .i64 d5, .int .i64 d6]) (r := (fun w' hS => run_load_row (ty := 52) (n := 10) (b := gx) (j := k * 10) rfl (by exact rfl) hS.1 (by kernel_rfl) (by kernel_rfl) hx10 rfl)) (s := hS0) (h := ?_)
              try go_frame
              refine tZ 5 58 (.agg #[.int .i64 f.f0, .int .i64 f.f1, .int .i64 f.f2, .int .i64 f.f3, .int .i64 f.f4, .int .i64 f.f5, .int .i64 f.f6]) (r := (fun w' hS => run_load_row (ty := 23) (n := 7) (b := b4) (j := 0) rfl (by exact rfl) hS.2 (by kernel_rfl) (by kernel_rfl) rfl rfl)) (s := hS0) (h := ?_)
              try go_frame
              refine wpAnyH_one (i := 6) (by kernel_rfl) ?_
              refine opCall_at (i := 6) (d := some 59) (R := fun u w' => At [] wd [rowJ u (leads f ⟨ss, d0, d1, d2, d3, d4, d5, d6⟩)] w') rfl rfl (by kernel_rfl) (fn := 21) (args := #[.agg #[.int .i64 ry, .int .i64 ty, .int .i64 ss, .int .i64 d0, .int .i64 d1, .int .i64 d2, .int .i64 d3, .int .i64 d4, .int .i64 d5, .int .i64 d6], .agg #[.int .i64 f.f0, .int .i64 f.f1, .int .i64 f.f2, .int .i64 f.f3, .int .i64 f.f4, .int .i64 f.f5, .int .i64 f.f6]]) (by simp [execOp, go_sem, Act.eval, Act.put]) ((hlds wd).mono fun e w' ⟨v, he, hT⟩ => ⟨v, he, hT⟩) ?_
              intro vq w3 hT
              have hB := hA.call0 hT
              clear hT
              simp only [List.cons_append, List.nil_append] at hB
              have hS0 := (⟨hB.get (A := Part.cells gx cx 52) (by repeat (first | exact Sel.here | apply Sel.there)), hB.get (A := Part.cells b4 [.int .i64 f.f0, .int .i64 f.f1, .int .i64 f.f2, .int .i64 f.f3, .int .i64 f.f4, .int .i64 f.f5, .int .i64 f.f6] 23) (by repeat (first | exact Sel.here | apply Sel.there))⟩ : (fun w' => BlockIs w' gx cx 52 ∧ BlockIs w' b4 [.int .i64 f.f0, .int .i64 f.f1, .int .i64 f.f2, .int .i64 f.f3, .int .i64 f.f4, .int .i64 f.f5, .int .i64 f.f6] 23) w3)
              clear hA; have hA := hB; clear hB
              refine ⟨hS0, ?_⟩
              try go_frame
              refine wpAnyH_one (i := 7) (by kernel_rfl) ?_
              refine opAppend_at (k := 7) (d := some 60) (e := 45) (size := 2) (v := .slice (some ⟨gt, 0, none⟩) todo.length capt) (xs := flatI todo) (n := todo.length) (m := (leads f ⟨ss, d0, d1, d2, d3, d4, d5, d6⟩).length) (news := flatI (leads f ⟨ss, d0, d1, d2, d3, d4, d5, d6⟩)) rfl rfl rfl rfl _ _ 48 rfl Try.underlying48 hi1 hz3 hz4 hz5 rfl (by omega) hA (by repeat (first | exact Sel.here | apply Sel.there)) (by (try simp only [Act.eval, eV]) <;> exact rfl) (by (try simp only [Act.eval, eV]) <;> exact rfl) (flatI_len _) (hA.row_reads (v := vq) (n := (leads f ⟨ss, d0, d1, d2, d3, d4, d5, d6⟩).length) (xs := flatI (leads f ⟨ss, d0, d1, d2, d3, d4, d5, d6⟩)) (by repeat (first | exact Sel.here | apply Sel.there))) (flatI_one _) (by unfold maxLen; omega) (by omega) ?_
              intro vp w3 hB
              rw [rowJ_app] at hB
              have hS0 := (⟨hB.get (A := Part.cells gx cx 52) (by repeat (first | exact Sel.here | apply Sel.there)), hB.get (A := Part.cells b4 [.int .i64 f.f0, .int .i64 f.f1, .int .i64 f.f2, .int .i64 f.f3, .int .i64 f.f4, .int .i64 f.f5, .int .i64 f.f6] 23) (by repeat (first | exact Sel.here | apply Sel.there))⟩ : (fun w' => BlockIs w' gx cx 52 ∧ BlockIs w' b4 [.int .i64 f.f0, .int .i64 f.f1, .int .i64 f.f2, .int .i64 f.f3, .int .i64 f.f4, .int .i64 f.f5, .int .i64 f.f6] 23) w3)
              clear hA; have hA := hB; clear hB
              refine ⟨hS0, ?_⟩
              try go_frame
              refine tP 8 8 (vp) (s := hS0) (h := ?_)
              try go_frame
              refine wpAnyH_done (by kernel_rfl) ?_ _
              try go_frame
              clear hS0
              (try simp only [uA] at hA); have hF := hA.facts; (try simp only [fZ] at hF)
              go_wp2_with (first | ((with_reducible refine gst ?_); refine wS hA ?_; clear hF hA; intro w1 hA; (try simp only [uA] at hA); have hF := hA.facts; (try simp only [fZ] at hF)) | ((with_reducible refine gbx ?_); refine wB hA ?_; clear hF hA; intro b1 w1 hA hb1; (try simp only [uA] at hA); have hF := hA.facts; (try simp only [fZ] at hF)))
              go_roundg G
              case measure => exact hGk.out.2
              case rel =>
                have hC := hA.row_shut (e := 52) (size := 10) (g := gx) (n := xs.length) (cap := capx) (xs := flatD xs) (by repeat (first | exact Sel.here | apply Sel.there)) k3 k1 k2 k4'.out
                exact ⟨i + 1, todo ++ (leads f ⟨ss, d0, d1, d2, d3, d4, d5, d6⟩), _, by simp, by rw [List.length_append]; omega, hGk.out.1, hnx.out, hC.pick (by repeat (first | exact Picks.nil | refine Picks.cons (by repeat (first | exact Sel.here | apply Sel.there)) ?_))⟩
        · have hiI : ¬ (i : Int) < todo.length := by omega
          have hneed := Lib.hid (hnd'.out.done (by omega) hbh'.out)
          have hsub := Lib.hid hnd'.out.sub
          (try simp only [uA] at hA); have hF := hA.facts; (try simp only [fZ] at hF)
          go_wp2_with (first | ((with_reducible refine gst ?_); refine wS hA ?_; clear hF hA; intro w1 hA; (try simp only [uA] at hA); have hF := hA.facts; (try simp only [fZ] at hF)) | ((with_reducible refine gbx ?_); refine wB hA ?_; clear hF hA; intro b1 w1 hA hb1; (try simp only [uA] at hA); have hF := hA.facts; (try simp only [fZ] at hF)))
          refine (sorted_any (hA.sep1 (A := rowD (.slice axo out.length capo) out) (by repeat (first | exact Sel.here | apply Sel.there))) (by omega)).mono ?_
          rintro e w9 ⟨us, rfl, hT⟩
          have hB := hA.call1 (A := rowD (.slice axo out.length capo) out) (by repeat (first | exact Sel.here | apply Sel.there)) hT
          clear hT
          clear hF hA; have hA := hB; clear hB
          try simp only [List.cons_append, List.nil_append] at hA
          (try simp only [uA] at hA); have hF := hA.facts; (try simp only [fZ] at hF)
          go_wp2_with (first | ((with_reducible refine gst ?_); refine wS hA ?_; clear hF hA; intro w1 hA; (try simp only [uA] at hA); have hF := hA.facts; (try simp only [fZ] at hF)) | ((with_reducible refine gbx ?_); refine wB hA ?_; clear hF hA; intro b1 w1 hA hb1; (try simp only [uA] at hA); have hF := hA.facts; (try simp only [fZ] at hF)))
          refine bodyPost_ret (v := .tuple #[us, .bool true]) (by simp [results, Try.results18, go_sem]) rfl ?_
          exact ⟨us, true, sortedD out, rfl, fun y hy => hsub.out y (sortedD_sub hy), fun _ => hneed.out, nofun, hA.pick (by repeat (first | exact Picks.nil | refine Picks.cons (by repeat (first | exact Sel.here | apply Sel.there)) ?_))⟩
    · go_wp2_with (first | ((with_reducible refine gst ?_); refine wS hA ?_; clear hF hA; intro w1 hA; (try simp only [uA] at hA); have hF := hA.facts; (try simp only [fZ] at hF)) | ((with_reducible refine gbx ?_); refine wB hA ?_; clear hF hA; intro b1 w1 hA hb1; (try simp only [uA] at hA); have hF := hA.facts; (try simp only [fZ] at hF)))
      have hB := row_nilD hA
      refine bodyPost_ret (v := .tuple #[.slice none 0 0, .bool false]) (by simp [results, Try.results18, go_sem]) rfl ?_
      exact ⟨_, false, [], rfl, nofun, nofun, fun _ => ⟨.inl hbh'.out, rfl⟩, hB.pick (by repeat (first | exact Picks.nil | refine Picks.cons (by repeat (first | exact Sel.here | apply Sel.there)) ?_))⟩
end Go.Proofs.Ytgicohkmfbbbdaa.Ref
end

section
namespace Go.Proofs.Ytgicohkmfbbbdaa.Gr
open _root_.Go.Proofs.Ytgicohkmfbbbdaa.Mark (ltID sortID)
open _root_.Go.Proofs.Ytgicohkmfbbbdaa.Ref (IA xat sqX)
open Go.RowKit
open Attr (A8)
set_option linter.unusedSimpArgs false
set_option linter.unusedVariables false

section
variable {es xs : List (I2 × A8)}
theorem leadsG_same (h : ∀ x, getA xs x = getA es x) (f : F7) (x : I2) : leadsG xs f x = leadsG es f x := by unfold leadsG; rw [h]
theorem RI_get (h : ∀ x, getA xs x = getA es x) {f : F7} {a b : I2} (r : RI xs f a b) : RI es f a b := by
  induction r with
  | refl => exact .refl
  | step _ hy ih => exact .step ih (by rw [← leadsG_same h]; exact hy)
theorem needs_same (h : ∀ x, getA xs x = getA es x) {f : F7} {a : I2} : ∀ {r : Option (List I2)}, NeedsIs xs f a r → NeedsIs es f a r
  | none, q => by
    rcases q with q | ⟨x, hx, hg⟩
    · exact .inl q
    · exact .inr ⟨x, RI_get h hx, by rw [← h]; exact hg⟩
  | some l, ⟨h1, h2, h3, h4⟩ => ⟨h1, h2, fun x => by rw [h3]; exact ⟨RI_get h, RI_get fun x => (h x).symm⟩, fun x hx => by rw [← h]; exact h4 x hx⟩
theorem first_same (h : ∀ x, getA xs x = getA es x) {f : F7} : ∀ {r : Option (List I2)}, FirstIs xs f r → FirstIs es f r
  | none, q => fun k hk => needs_same h (q k hk)
  | some l, ⟨q, hq, h1, h2⟩ => ⟨q, hq, fun k hk => needs_same h (h1 k hk), needs_same h h2⟩
theorem ordG_same {l : List I2} (h : ∀ x ∈ l, getA xs x = getA es x) (f : F7) : ordG xs f l = ordG es f l := by
  have e1 : nxL xs f l = nxL es f l := by
    funext i
    unfold nxL
    cases hx : l[i]? with
    | none => rfl
    | some x =>
      have : leadsG xs f x = leadsG es f x := by unfold leadsG; rw [h x (List.mem_of_getElem? hx)]
      simp only [this]
  have e2 : enL xs l = enL es l := by
    funext i
    unfold enL
    cases hx : l[i]? with
    | none => rfl
    | some x => simp only [h x (List.mem_of_getElem? hx)]
  unfold ordG ordN
  rw [e1, e2]
theorem run_same (h : ∀ x, getA xs x = getA es x) {f g : F7} {r : List I2} (q : RunR xs f r g) : RunR es f r g := by
  induction q with
  | stop hf => exact .stop (first_same h hf)
  | go hf _ ih =>
    rw [ordG_same (fun x _ => h x)]
    exact .go (first_same h hf) ih
/-- the document's order of some, by names -/
theorem ordD_names {ls : List IA} (hu : Uq ls) (hs : ∀ y ∈ ls, getA es y.1 = some y.2) (f : F7) :
    ((Tar.ordR (nxL ls f (ls.map Prod.fst)) ls.length (sqX ls)).map (xat ls)).map Prod.fst = ordG es f (ls.map Prod.fst) := by
  have hg : ∀ x ∈ ls.map Prod.fst, getA ls x = getA es x := fun x hx => by
    obtain ⟨y, hy, rfl⟩ := List.mem_map.1 hx
    rw [hs y hy]
    exact getA_of_mem hu hy
  rw [← ordG_same hg f, List.map_map]
  have e1 : sqX ls = sqE (enL ls (ls.map Prod.fst)) := by
    funext i
    unfold sqX xat sqE enL
    rw [List.getElem?_map]
    cases hx : ls[i]? with
    | none => rfl
    | some y =>
      simp only [Option.map_some, Option.getD_some]
      rw [getA_of_mem hu (List.mem_of_getElem? hx)]
      rfl
  have e2 : Prod.fst ∘ xat ls = idK (enL ls (ls.map Prod.fst)) := by
    funext i
    show (xat ls i).1 = (enL ls (ls.map Prod.fst) i).1
    unfold xat enL
    rw [List.getElem?_map]
    cases hx : ls[i]? <;> rfl
  unfold ordG ordN
  rw [e1, e2, List.length_map]
theorem run_facts (ho : Own es) {f g : F7} {got : List I2} (h : RunR es f got g) : FOk f → (∀ x ∈ got, (getA es x).isSome = true ∧ behind f x = false ∧ behind g x = true) ∧ ∀ q, q < 7 → f.at q ≤ g.at q := by
  induction h with
  | stop h => exact fun _ => ⟨nofun, fun _ _ => Int.le_refl _⟩
  | go h t ih =>
    rename_i f g l r
    intro hf
    obtain ⟨p1, p2, _⟩ := first_in h
    have hr : ∀ x ∈ l, RtI x := fun x hx => ho.of_get (p2 x hx)
    obtain ⟨i1, i2⟩ := ih (up_less ho hf h).1
    have hle : ∀ q, q < 7 → f.at q ≤ (upF f l).at q := fun q hq => upF_ge hr hq
    refine ⟨fun x hx => ?_, fun q hq => Int.le_trans (hle q hq) (i2 q hq)⟩
    rcases List.mem_append.1 hx with q | q
    · rw [(ordG_perm es f l).mem_iff] at q
      have hrx := hr x q
      have h7 : x.1.toNat < 7 := by obtain ⟨a, b, _⟩ := hrx; omega
      have h1 := upF_mem (f := f) hr q
      have h2 := i2 x.1.toNat h7
      have hnb : behind f x = false := by
        obtain ⟨q0, hq0, _, hb1, h2, h3, h4⟩ := h
        have hri := (h3 x).1 q
        cases hri with
        | refl => exact hb1
        | step _ hy =>
          obtain ⟨a, ha, hy2⟩ := leadsG_mem hy
          obtain ⟨q2, hq2, hlt, rfl⟩ := leads_mem hy2
          unfold behind
          simp only [Int.toNat_natCast]
          rw [show decide (a.dep q2 - 1 < f.at q2) = false from decide_eq_false (by omega), Bool.and_false]
      refine ⟨p2 x q, hnb, ?_⟩
      unfold behind
      rw [Bool.and_eq_true, Attr.rightI_iff, decide_eq_true_eq]
      obtain ⟨a, b, c, d⟩ := hrx
      exact ⟨⟨a, by omega, c, d⟩, by omega⟩
    · obtain ⟨j1, j2, j3⟩ := i1 x q
      refine ⟨j1, ?_, j3⟩
      cases hb : behind f x with
      | false => rfl
      | true =>
        unfold behind at hb j2
        rw [Bool.and_eq_true, Attr.rightI_iff, decide_eq_true_eq] at hb
        have h7 : x.1.toNat < 7 := by obtain ⟨⟨a, b, _⟩, _⟩ := hb; omega
        have := hle x.1.toNat h7
        rw [show Attr.rightI x.1 x.2 = true from Attr.rightI_iff.2 hb.1, show decide (x.2 < (upF f l).at x.1.toNat) = true from decide_eq_true (by omega)] at j2
        cases j2
theorem upF1_if (f : F7) (x : I2) (h : x.1.toNat < 7) : upF1 f x = if f.at x.1.toNat ≤ x.2 then f.set x.1.toNat (x.2 + 1) else f := by
  unfold upF1
  split
  · rename_i q
    rw [show max (f.at x.1.toNat) (x.2 + 1) = x.2 + 1 by omega]
  · rename_i q
    rw [show max (f.at x.1.toNat) (x.2 + 1) = f.at x.1.toNat by omega]
    obtain ⟨a0, a1, a2, a3, a4, a5, a6⟩ := f
    rcases (show x.1.toNat = 0 ∨ x.1.toNat = 1 ∨ x.1.toNat = 2 ∨ x.1.toNat = 3 ∨ x.1.toNat = 4 ∨ x.1.toNat = 5 ∨ x.1.toNat = 6 by omega) with e | e | e | e | e | e | e <;> rw [e] <;> rfl
end
end Go.Proofs.Ytgicohkmfbbbdaa.Gr
end
