/- RefZ, joined. -/
import Derived.Test.YtgicohkmfbbbdaaK31
section
namespace Go.Proofs.Ytgicohkmfbbbdaa.Ref
open _root_.Go.Proofs.Ytgicohkmfbbbdaa.Gr
open _root_.Go.Proofs.Ytgicohkmfbbbdaa.Mark (ltID)
open _root_.Go.Proofs.Ytgicohkmfbbbdaa.Attr (A8)
open Go.RowKit
set_option linter.unusedSimpArgs false
set_option linter.unusedVariables false
attribute [-go_sem] run_eql_struct run_neq_struct run_eqGuard_agg

theorem slot_cell (l : List IA) {i : Nat} {e : IA} (h : l[i]? = some e) : (flatD l)[i * 10]? = some (.int .i64 e.1.1) ∧ (flatD l)[i * 10 + 1]? = some (.int .i64 e.1.2) :=
  ⟨by have := flat_at cellsD 10 cellsD_len l i e h 0 (by omega); rw [Nat.add_zero] at this; exact this, flat_at cellsD 10 cellsD_len l i e h 1 (by omega)⟩
def DoRel (w : World) (b3 b5 : Nat) (xs : List IA) (f0 : F7) (xv : Value) (k : Nat) (u6 : Value) (wr : World) : Prop :=
  ∃ (f : F7) (out : List IA), FOk f ∧ mF f ≤ k ∧ out.length + 1000 * mF f ≤ 7168000 ∧ (∀ r g, RunR xs f r g → RunR xs f0 (out.map Prod.fst ++ r) g) ∧ At [rowD xv xs] w [rowD u6 out, Part.cells b3 [.int .i64 f.f0, .int .i64 f.f1, .int .i64 f.f2, .int .i64 f.f3, .int .i64 f.f4, .int .i64 f.f5, .int .i64 f.f6] 23, Part.cells b5 [.int .i64 0, .int .i64 0, .int .i64 0, .int .i64 0, .int .i64 0, .int .i64 0, .int .i64 0] 23, rowD xv xs] wr
def DqRel (w : World) (b3 b5 : Nat) (xs : List IA) (f : F7) (xv ov : Value) (out : List IA) (k : Nat) (u9 u8 u7 : Value) (wr : World) : Prop :=
  ∃ (q : Nat) (ok : Bool) (ls : List IA), u9 = .int .i64 q ∧ u8 = .bool ok ∧ q + k = 7 ∧ (∀ y ∈ ls, getA xs y.1 = some y.2) ∧ (ok = false → ∀ j, j < q → NeedsIs xs f (nextAt f j) none) ∧ (ok = true → FirstIs xs f (some (ls.map Prod.fst))) ∧
    At [rowD xv xs] w [rowD u7 ls, rowD ov out, Part.cells b3 [.int .i64 f.f0, .int .i64 f.f1, .int .i64 f.f2, .int .i64 f.f3, .int .i64 f.f4, .int .i64 f.f5, .int .i64 f.f6] 23, Part.cells b5 [.int .i64 0, .int .i64 0, .int .i64 0, .int .i64 0, .int .i64 0, .int .i64 0, .int .i64 0] 23, rowD xv xs] wr
def CutQ (w : World) (b3 b5 : Nat) (xs : List IA) (f : F7) (xv ov lv : Value) (out ls : List IA) (u16 : Value) (wc : World) : Prop :=
  u16 = .bool false ∧ At [rowD xv xs] w [rowD lv ls, rowD ov out, Part.cells b3 [.int .i64 f.f0, .int .i64 f.f1, .int .i64 f.f2, .int .i64 f.f3, .int .i64 f.f4, .int .i64 f.f5, .int .i64 f.f6] 23, Part.cells b5 [.int .i64 0, .int .i64 0, .int .i64 0, .int .i64 0, .int .i64 0, .int .i64 0, .int .i64 0] 23, rowD xv xs] wc
def DuRel (w : World) (b3 b5 : Nat) (xs : List IA) (f : F7) (xv ov lv : Value) (out ls : List IA) (k : Nat) (u : Value) (wr : World) : Prop :=
  ∃ j : Nat, u = .int .i64 j ∧ j + k = ls.length ∧ At [rowD xv xs] w [Part.cells b3 (upF f ((ls.map Prod.fst).take j)).cells 23, rowD ov out, rowD lv ls, Part.cells b5 [.int .i64 0, .int .i64 0, .int .i64 0, .int .i64 0, .int .i64 0, .int .i64 0, .int .i64 0] 23, rowD xv xs] wr
def RunDPost (xs : List IA) (f : F7) (xv : Value) (w : World) (e : Ending) (w' : World) : Prop :=
  ∃ (u : Value) (out : List IA) (g : F7), e = .returned (.tuple #[u, g.val]) ∧ RunR xs f (out.map Prod.fst) g ∧ At [rowD xv xs] w [rowD u out, rowD xv xs] w'
set_option maxRecDepth 100000 in
set_option maxHeartbeats 8000000 in
theorem runD_any {w : World} {xv : Value} {xs : List IA} (h : Sep [rowD xv xs] w) (f : F7) (hf : FOk f) (ho : Gr.Own xs) (hmax : xs.length ≤ 1000) :
    Calls Try.prog 13 #[xv, f.val] w (RunDPost xs f xv w) := by
  have hm : Try.prog.follows .mixedOrders = true := by kernel_rfl
  obtain ⟨i0, hi0, hz0, hz1, hz2⟩ := info_parts infoD
  have hA := At.start h
  have hf' := Lib.hid hf
  have ho' := Lib.hid ho
  clear h hf ho
  obtain ⟨axx, capx, hvx, _, hcpx, _⟩ := hA.row_form (e := 52) (size := 10) (n := xs.length) (v := xv) (xs := flatD xs) (by repeat (first | exact Sel.here | apply Sel.there))
  subst hvx
  simp only [F7.val]
  (try simp only [uA] at hA); have hF := hA.facts; (try simp only [fZ] at hF)
  go_enter Try.func13, Try.ntmps13
  go_wp2_with (first | ((with_reducible refine gbx ?_); refine wX 23 (.agg #[.int .i64 f.f0, .int .i64 f.f1, .int .i64 f.f2, .int .i64 f.f3, .int .i64 f.f4, .int .i64 f.f5, .int .i64 f.f6]) [.int .i64 f.f0, .int .i64 f.f1, .int .i64 f.f2, .int .i64 f.f3, .int .i64 f.f4, .int .i64 f.f5, .int .i64 f.f6] hA ?_; clear hF hA; intro b3 w1 hA hb3; (try simp only [uA] at hA); have hF := hA.facts; (try simp only [fZ] at hF)) | ((with_reducible refine gal ?_); refine wA 23 (.agg #[.int .i64 0, .int .i64 0, .int .i64 0, .int .i64 0, .int .i64 0, .int .i64 0, .int .i64 0]) [.int .i64 0, .int .i64 0, .int .i64 0, .int .i64 0, .int .i64 0, .int .i64 0, .int .i64 0] hA ?_; clear hF hA; intro b5 w1 hA hb5; (try simp only [uA] at hA); have hF := hA.facts; (try simp only [fZ] at hF)) | ((with_reducible refine gst ?_); refine wS hA ?_; clear hF hA; intro w1 hA; (try simp only [uA] at hA); have hF := hA.facts; (try simp only [fZ] at hF)) | ((with_reducible refine gbx ?_); refine wB hA ?_; clear hF hA; intro b1 w1 hA hb1; (try simp only [uA] at hA); have hF := hA.facts; (try simp only [fZ] at hF)))
  try go_frame
  have hB := row_nilD hA
  clear hF hA
  go_loopg [6] (mF f) (DoRel w b3 b5 xs f (.slice axx xs.length capx))
  case atStart => exact ⟨f, [], hf'.out, Nat.le_refl _, by have := mF_max hf'.out; simp only [List.length_nil]; omega, fun r g h => h, hB.pick (by repeat (first | exact Picks.nil | refine Picks.cons (by repeat (first | exact Sel.here | apply Sel.there)) ?_))⟩
  case round =>
    obtain ⟨f1, out, hf1, hmk, hol, hru, hA⟩ := hrel
    have hf1' := Lib.hid hf1
    have hmk' := Lib.hid hmk
    have hol' := Lib.hid hol
    have hru' := Lib.hid hru
    clear hB hf1 hmk hol hru
    obtain ⟨axo, capo, hvo, _, hcpo, _⟩ := hA.row_form .here
    subst hvo
    (try simp only [uA] at hA); have hF := hA.facts; (try simp only [fZ] at hF)
    go_wp2_with (first | ((with_reducible refine gst ?_); refine wS hA ?_; clear hF hA; intro w1 hA; (try simp only [uA] at hA); have hF := hA.facts; (try simp only [fZ] at hF)) | ((with_reducible refine gbx ?_); refine wB hA ?_; clear hF hA; intro b1 w1 hA hb1; (try simp only [uA] at hA); have hF := hA.facts; (try simp only [fZ] at hF)))
    try go_frame
    obtain ⟨K0, hK0⟩ : ∃ K, gk = K := ⟨_, rfl⟩
    have hK0' := Lib.hid hK0
    clear hK0
    have hB := row_nilD hA
    clear hF hA
    go_loopg [9, 8, 7] 7 (DqRel w b3 b5 xs f1 (.slice axx xs.length capx) (.slice axo out.length capo) out)
    case atStart => exact ⟨0, false, [], rfl, rfl, rfl, nofun, nofun, nofun, hB.pick (by repeat (first | exact Picks.nil | refine Picks.cons (by repeat (first | exact Sel.here | apply Sel.there)) ?_))⟩
    case round =>
      obtain ⟨q, ok, ls, rfl, rfl, hqk, hls, hno, hyes, hA⟩ := hrel
      have hls' := Lib.hid hls
      have hno' := Lib.hid hno
      have hyes' := Lib.hid hyes
      clear hB hls hno hyes
      (try simp only [uA] at hA); have hF := hA.facts; (try simp only [fZ] at hF)
      cases ok
      · have hno2 := Lib.hid (hno'.out (by first | rfl | trivial))
        by_cases hq : q < 7
        · have hqI : (q : Int) < 7 := by omega
          have hnd := fun (w1 : World) (h : Sep [rowD (.slice axx xs.length capx) xs] w1) => needsD_any h f1 ((q : Int), f1.at q) ho'.out.deps hmax
          have hcf := f1.cell (q := q) hq
          have hnx := Lib.hid (show nextAt f1 q = ((q : Int), f1.at q) from rfl)
          generalize f1.at q = fq at *
          simp only [F7.val, idV] at hnd
          go_wp2_with (first | ((with_reducible refine gst ?_); refine wS hA ?_; clear hF hA; intro w1 hA; (try simp only [uA] at hA); have hF := hA.facts; (try simp only [fZ] at hF)) | ((with_reducible refine gbx ?_); refine wB hA ?_; clear hF hA; intro b1 w1 hA hb1; (try simp only [uA] at hA); have hF := hA.facts; (try simp only [fZ] at hF)))
          try go_frame
          have hB := hA.drew
          clear hF hA; have hA := hB; clear hB
          refine wp_region_held (S := fun w' => BlockIs w' b3 [.int .i64 f1.f0, .int .i64 f1.f1, .int .i64 f1.f2, .int .i64 f1.f3, .int .i64 f1.f4, .int .i64 f1.f5, .int .i64 f1.f6] 23) hm ?_
          change wpAnyH _ _ _ _ _ 13 _ _ (World.drew _)
          generalize World.drew _ = wd at *
          have hS0 := (hA.get (A := Part.cells b3 [.int .i64 f1.f0, .int .i64 f1.f1, .int .i64 f1.f2, .int .i64 f1.f3, .int .i64 f1.f4, .int .i64 f1.f5, .int .i64 f1.f6] 23) (by repeat (first | exact Sel.here | apply Sel.there)) : (fun w' => BlockIs w' b3 [.int .i64 f1.f0, .int .i64 f1.f1, .int .i64 f1.f2, .int .i64 f1.f3, .int .i64 f1.f4, .int .i64 f1.f5, .int .i64 f1.f6] 23) wd)
          refine tP 0 20 (.slice axx xs.length capx) (s := hS0) (h := ?_)
          try go_frame
          refine tZ 1 21 (.agg #[.int .i64 f1.f0, .int .i64 f1.f1, .int .i64 f1.f2, .int .i64 f1.f3, .int .i64 f1.f4, .int .i64 f1.f5, .int .i64 f1.f6]) (r := (fun w' hS => run_load_row (ty := 23) (n := 7) (b := b3) (j := 0) rfl (by exact rfl) hS (by kernel_rfl) (by kernel_rfl) rfl rfl)) (s := hS0) (h := ?_)
          try go_frame
          refine tP 2 22 (.int .i64 (q : Int)) (s := hS0) (h := ?_)
          try go_frame
          refine tP 3 23 (.int .i64 (q : Int)) (s := hS0) (h := ?_)
          try go_frame
          refine tZ 4 24 (.pointer (some ⟨b3, q, none⟩)) (r := (fun w' hS => by simp [execOp, go_sem, Act.eval, Act.put, Try.underlying23]; omega)) (s := hS0) (h := ?_)
          try go_frame
          refine tZ 5 25 (.int .i64 fq) (r := (fun w' hS => run_load_one (ty := 3) (b := b3) (j := q) rfl (by exact rfl) hS (by kernel_rfl) hcf)) (s := hS0) (h := ?_)
          try go_frame
          refine tP 6 26 (.agg #[.int .i64 (q : Int), .int .i64 fq]) (s := hS0) (h := ?_)
          try go_frame
          refine wpAnyH_one (i := 7) (by kernel_rfl) ?_
          refine opCall_at (i := 7) (d := some 27) (R := fun u w' => NeedsDPost xs f1 ((q : Int), fq) (.slice axx xs.length capx) wd (.returned u) w') rfl rfl (by kernel_rfl) (fn := 18) (args := #[.slice axx xs.length capx, .agg #[.int .i64 f1.f0, .int .i64 f1.f1, .int .i64 f1.f2, .int .i64 f1.f3, .int .i64 f1.f4, .int .i64 f1.f5, .int .i64 f1.f6], .agg #[.int .i64 (q : Int), .int .i64 fq]]) (by simp [execOp, go_sem, Act.eval, Act.put]) ((hnd wd (hA.sep1 (A := rowD (.slice axx xs.length capx) xs) (by repeat (first | exact Sel.here | apply Sel.there)))).mono fun e w' h => (by obtain ⟨nv, rd, ls2, he, h1, h2, h3, h4⟩ := h; exact ⟨_, he, nv, rd, ls2, rfl, h1, h2, h3, h4⟩)) ?_
          intro vq w3 hT
          obtain ⟨nv, rd, ls2, hvv, hq1, hq2, hq3, hT⟩ := hT
          cases hvv
          have hB := hA.call1 (A := rowD (.slice axx xs.length capx) xs) (by repeat (first | exact Sel.here | apply Sel.there)) hT
          clear hT
          simp only [List.cons_append, List.nil_append] at hB
          have hq1' := Lib.hid hq1
          have hq2' := Lib.hid hq2
          have hq3' := Lib.hid hq3
          clear hq1 hq2 hq3
          have hS0 := (hB.get (A := Part.cells b3 [.int .i64 f1.f0, .int .i64 f1.f1, .int .i64 f1.f2, .int .i64 f1.f3, .int .i64 f1.f4, .int .i64 f1.f5, .int .i64 f1.f6] 23) (by repeat (first | exact Sel.here | apply Sel.there)) : (fun w' => BlockIs w' b3 [.int .i64 f1.f0, .int .i64 f1.f1, .int .i64 f1.f2, .int .i64 f1.f3, .int .i64 f1.f4, .int .i64 f1.f5, .int .i64 f1.f6] 23) w3)
          clear hA; have hA := hB; clear hB
          refine ⟨hS0, ?_⟩
          try go_frame
          refine tP 8 19 (.tuple #[nv, .bool rd]) (s := hS0) (h := ?_)
          try go_frame
          refine tP 9 28 (nv) (s := hS0) (h := ?_)
          try go_frame
          refine tP 10 29 (.bool rd) (s := hS0) (h := ?_)
          try go_frame
          refine tP 11 7 (nv) (s := hS0) (h := ?_)
          try go_frame
          refine tP 12 8 (.bool rd) (s := hS0) (h := ?_)
          try go_frame
          refine wpAnyH_done (by kernel_rfl) ?_ _
          try go_frame
          clear hS0
          (try simp only [uA] at hA); have hF := hA.facts; (try simp only [fZ] at hF)
          go_wp2_with (first | ((with_reducible refine gst ?_); refine wS hA ?_; clear hF hA; intro w1 hA; (try simp only [uA] at hA); have hF := hA.facts; (try simp only [fZ] at hF)) | ((with_reducible refine gbx ?_); refine wB hA ?_; clear hF hA; intro b1 w1 hA hb1; (try simp only [uA] at hA); have hF := hA.facts; (try simp only [fZ] at hF)))
          go_roundg (gk - 1)
          case measure => omega
          case rel =>
            refine ⟨q + 1, rd, ls2, by simp, rfl, by omega, hq1'.out, fun e j hj => ?_, fun e => ⟨q, hq, hno2.out, by rw [hnx.out]; exact hq2'.out e⟩, hA.pick (by repeat (first | exact Picks.nil | refine Picks.cons (by repeat (first | exact Sel.here | apply Sel.there)) ?_))⟩
            rcases Nat.lt_succ_iff_lt_or_eq.1 hj with hj | rfl
            · exact hno2.out j hj
            · rw [hnx.out]; exact (hq3'.out e).1
        · have hqI : ¬ (q : Int) < 7 := by omega
          have hq7 : q = 7 := by omega
          subst hq7
          have hstop := Lib.hid (show FirstIs xs f1 none from fun k hk => hno2.out k hk)
          go_wp2_with (first | ((with_reducible refine gst ?_); refine wS hA ?_; clear hF hA; intro w1 hA; (try simp only [uA] at hA); have hF := hA.facts; (try simp only [fZ] at hF)) | ((with_reducible refine gbx ?_); refine wB hA ?_; clear hF hA; intro b1 w1 hA hb1; (try simp only [uA] at hA); have hF := hA.facts; (try simp only [fZ] at hF)))
          try go_frame
          have hB := hA.drew
          clear hF hA; have hA := hB; clear hB
          refine wp_region_held (S := fun w' => BlockIs w' b3 [.int .i64 f1.f0, .int .i64 f1.f1, .int .i64 f1.f2, .int .i64 f1.f3, .int .i64 f1.f4, .int .i64 f1.f5, .int .i64 f1.f6] 23) hm ?_
          change wpAnyH _ _ _ _ _ 4 _ _ (World.drew _)
          generalize World.drew _ = wd at *
          have hS0 := (hA.get (A := Part.cells b3 [.int .i64 f1.f0, .int .i64 f1.f1, .int .i64 f1.f2, .int .i64 f1.f3, .int .i64 f1.f4, .int .i64 f1.f5, .int .i64 f1.f6] 23) (by repeat (first | exact Sel.here | apply Sel.there)) : (fun w' => BlockIs w' b3 [.int .i64 f1.f0, .int .i64 f1.f1, .int .i64 f1.f2, .int .i64 f1.f3, .int .i64 f1.f4, .int .i64 f1.f5, .int .i64 f1.f6] 23) wd)
          refine tP 0 32 (.slice axo out.length capo) (s := hS0) (h := ?_)
          try go_frame
          refine tZ 1 33 (.agg #[.int .i64 f1.f0, .int .i64 f1.f1, .int .i64 f1.f2, .int .i64 f1.f3, .int .i64 f1.f4, .int .i64 f1.f5, .int .i64 f1.f6]) (r := (fun w' hS => run_load_row (ty := 23) (n := 7) (b := b3) (j := 0) rfl (by exact rfl) hS (by kernel_rfl) (by kernel_rfl) rfl rfl)) (s := hS0) (h := ?_)
          try go_frame
          refine tP 2 4 (.slice axo out.length capo) (s := hS0) (h := ?_)
          try go_frame
          refine wpAnyH_one (i := 3) (by kernel_rfl) ?_
          refine opStore_at (i := 3) (b := b5) (j := 0) (vs := [.int .i64 f1.f0, .int .i64 f1.f1, .int .i64 f1.f2, .int .i64 f1.f3, .int .i64 f1.f4, .int .i64 f1.f5, .int .i64 f1.f6]) rfl rfl (by kernel_rfl) rfl (by exact rfl) (by exact rfl) rfl hA (by repeat (first | exact Sel.here | apply Sel.there)) (by kernel_rfl) rfl (by show 0 + 7 ≤ 7; omega) ?_
          intro w3 hB
          simp only [uA] at hB
          have hS0 := (hB.get (A := Part.cells b3 [.int .i64 f1.f0, .int .i64 f1.f1, .int .i64 f1.f2, .int .i64 f1.f3, .int .i64 f1.f4, .int .i64 f1.f5, .int .i64 f1.f6] 23) (by repeat (first | exact Sel.here | apply Sel.there)) : (fun w' => BlockIs w' b3 [.int .i64 f1.f0, .int .i64 f1.f1, .int .i64 f1.f2, .int .i64 f1.f3, .int .i64 f1.f4, .int .i64 f1.f5, .int .i64 f1.f6] 23) w3)
          clear hA; have hA := hB; clear hB
          refine ⟨hS0, ?_⟩
          try go_frame
          refine wpAnyH_done (by kernel_rfl) ?_ _
          try go_frame
          clear hS0
          (try simp only [uA] at hA); have hF := hA.facts; (try simp only [fZ] at hF)
          go_wp2_with (first | ((with_reducible refine gst ?_); refine wS hA ?_; clear hF hA; intro w1 hA; (try simp only [uA] at hA); have hF := hA.facts; (try simp only [fZ] at hF)) | ((with_reducible refine gbx ?_); refine wB hA ?_; clear hF hA; intro b1 w1 hA hb1; (try simp only [uA] at hA); have hF := hA.facts; (try simp only [fZ] at hF)))
          refine bodyPost_ret (v := .tuple #[.slice axo out.length capo, f1.val]) (by simp [results, Try.results13, go_sem, F7.val, hF]) rfl ?_
          exact ⟨.slice axo out.length capo, out, f1, rfl, by have := hru'.out [] f1 (.stop hstop.out); rwa [List.append_nil] at this, hA.pick (by repeat (first | exact Picks.nil | refine Picks.cons (by repeat (first | exact Sel.here | apply Sel.there)) ?_))⟩
      · have hfi := hyes'.out rfl
        have hmem := Lib.hid (first_in hfi)
        have hll := in_len hmem.out.1 hmem.out.2.1
        rw [List.length_map] at hll
        have hup := Lib.hid (up_less ho'.out hf1'.out hfi)
        have hlu : Uq ls := hmem.out.1.imp fun q e => by rw [e] at q; exact lt_irr q
        have hgl : ∀ x a, getA ls x = some a → getA xs x = some a := fun x a h => hls'.out (x, a) (getA_mem h)
        have hld : Deps ls := fun x a h => ho'.out.deps x a (hgl x a h)
        have hrt := Lib.hid (show ∀ x ∈ ls.map Prod.fst, RtI x from fun x hx => ho'.out.of_get (hmem.out.2.1 x hx))
        have hfi' := Lib.hid hfi
        have hon := Lib.hid (ordD_names hlu hls'.out f1)
        clear hfi
        obtain ⟨axl, capl, hvl, _, hcpl, _⟩ := hA.row_form (e := 52) (size := 10) (n := ls.length) (v := u7) (xs := flatD ls) .here
        subst hvl
        (try simp only [uA] at hA); have hF := hA.facts; (try simp only [fZ] at hF)
        by_cases hq : q < 7
        · have hqI : (q : Int) < 7 := by omega
          go_wp2_with (first | ((with_reducible refine gst ?_); refine wS hA ?_; clear hF hA; intro w1 hA; (try simp only [uA] at hA); have hF := hA.facts; (try simp only [fZ] at hF)) | ((with_reducible refine gbx ?_); refine wB hA ?_; clear hF hA; intro b1 w1 hA hb1; (try simp only [uA] at hA); have hF := hA.facts; (try simp only [fZ] at hF)))
          refine (orderD_any (hA.sep1 (A := rowD (.slice axl ls.length capl) ls) (by repeat (first | exact Sel.here | apply Sel.there))) f1 hlu hld (by omega)).mono ?_
          rintro e w2 ⟨vq, rfl, hT⟩
          have hB := hA.call1 (A := rowD (.slice axl ls.length capl) ls) (by repeat (first | exact Sel.here | apply Sel.there)) hT
          clear hT
          clear hF hA; have hA := hB; clear hB
          try simp only [List.cons_append, List.nil_append] at hA
          (try simp only [uA] at hA); have hF := hA.facts; (try simp only [fZ] at hF)
          have hQl := Lib.hid (show ((Tar.ordR (nxL ls f1 (ls.map Prod.fst)) ls.length (sqX ls)).map (xat ls)).length ≤ 1000 from by
            have h1 := congrArg List.length hon.out
            rw [List.length_map] at h1
            rw [h1, (ordG_perm xs f1 (ls.map Prod.fst)).length_eq, List.length_map]
            omega)
          have hQl2 := Lib.hid (show ((Tar.ordR (nxL ls f1 (ls.map Prod.fst)) ls.length (sqX ls)).map (xat ls)).length = ls.length from by
            have h1 := congrArg List.length hon.out
            rw [List.length_map] at h1
            rw [h1, (ordG_perm xs f1 (ls.map Prod.fst)).length_eq, List.length_map])
          generalize (Tar.ordR (nxL ls f1 (ls.map Prod.fst)) ls.length (sqX ls)).map (xat ls) = QQ at *
          obtain ⟨axq, capq, hvq, _, _, _⟩ := hA.row_form (e := 52) (size := 10) (n := QQ.length) (v := vq) (xs := flatD QQ) (by repeat (first | exact Sel.here | apply Sel.there))
          subst hvq
          (try simp only [uA] at hA); have hF := hA.facts; (try simp only [fZ] at hF)
          go_wp2_with (first | ((with_reducible show wpList _ _ _ ({ dst := _, op := Op.call { callee := Callee.builtin Builtin.append, args := _, argTypes := _ }, type := _, pos := _, after := _, guard := _ } :: _) _ _); refine wpList_append_at (e := 52) (size := 10) (v := .slice axo out.length capo) (xs := flatD out) (n := out.length) (m := QQ.length) (news := flatD QQ) rfl _ _ 28 rfl Try.underlying28 hi0 hz0 hz1 hz2 rfl (by omega) hA (by repeat (first | exact Sel.here | apply Sel.there)) (by (try simp only [Act.eval, eV]) <;> exact rfl) (by (try simp only [Act.eval, eV]) <;> exact rfl) (flatD_len _) (hA.row_reads (v := .slice axq QQ.length capq) (n := QQ.length) (xs := flatD QQ) (by repeat (first | exact Sel.here | apply Sel.there))) (flat_one cellsD_one _) (by have := hQl.out; have := hol'.out; unfold maxLen; omega) (by have := hQl.out; have := hol'.out; omega) ?_; intro vo w1 hB; rw [rowD_app] at hB; clear hF hA; have hA := hB; clear hB; (try simp only [uA] at hA); have hF := hA.facts; (try simp only [fZ] at hF)) | ((with_reducible refine gst ?_); refine wS hA ?_; clear hF hA; intro w1 hA; (try simp only [uA] at hA); have hF := hA.facts; (try simp only [fZ] at hF)) | ((with_reducible refine gbx ?_); refine wB hA ?_; clear hF hA; intro b1 w1 hA hb1; (try simp only [uA] at hA); have hF := hA.facts; (try simp only [fZ] at hF)))
          try go_frame
          obtain ⟨G, hG⟩ : ∃ G, mF (upF f1 (ls.map Prod.fst)) = G := ⟨_, rfl⟩
          have hGk := Lib.hid (show G < K0 from by have := hup.out.2; have := hmk'.out; have := hK0'.out; omega)
          have hG' := Lib.hid hG
          clear hG
          have hA0 : At [rowD (.slice axx xs.length capx) xs] w [Part.cells b3 (upF f1 ((ls.map Prod.fst).take 0)).cells 23, rowD vo (out ++ QQ), rowD (.slice axl ls.length capl) ls, Part.cells b5 [.int .i64 0, .int .i64 0, .int .i64 0, .int .i64 0, .int .i64 0, .int .i64 0, .int .i64 0] 23, rowD (.slice axx xs.length capx) xs] _ := hA.pick (by repeat (first | exact Picks.nil | refine Picks.cons (by repeat (first | exact Sel.here | apply Sel.there)) ?_))
          clear hF hA
          go_loopg [10] ls.length (DuRel w b3 b5 xs f1 (.slice axx xs.length capx) vo (.slice axl ls.length capl) (out ++ QQ) ls)
          case atStart => exact ⟨0, rfl, by omega, hA0⟩
          case round =>
            obtain ⟨j, rfl, hjk, hB⟩ := hrel
            clear hA0; have hA := hB; clear hB
            by_cases hj : j < ls.length
            · skip
              obtain ⟨y, hy⟩ : ∃ y, ls[j]? = some y := ⟨_, List.getElem?_eq_getElem hj⟩
              have hyr := hrt.out y.1 (List.mem_map.2 ⟨y, List.mem_of_getElem? hy, rfl⟩)
              have htk := Lib.hid (show upF f1 ((ls.map Prod.fst).take (j + 1)) = upF1 (upF f1 ((ls.map Prod.fst).take j)) y.1 from by unfold upF; rw [List.take_add_one, List.getElem?_map, hy, List.foldl_append]; rfl)
              generalize upF f1 ((ls.map Prod.fst).take j) = f2 at *
              obtain ⟨hs0, hs1⟩ := slot_cell ls hy
              clear hy
              obtain ⟨⟨r, t⟩, a⟩ := y
              obtain ⟨q, rfl⟩ : ∃ q : Nat, r = q := ⟨r.toNat, by have := hyr.1; simp only at this; omega⟩
              have hq7 : q < 7 := by have := hyr.2.1; simp only at this; omega
              have hui := Lib.hid (upF1_if f2 ((q : Int), t) hq7)
              have ht1 : t < 1024 := hyr.2.2.2
              have ht0 : 0 ≤ t := hyr.2.2.1
              have hwt : IntKind.i64.wrap (t + 1) = t + 1 := by rw [IntKind.wrap_i64] <;> omega
              simp only [Int.toNat_natCast] at htk hui hs0 hs1
              have hcf := f2.cell (q := q) hq7
              have hst := Lib.hid (F7.cells_set f2 hq7 (t + 1))
              have hq8 : (q : Int) < 7 := by omega
              have hjI : (j : Int) < ls.length := by omega
              obtain ⟨gl, cl, hgl2, _, _, _, _, _⟩ := hA.row_open (e := 52) (size := 10) (ax := axl) (cap := capl) (n := ls.length) (xs := flatD ls) (by repeat (first | exact Sel.here | apply Sel.there)) (by omega)
              subst hgl2
              obtain ⟨c, hc⟩ : ∃ c, decide (f2.at q ≤ t) = c := ⟨_, rfl⟩
              have hc' := Lib.hid hc
              generalize f2.at q = fq at *
              obtain ⟨fc, hfc⟩ : ∃ z, f2.cells = z := ⟨_, rfl⟩
              rw [hfc] at hA hcf hst
              have hfl : fc.length = 7 := by rw [← hfc]; rfl
              have hfc' := Lib.hid hfc
              clear hfc
              (try simp only [uA] at hA); have hF := hA.facts; (try simp only [fZ] at hF)
              cases c
              · go_wp2_with (first | ((with_reducible refine gst ?_); refine wS hA ?_; clear hF hA; intro w1 hA; (try simp only [uA] at hA); have hF := hA.facts; (try simp only [fZ] at hF)) | ((with_reducible refine gbx ?_); refine wB hA ?_; clear hF hA; intro b1 w1 hA hb1; (try simp only [uA] at hA); have hF := hA.facts; (try simp only [fZ] at hF)))
                try go_frame
                (refine wp_region_all (Cl _ _ _) (by kernel_rfl) (by kernel_rfl) (Cl.drew hA) ?_); (have hn1 := Cl.none hA); (have hn2 := Cl.none2 hA); (repeat (first | go_big_quiet_skip | (go_big_quiet_want; (first | ((((with_reducible show Oper.quiet _ { dst := _, op := Op.load 3 _, type := _, pos := _, after := _, guard := _ } _ _ _); first | refine quiet_rowN_at (g := gl) (j := j * 10) rfl rfl (by with_reducible repeat (first | exact Sel.here | apply Sel.there)) (by kernel_rfl) hs0 ?_ | refine quiet_rowN_at (g := gl) (j := j * 10 + 1) rfl rfl (by with_reducible repeat (first | exact Sel.here | apply Sel.there)) (by kernel_rfl) hs1 ?_)); go_frame; go_big_quiet_on) | (refine quiet_load_at rfl rfl (by with_reducible repeat (first | exact Sel.here | apply Sel.there)) (by kernel_rfl) (by first | assumption | exact rfl) ?_; go_frame; go_big_quiet_on) | (go_big_quiet_op; (first | go_big_quiet_on | ((apply Exists.intro); (refine ⟨fun w1 hw => ?_, ?_⟩); (focus ((have hw := Cl.out hw); (fail))); (go_big_quiet_on))))))))
                (refine wpQuiet_nil ?_); (intro w1 hB); (clear hF hA hn1 hn2); (have hA := Cl.out hB); (clear hB); (try simp only [uA] at hA); have hF := hA.facts; (try simp only [fZ] at hF)
                go_wp2_with (first | ((with_reducible refine gst ?_); refine wS hA ?_; clear hF hA; intro w1 hA; (try simp only [uA] at hA); have hF := hA.facts; (try simp only [fZ] at hF)) | ((with_reducible refine gbx ?_); refine wB hA ?_; clear hF hA; intro b1 w1 hA hb1; (try simp only [uA] at hA); have hF := hA.facts; (try simp only [fZ] at hF)))
                go_roundg (gk - 1)
                case measure => omega
                case rel =>
                  refine ⟨j + 1, by simp, by omega, ?_⟩
                  rw [htk.out, hui.out, if_neg (of_decide_eq_false hc'.out), hfc'.out]
                  exact hA.pick (by repeat (first | exact Picks.nil | refine Picks.cons (by repeat (first | exact Sel.here | apply Sel.there)) ?_))
              · go_wp2_with (first | ((with_reducible refine gst ?_); refine wS hA ?_; clear hF hA; intro w1 hA; (try simp only [uA] at hA); have hF := hA.facts; (try simp only [fZ] at hF)) | ((with_reducible refine gbx ?_); refine wB hA ?_; clear hF hA; intro b1 w1 hA hb1; (try simp only [uA] at hA); have hF := hA.facts; (try simp only [fZ] at hF)))
                try go_frame
                (refine wp_region_all (Cl _ _ _) (by kernel_rfl) (by kernel_rfl) (Cl.drew hA) ?_); (have hn1 := Cl.none hA); (have hn2 := Cl.none2 hA); (repeat (first | go_big_quiet_skip | (go_big_quiet_want; (first | ((((with_reducible show Oper.quiet _ { dst := _, op := Op.load 3 _, type := _, pos := _, after := _, guard := _ } _ _ _); first | refine quiet_rowN_at (g := gl) (j := j * 10) rfl rfl (by with_reducible repeat (first | exact Sel.here | apply Sel.there)) (by kernel_rfl) hs0 ?_ | refine quiet_rowN_at (g := gl) (j := j * 10 + 1) rfl rfl (by with_reducible repeat (first | exact Sel.here | apply Sel.there)) (by kernel_rfl) hs1 ?_)); go_frame; go_big_quiet_on) | (refine quiet_load_at rfl rfl (by with_reducible repeat (first | exact Sel.here | apply Sel.there)) (by kernel_rfl) (by first | assumption | exact rfl) ?_; go_frame; go_big_quiet_on) | (go_big_quiet_op; (first | go_big_quiet_on | ((apply Exists.intro); (refine ⟨fun w1 hw => ?_, ?_⟩); (focus ((have hw := Cl.out hw); (fail))); (go_big_quiet_on))))))))
                (refine wpQuiet_nil ?_); (intro w1 hB); (clear hF hA hn1 hn2); (have hA := Cl.out hB); (clear hB); (try simp only [uA] at hA); have hF := hA.facts; (try simp only [fZ] at hF)
                go_wp2_with (first | ((with_reducible refine gst ?_); refine wS hA ?_; clear hF hA; intro w1 hA; (try simp only [uA] at hA); have hF := hA.facts; (try simp only [fZ] at hF)) | ((with_reducible refine gbx ?_); refine wB hA ?_; clear hF hA; intro b1 w1 hA hb1; (try simp only [uA] at hA); have hF := hA.facts; (try simp only [fZ] at hF)))
                try go_frame
                (refine wp_region_head 13 (Cl _ _ _) (by kernel_rfl) (by kernel_rfl) (Cl.drew hA) ?_); (simp only [List.take_succ_cons, List.take_zero, List.drop_succ_cons, List.drop_zero]); (have hn1 := Cl.none hA); (have hn2 := Cl.none2 hA); (repeat (first | go_big_quiet_skip | (go_big_quiet_want; (first | ((((with_reducible show Oper.quiet _ { dst := _, op := Op.load 3 _, type := _, pos := _, after := _, guard := _ } _ _ _); first | refine quiet_rowN_at (g := gl) (j := j * 10) rfl rfl (by with_reducible repeat (first | exact Sel.here | apply Sel.there)) (by kernel_rfl) hs0 ?_ | refine quiet_rowN_at (g := gl) (j := j * 10 + 1) rfl rfl (by with_reducible repeat (first | exact Sel.here | apply Sel.there)) (by kernel_rfl) hs1 ?_)); go_frame; go_big_quiet_on) | (refine quiet_load_at rfl rfl (by with_reducible repeat (first | exact Sel.here | apply Sel.there)) (by kernel_rfl) (by first | assumption | exact rfl) ?_; go_frame; go_big_quiet_on) | (go_big_quiet_op; (first | go_big_quiet_on | ((apply Exists.intro); (refine ⟨fun w1 hw => ?_, ?_⟩); (focus ((have hw := Cl.out hw); (fail))); (go_big_quiet_on))))))))
                (refine wpQuiet_nil ?_); (intro w1 hB); (clear hF hA hn1 hn2); (have hA := Cl.out hB); (clear hB); (try simp only [uA] at hA); have hF := hA.facts; (try simp only [fZ] at hF)
                go_wp2_with (first | ((with_reducible show wpList _ _ _ ({ dst := none, op := Op.store _ _ _, type := _, pos := _, after := _, guard := _ } :: _) _ _); refine wpList_store_at (b := b3) (j := q) (c := fc) (vs := [.int .i64 (t + 1)]) rfl rfl (by (try simp only [Act.eval, eV]) <;> exact rfl) (by (try simp only [Act.eval, eV]) <;> exact rfl) (by exact rfl) hA (by repeat (first | exact Sel.here | apply Sel.there)) (by kernel_rfl) rfl (by show q + 1 ≤ fc.length; omega) ?_; intro w1 hB; rw [hst.out] at hB; clear hF hA; have hA := hB; clear hB; (try simp only [uA] at hA); have hF := hA.facts; (try simp only [fZ] at hF)) | ((with_reducible refine gst ?_); refine wS hA ?_; clear hF hA; intro w1 hA; (try simp only [uA] at hA); have hF := hA.facts; (try simp only [fZ] at hF)) | ((with_reducible refine gbx ?_); refine wB hA ?_; clear hF hA; intro b1 w1 hA hb1; (try simp only [uA] at hA); have hF := hA.facts; (try simp only [fZ] at hF)))
                go_roundg (gk - 1)
                case measure => omega
                case rel =>
                  refine ⟨j + 1, by simp, by omega, ?_⟩
                  rw [htk.out, hui.out, if_pos (of_decide_eq_true hc'.out)]
                  exact hA.pick (by repeat (first | exact Picks.nil | refine Picks.cons (by repeat (first | exact Sel.here | apply Sel.there)) ?_))
            · have hjI : ¬ (j : Int) < ls.length := by omega
              (try simp only [uA] at hA); have hF := hA.facts; (try simp only [fZ] at hF)
              go_wp2_with (first | ((with_reducible refine gst ?_); refine wS hA ?_; clear hF hA; intro w1 hA; (try simp only [uA] at hA); have hF := hA.facts; (try simp only [fZ] at hF)) | ((with_reducible refine gbx ?_); refine wB hA ?_; clear hF hA; intro b1 w1 hA hb1; (try simp only [uA] at hA); have hF := hA.facts; (try simp only [fZ] at hF)))
              go_roundg G
              case measure => have := hGk.out; have := hK0'.out; omega
              case rel =>
                rw [List.take_of_length_le (by rw [List.length_map]; omega)] at hA
                refine ⟨upF f1 (ls.map Prod.fst), out ++ QQ, hup.out.1, Nat.le_of_eq hG'.out, ?_, fun r g h => ?_, hA.pick (by repeat (first | exact Picks.nil | refine Picks.cons (by repeat (first | exact Sel.here | apply Sel.there)) ?_))⟩
                · have h1 := hup.out.2
                  have h2 := hol'.out
                  have h3 := hQl.out
                  rw [List.length_append]
                  omega
                · rw [List.map_append, List.append_assoc, hon.out]
                  exact hru'.out _ _ (.go hfi'.out h)
        · have hqI : ¬ (q : Int) < 7 := by omega
          go_wp2_with (first | ((with_reducible refine gst ?_); refine wS hA ?_; clear hF hA; intro w1 hA; (try simp only [uA] at hA); have hF := hA.facts; (try simp only [fZ] at hF)) | ((with_reducible refine gbx ?_); refine wB hA ?_; clear hF hA; intro b1 w1 hA hb1; (try simp only [uA] at hA); have hF := hA.facts; (try simp only [fZ] at hF)))
          refine (orderD_any (hA.sep1 (A := rowD (.slice axl ls.length capl) ls) (by repeat (first | exact Sel.here | apply Sel.there))) f1 hlu hld (by omega)).mono ?_
          rintro e w2 ⟨vq, rfl, hT⟩
          have hB := hA.call1 (A := rowD (.slice axl ls.length capl) ls) (by repeat (first | exact Sel.here | apply Sel.there)) hT
          clear hT
          clear hF hA; have hA := hB; clear hB
          try simp only [List.cons_append, List.nil_append] at hA
          (try simp only [uA] at hA); have hF := hA.facts; (try simp only [fZ] at hF)
          have hQl := Lib.hid (show ((Tar.ordR (nxL ls f1 (ls.map Prod.fst)) ls.length (sqX ls)).map (xat ls)).length ≤ 1000 from by
            have h1 := congrArg List.length hon.out
            rw [List.length_map] at h1
            rw [h1, (ordG_perm xs f1 (ls.map Prod.fst)).length_eq, List.length_map]
            omega)
          have hQl2 := Lib.hid (show ((Tar.ordR (nxL ls f1 (ls.map Prod.fst)) ls.length (sqX ls)).map (xat ls)).length = ls.length from by
            have h1 := congrArg List.length hon.out
            rw [List.length_map] at h1
            rw [h1, (ordG_perm xs f1 (ls.map Prod.fst)).length_eq, List.length_map])
          generalize (Tar.ordR (nxL ls f1 (ls.map Prod.fst)) ls.length (sqX ls)).map (xat ls) = QQ at *
          obtain ⟨axq, capq, hvq, _, _, _⟩ := hA.row_form (e := 52) (size := 10) (n := QQ.length) (v := vq) (xs := flatD QQ) (by repeat (first | exact Sel.here | apply Sel.there))
          subst hvq
          (try simp only [uA] at hA); have hF := hA.facts; (try simp only [fZ] at hF)
          go_wp2_with (first | ((with_reducible show wpList _ _ _ ({ dst := _, op := Op.call { callee := Callee.builtin Builtin.append, args := _, argTypes := _ }, type := _, pos := _, after := _, guard := _ } :: _) _ _); refine wpList_append_at (e := 52) (size := 10) (v := .slice axo out.length capo) (xs := flatD out) (n := out.length) (m := QQ.length) (news := flatD QQ) rfl _ _ 28 rfl Try.underlying28 hi0 hz0 hz1 hz2 rfl (by omega) hA (by repeat (first | exact Sel.here | apply Sel.there)) (by (try simp only [Act.eval, eV]) <;> exact rfl) (by (try simp only [Act.eval, eV]) <;> exact rfl) (flatD_len _) (hA.row_reads (v := .slice axq QQ.length capq) (n := QQ.length) (xs := flatD QQ) (by repeat (first | exact Sel.here | apply Sel.there))) (flat_one cellsD_one _) (by have := hQl.out; have := hol'.out; unfold maxLen; omega) (by have := hQl.out; have := hol'.out; omega) ?_; intro vo w1 hB; rw [rowD_app] at hB; clear hF hA; have hA := hB; clear hB; (try simp only [uA] at hA); have hF := hA.facts; (try simp only [fZ] at hF)) | ((with_reducible refine gst ?_); refine wS hA ?_; clear hF hA; intro w1 hA; (try simp only [uA] at hA); have hF := hA.facts; (try simp only [fZ] at hF)) | ((with_reducible refine gbx ?_); refine wB hA ?_; clear hF hA; intro b1 w1 hA hb1; (try simp only [uA] at hA); have hF := hA.facts; (try simp only [fZ] at hF)))
          try go_frame
          obtain ⟨G, hG⟩ : ∃ G, mF (upF f1 (ls.map Prod.fst)) = G := ⟨_, rfl⟩
          have hGk := Lib.hid (show G < K0 from by have := hup.out.2; have := hmk'.out; have := hK0'.out; omega)
          have hG' := Lib.hid hG
          clear hG
          have hA0 : At [rowD (.slice axx xs.length capx) xs] w [Part.cells b3 (upF f1 ((ls.map Prod.fst).take 0)).cells 23, rowD vo (out ++ QQ), rowD (.slice axl ls.length capl) ls, Part.cells b5 [.int .i64 0, .int .i64 0, .int .i64 0, .int .i64 0, .int .i64 0, .int .i64 0, .int .i64 0] 23, rowD (.slice axx xs.length capx) xs] _ := hA.pick (by repeat (first | exact Picks.nil | refine Picks.cons (by repeat (first | exact Sel.here | apply Sel.there)) ?_))
          clear hF hA
          go_loopg [10] ls.length (DuRel w b3 b5 xs f1 (.slice axx xs.length capx) vo (.slice axl ls.length capl) (out ++ QQ) ls)
          case atStart => exact ⟨0, rfl, by omega, hA0⟩
          case round =>
            obtain ⟨j, rfl, hjk, hB⟩ := hrel
            clear hA0; have hA := hB; clear hB
            by_cases hj : j < ls.length
            · skip
              obtain ⟨y, hy⟩ : ∃ y, ls[j]? = some y := ⟨_, List.getElem?_eq_getElem hj⟩
              have hyr := hrt.out y.1 (List.mem_map.2 ⟨y, List.mem_of_getElem? hy, rfl⟩)
              have htk := Lib.hid (show upF f1 ((ls.map Prod.fst).take (j + 1)) = upF1 (upF f1 ((ls.map Prod.fst).take j)) y.1 from by unfold upF; rw [List.take_add_one, List.getElem?_map, hy, List.foldl_append]; rfl)
              generalize upF f1 ((ls.map Prod.fst).take j) = f2 at *
              obtain ⟨hs0, hs1⟩ := slot_cell ls hy
              clear hy
              obtain ⟨⟨r, t⟩, a⟩ := y
              obtain ⟨q, rfl⟩ : ∃ q : Nat, r = q := ⟨r.toNat, by have := hyr.1; simp only at this; omega⟩
              have hq7 : q < 7 := by have := hyr.2.1; simp only at this; omega
              have hui := Lib.hid (upF1_if f2 ((q : Int), t) hq7)
              have ht1 : t < 1024 := hyr.2.2.2
              have ht0 : 0 ≤ t := hyr.2.2.1
              have hwt : IntKind.i64.wrap (t + 1) = t + 1 := by rw [IntKind.wrap_i64] <;> omega
              simp only [Int.toNat_natCast] at htk hui hs0 hs1
              have hcf := f2.cell (q := q) hq7
              have hst := Lib.hid (F7.cells_set f2 hq7 (t + 1))
              have hq8 : (q : Int) < 7 := by omega
              have hjI : (j : Int) < ls.length := by omega
              obtain ⟨gl, cl, hgl2, _, _, _, _, _⟩ := hA.row_open (e := 52) (size := 10) (ax := axl) (cap := capl) (n := ls.length) (xs := flatD ls) (by repeat (first | exact Sel.here | apply Sel.there)) (by omega)
              subst hgl2
              obtain ⟨c, hc⟩ : ∃ c, decide (f2.at q ≤ t) = c := ⟨_, rfl⟩
              have hc' := Lib.hid hc
              generalize f2.at q = fq at *
              obtain ⟨fc, hfc⟩ : ∃ z, f2.cells = z := ⟨_, rfl⟩
              rw [hfc] at hA hcf hst
              have hfl : fc.length = 7 := by rw [← hfc]; rfl
              have hfc' := Lib.hid hfc
              clear hfc
              (try simp only [uA] at hA); have hF := hA.facts; (try simp only [fZ] at hF)
              cases c
              · go_wp2_with (first | ((with_reducible refine gst ?_); refine wS hA ?_; clear hF hA; intro w1 hA; (try simp only [uA] at hA); have hF := hA.facts; (try simp only [fZ] at hF)) | ((with_reducible refine gbx ?_); refine wB hA ?_; clear hF hA; intro b1 w1 hA hb1; (try simp only [uA] at hA); have hF := hA.facts; (try simp only [fZ] at hF)))
                try go_frame
                (refine wp_region_all (Cl _ _ _) (by kernel_rfl) (by kernel_rfl) (Cl.drew hA) ?_); (have hn1 := Cl.none hA); (have hn2 := Cl.none2 hA); (repeat (first | go_big_quiet_skip | (go_big_quiet_want; (first | ((((with_reducible show Oper.quiet _ { dst := _, op := Op.load 3 _, type := _, pos := _, after := _, guard := _ } _ _ _); first | refine quiet_rowN_at (g := gl) (j := j * 10) rfl rfl (by with_reducible repeat (first | exact Sel.here | apply Sel.there)) (by kernel_rfl) hs0 ?_ | refine quiet_rowN_at (g := gl) (j := j * 10 + 1) rfl rfl (by with_reducible repeat (first | exact Sel.here | apply Sel.there)) (by kernel_rfl) hs1 ?_)); go_frame; go_big_quiet_on) | (refine quiet_load_at rfl rfl (by with_reducible repeat (first | exact Sel.here | apply Sel.there)) (by kernel_rfl) (by first | assumption | exact rfl) ?_; go_frame; go_big_quiet_on) | (go_big_quiet_op; (first | go_big_quiet_on | ((apply Exists.intro); (refine ⟨fun w1 hw => ?_, ?_⟩); (focus ((have hw := Cl.out hw); (fail))); (go_big_quiet_on))))))))
                (refine wpQuiet_nil ?_); (intro w1 hB); (clear hF hA hn1 hn2); (have hA := Cl.out hB); (clear hB); (try simp only [uA] at hA); have hF := hA.facts; (try simp only [fZ] at hF)
                go_wp2_with (first | ((with_reducible refine gst ?_); refine wS hA ?_; clear hF hA; intro w1 hA; (try simp only [uA] at hA); have hF := hA.facts; (try simp only [fZ] at hF)) | ((with_reducible refine gbx ?_); refine wB hA ?_; clear hF hA; intro b1 w1 hA hb1; (try simp only [uA] at hA); have hF := hA.facts; (try simp only [fZ] at hF)))
                go_roundg (gk - 1)
                case measure => omega
                case rel =>
                  refine ⟨j + 1, by simp, by omega, ?_⟩
                  rw [htk.out, hui.out, if_neg (of_decide_eq_false hc'.out), hfc'.out]
                  exact hA.pick (by repeat (first | exact Picks.nil | refine Picks.cons (by repeat (first | exact Sel.here | apply Sel.there)) ?_))
              · go_wp2_with (first | ((with_reducible refine gst ?_); refine wS hA ?_; clear hF hA; intro w1 hA; (try simp only [uA] at hA); have hF := hA.facts; (try simp only [fZ] at hF)) | ((with_reducible refine gbx ?_); refine wB hA ?_; clear hF hA; intro b1 w1 hA hb1; (try simp only [uA] at hA); have hF := hA.facts; (try simp only [fZ] at hF)))
                try go_frame
                (refine wp_region_all (Cl _ _ _) (by kernel_rfl) (by kernel_rfl) (Cl.drew hA) ?_); (have hn1 := Cl.none hA); (have hn2 := Cl.none2 hA); (repeat (first | go_big_quiet_skip | (go_big_quiet_want; (first | ((((with_reducible show Oper.quiet _ { dst := _, op := Op.load 3 _, type := _, pos := _, after := _, guard := _ } _ _ _); first | refine quiet_rowN_at (g := gl) (j := j * 10) rfl rfl (by with_reducible repeat (first | exact Sel.here | apply Sel.there)) (by kernel_rfl) hs0 ?_ | refine quiet_rowN_at (g := gl) (j := j * 10 + 1) rfl rfl (by with_reducible repeat (first | exact Sel.here | apply Sel.there)) (by kernel_rfl) hs1 ?_)); go_frame; go_big_quiet_on) | (refine quiet_load_at rfl rfl (by with_reducible repeat (first | exact Sel.here | apply Sel.there)) (by kernel_rfl) (by first | assumption | exact rfl) ?_; go_frame; go_big_quiet_on) | (go_big_quiet_op; (first | go_big_quiet_on | ((apply Exists.intro); (refine ⟨fun w1 hw => ?_, ?_⟩); (focus ((have hw := Cl.out hw); (fail))); (go_big_quiet_on))))))))
                (refine wpQuiet_nil ?_); (intro w1 hB); (clear hF hA hn1 hn2); (have hA := Cl.out hB); (clear hB); (try simp only [uA] at hA); have hF := hA.facts; (try simp only [fZ] at hF)
                go_wp2_with (first | ((with_reducible refine gst ?_); refine wS hA ?_; clear hF hA; intro w1 hA; (try simp only [uA] at hA); have hF := hA.facts; (try simp only [fZ] at hF)) | ((with_reducible refine gbx ?_); refine wB hA ?_; clear hF hA; intro b1 w1 hA hb1; (try simp only [uA] at hA); have hF := hA.facts; (try simp only [fZ] at hF)))
                try go_frame
                (refine wp_region_head 13 (Cl _ _ _) (by kernel_rfl) (by kernel_rfl) (Cl.drew hA) ?_); (simp only [List.take_succ_cons, List.take_zero, List.drop_succ_cons, List.drop_zero]); (have hn1 := Cl.none hA); (have hn2 := Cl.none2 hA); (repeat (first | go_big_quiet_skip | (go_big_quiet_want; (first | ((((with_reducible show Oper.quiet _ { dst := _, op := Op.load 3 _, type := _, pos := _, after := _, guard := _ } _ _ _); first | refine quiet_rowN_at (g := gl) (j := j * 10) rfl rfl (by with_reducible repeat (first | exact Sel.here | apply Sel.there)) (by kernel_rfl) hs0 ?_ | refine quiet_rowN_at (g := gl) (j := j * 10 + 1) rfl rfl (by with_reducible repeat (first | exact Sel.here | apply Sel.there)) (by kernel_rfl) hs1 ?_)); go_frame; go_big_quiet_on) | (refine quiet_load_at rfl rfl (by with_reducible repeat (first | exact Sel.here | apply Sel.there)) (by kernel_rfl) (by first | assumption | exact rfl) ?_; go_frame; go_big_quiet_on) | (go_big_quiet_op; (first | go_big_quiet_on | ((apply Exists.intro); (refine ⟨fun w1 hw => ?_, ?_⟩); (focus ((have hw := Cl.out hw); (fail))); (go_big_quiet_on))))))))
                (refine wpQuiet_nil ?_); (intro w1 hB); (clear hF hA hn1 hn2); (have hA := Cl.out hB); (clear hB); (try simp only [uA] at hA); have hF := hA.facts; (try simp only [fZ] at hF)
                go_wp2_with (first | ((with_reducible show wpList _ _ _ ({ dst := none, op := Op.store _ _ _, type := _, pos := _, after := _, guard := _ } :: _) _ _); refine wpList_store_at (b := b3) (j := q) (c := fc) (vs := [.int .i64 (t + 1)]) rfl rfl (by (try simp only [Act.eval, eV]) <;> exact rfl) (by (try simp only [Act.eval, eV]) <;> exact rfl) (by exact rfl) hA (by repeat (first | exact Sel.here | apply Sel.there)) (by kernel_rfl) rfl (by show q + 1 ≤ fc.length; omega) ?_; intro w1 hB; rw [hst.out] at hB; clear hF hA; have hA := hB; clear hB; (try simp only [uA] at hA); have hF := hA.facts; (try simp only [fZ] at hF)) | ((with_reducible refine gst ?_); refine wS hA ?_; clear hF hA; intro w1 hA; (try simp only [uA] at hA); have hF := hA.facts; (try simp only [fZ] at hF)) | ((with_reducible refine gbx ?_); refine wB hA ?_; clear hF hA; intro b1 w1 hA hb1; (try simp only [uA] at hA); have hF := hA.facts; (try simp only [fZ] at hF)))
                go_roundg (gk - 1)
                case measure => omega
                case rel =>
                  refine ⟨j + 1, by simp, by omega, ?_⟩
                  rw [htk.out, hui.out, if_pos (of_decide_eq_true hc'.out)]
                  exact hA.pick (by repeat (first | exact Picks.nil | refine Picks.cons (by repeat (first | exact Sel.here | apply Sel.there)) ?_))
            · have hjI : ¬ (j : Int) < ls.length := by omega
              (try simp only [uA] at hA); have hF := hA.facts; (try simp only [fZ] at hF)
              go_wp2_with (first | ((with_reducible refine gst ?_); refine wS hA ?_; clear hF hA; intro w1 hA; (try simp only [uA] at hA); have hF := hA.facts; (try simp only [fZ] at hF)) | ((with_reducible refine gbx ?_); refine wB hA ?_; clear hF hA; intro b1 w1 hA hb1; (try simp only [uA] at hA); have hF := hA.facts; (try simp only [fZ] at hF)))
              go_roundg G
              case measure => have := hGk.out; have := hK0'.out; omega
              case rel =>
                rw [List.take_of_length_le (by rw [List.length_map]; omega)] at hA
                refine ⟨upF f1 (ls.map Prod.fst), out ++ QQ, hup.out.1, Nat.le_of_eq hG'.out, ?_, fun r g h => ?_, hA.pick (by repeat (first | exact Picks.nil | refine Picks.cons (by repeat (first | exact Sel.here | apply Sel.there)) ?_))⟩
                · have h1 := hup.out.2
                  have h2 := hol'.out
                  have h3 := hQl.out
                  rw [List.length_append]
                  omega
                · rw [List.map_append, List.append_assoc, hon.out]
                  exact hru'.out _ _ (.go hfi'.out h)
end Go.Proofs.Ytgicohkmfbbbdaa.Ref
end
