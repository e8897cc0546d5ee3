/- GrbE, GraX, GrbF, joined. -/
import Derived.Test.YtgicohkmfbbbdaaK26
import Derived.Test.YtgicohkmfbbbdaaK20
import Derived.Test.YtgicohkmfbbbdaaK12
section
namespace Go.Proofs.Ytgicohkmfbbbdaa.Gr
open _root_.Go.Proofs.Ytgicohkmfbbbdaa.Mark (ltID sortID)
open Go.RowKit
open Attr (A8 thro)
set_option linter.unusedSimpArgs false
set_option linter.unusedVariables false
attribute [-go_sem] run_eql_struct run_neq_struct run_eqGuard_agg

def RuRel (w : World) (p m : Nat) (es : List (I2 × A8)) (f0 : F7) (b3 b5 : Nat) (k : Nat) (u : Value) (wr : World) : Prop :=
  ∃ (f : F7) (out : List I2), FOk f ∧ mF f ≤ k ∧ out.length + 1000 * mF f ≤ 7168000 ∧ (∀ r g, RunR es f r g → RunR es f0 (out ++ r) g) ∧ At [GrP p m es] w [rowI2 u out, Part.cells b3 [.int .i64 f.f0, .int .i64 f.f1, .int .i64 f.f2, .int .i64 f.f3, .int .i64 f.f4, .int .i64 f.f5, .int .i64 f.f6] 24, Part.cells b5 [.int .i64 0, .int .i64 0, .int .i64 0, .int .i64 0, .int .i64 0, .int .i64 0, .int .i64 0] 24, GrP p m es] wr
def RvRel (w : World) (p m : Nat) (es : List (I2 × A8)) (f : F7) (l out : List I2) (vl vo : Value) (b3 b5 : Nat) (k : Nat) (u : Value) (wr : World) : Prop :=
  ∃ j : Nat, u = .int .i64 j ∧ j + k = l.length ∧ At [GrP p m es] w [Part.cells b3 (upF f (l.take j)).cells 24, rowI2 vo out, rowI2 vl l, Part.cells b5 [.int .i64 0, .int .i64 0, .int .i64 0, .int .i64 0, .int .i64 0, .int .i64 0, .int .i64 0] 24, GrP p m es] wr
def RuPost (p m : Nat) (es : List (I2 × A8)) (f : F7) (w : World) (e : Ending) (w' : World) : Prop :=
  ∃ (u : Value) (r : List I2) (g : F7), e = .returned (.tuple #[u, g.val]) ∧ RunR es f r g ∧ FOk g ∧ r.length ≤ 7168000 ∧ At [GrP p m es] w [rowI2 u r, GrP p m es] w'
theorem F7.cell (f : F7) {q : Nat} (hq : q < 7) : f.cells[q]? = some (.int .i64 (f.at q)) := by
  rcases (show q = 0 ∨ q = 1 ∨ q = 2 ∨ q = 3 ∨ q = 4 ∨ q = 5 ∨ q = 6 by omega) with rfl | rfl | rfl | rfl | rfl | rfl | rfl <;> rfl
theorem F7.cells_set (f : F7) {q : Nat} (hq : q < 7) (v : Int) : setL f.cells q [.int .i64 v] = (f.set q v).cells := by
  rcases (show q = 0 ∨ q = 1 ∨ q = 2 ∨ q = 3 ∨ q = 4 ∨ q = 5 ∨ q = 6 by omega) with rfl | rfl | rfl | rfl | rfl | rfl | rfl <;> rfl
set_option maxRecDepth 100000 in
set_option maxHeartbeats 8000000 in
theorem grun_any {w : World} {p m : Nat} {es : List (I2 × A8)} (h : Sep [GrP p m es] w) (f : F7) (hf : FOk f) (ho : Own es) (hn : es.length ≤ 1000) :
    Calls Try.prog 12 #[.pointer (some ⟨p, 0, none⟩), f.val] w (RuPost p m es f w) := by
  have hm : Try.prog.follows .mixedOrders = true := by kernel_rfl
  obtain ⟨i0, hi0, hz0, hz1, hz2⟩ := info_parts infoI
  have hA := At.start h
  have hF := hA.facts
  have hf' := Lib.hid hf
  have ho' := Lib.hid ho
  clear h hf ho
  simp only [F7.val] at *
  (try simp only [uA] at hA); have hF := hA.facts; (try simp only [fZ] at hF)
  go_enter Try.func12, Try.ntmps12
  go_wp2_with (first | ((with_reducible refine gbx ?_); refine wX 24 (.agg #[.int .i64 f.f0, .int .i64 f.f1, .int .i64 f.f2, .int .i64 f.f3, .int .i64 f.f4, .int .i64 f.f5, .int .i64 f.f6]) [.int .i64 f.f0, .int .i64 f.f1, .int .i64 f.f2, .int .i64 f.f3, .int .i64 f.f4, .int .i64 f.f5, .int .i64 f.f6] hA ?_; clear hF hA; intro b3 w1 hA hb3; (try simp only [uA] at hA); have hF := hA.facts; (try simp only [fZ] at hF)) | ((with_reducible refine gal ?_); refine wA 24 (.agg #[.int .i64 0, .int .i64 0, .int .i64 0, .int .i64 0, .int .i64 0, .int .i64 0, .int .i64 0]) [.int .i64 0, .int .i64 0, .int .i64 0, .int .i64 0, .int .i64 0, .int .i64 0, .int .i64 0] hA ?_; clear hF hA; intro b5 w1 hA hb5; (try simp only [uA] at hA); have hF := hA.facts; (try simp only [fZ] at hF)) | ((with_reducible refine gst ?_); refine wS hA ?_; clear hF hA; intro w1 hA; (try simp only [uA] at hA); have hF := hA.facts; (try simp only [fZ] at hF)) | ((with_reducible refine gbx ?_); refine wB hA ?_; clear hF hA; intro b1 w1 hA hb1; (try simp only [uA] at hA); have hF := hA.facts; (try simp only [fZ] at hF)))
  try go_frame
  have hB := hA.row_nil 38 2
  clear hF hA; have hA := hB; clear hB
  go_loopg [6] (mF f) (RuRel w p m es f b3 b5)
  case atStart => exact ⟨f, [], hf'.out, Nat.le_refl _, by have := mF_max hf'.out; simp only [List.length_nil]; omega, fun r g h => h, hA.pick (by repeat (first | exact Picks.nil | refine Picks.cons (by repeat (first | exact Sel.here | apply Sel.there)) ?_))⟩
  case round =>
    obtain ⟨f1, out, hf1, hmk, hol, hru, hB⟩ := hrel
    have hf1' := Lib.hid hf1
    have hmk' := Lib.hid hmk
    have hol' := Lib.hid hol
    have hru' := Lib.hid hru
    clear hA hf1 hmk hol hru; have hA := hB; clear hB
    (try simp only [uA] at hA); have hF := hA.facts; (try simp only [fZ] at hF)
    go_wp2_with (first | ((with_reducible refine gst ?_); refine wS hA ?_; clear hF hA; intro w1 hA; (try simp only [uA] at hA); have hF := hA.facts; (try simp only [fZ] at hF)) | ((with_reducible refine gbx ?_); refine wB hA ?_; clear hF hA; intro b1 w1 hA hb1; (try simp only [uA] at hA); have hF := hA.facts; (try simp only [fZ] at hF)))
    refine (ready_any (hA.sep1 (A := GrP p m es) (by repeat (first | exact Sel.here | apply Sel.there))) f1 (fun q hq => by have := hf1'.out q hq; unfold okI; omega) ho'.out.deps hn).mono ?_
    rintro e w1 (⟨l, v, rfl, hfi, hT⟩ | ⟨rfl, hfi, hT⟩)
    · have hB := hA.call1 (A := GrP p m es) (by repeat (first | exact Sel.here | apply Sel.there)) hT
      clear hF hA hT; have hA := hB; clear hB
      simp only [List.cons_append, List.nil_append] at hA
      obtain ⟨hp1, hg1, hq1⟩ := first_in hfi
      have hll := in_len hp1 hg1
      have hup := Lib.hid (up_less ho'.out hf1'.out hfi)
      have hrt := Lib.hid (show ∀ x ∈ l, RtI x from fun x hx => ho'.out.of_get (hg1 x hx))
      have hls := lstG_of hp1 hg1
      have hfi' := Lib.hid hfi
      clear hp1 hg1 hq1 hfi
      obtain ⟨axl, capl, hvl, haxl, hcpl, _⟩ := hA.row_form (e := 38) (size := 2) (n := l.length) (v := v) (xs := flatI l) (by repeat (first | exact Sel.here | apply Sel.there))
      obtain ⟨axo, capo, hvo, haxo, hcpo, _⟩ := hA.row_form (e := 38) (size := 2) (n := out.length) (v := u6) (xs := flatI out) (by repeat (first | exact Sel.here | apply Sel.there))
      clear haxl haxo
      subst hvl
      subst hvo
      (try simp only [uA] at hA); have hF := hA.facts; (try simp only [fZ] at hF)
      go_wp2_with (first | ((with_reducible refine gst ?_); refine wS hA ?_; clear hF hA; intro w1 hA; (try simp only [uA] at hA); have hF := hA.facts; (try simp only [fZ] at hF)) | ((with_reducible refine gbx ?_); refine wB hA ?_; clear hF hA; intro b1 w1 hA hb1; (try simp only [uA] at hA); have hF := hA.facts; (try simp only [fZ] at hF)))
      refine (order_any (R := rowI2 (.slice axl l.length capl) l) (v := .slice axl l.length capl) (l := l) (p := p) (m := m) (es := es) (hA.sep2 (A := rowI2 (.slice axl l.length capl) l) (B := GrP p m es) (by repeat (first | exact Sel.here | apply Sel.there)) (by repeat (first | exact Sel.here | apply Sel.there))) (fun w' hw => own_reads (base := 0) hw) (by omega) (fun x hx => (hrt.out x hx).ok) f1 ho'.out.deps ho'.out.ok ho'.out.uq).mono ?_
      rintro e w2 ⟨vq, rfl, hT⟩
      have hB := hA.call2 (A := rowI2 (.slice axl l.length capl) l) (B := GrP p m es) (by repeat (first | exact Sel.here | apply Sel.there)) (by repeat (first | exact Sel.here | apply Sel.there)) hT
      rw [hls] at hB
      have hQl := (ordG_perm es f1 l).length_eq
      clear hF hA hT hls; have hA := hB; clear hB
      simp only [List.cons_append, List.nil_append] at hA
      generalize hQ : ordG es f1 l = QQ at *
      have hQ' := Lib.hid hQ
      have hQl' := Lib.hid hQl
      clear hQ hQl
      (try simp only [uA] at hA); have hF := hA.facts; (try simp only [fZ] at hF)
      go_wp2_with (first | ((with_reducible show wpList _ _ _ ({ dst := _, op := Op.call { callee := Callee.builtin Builtin.append, args := _, argTypes := _ }, type := _, pos := _, after := _, guard := _ } :: _) _ _); refine wpList_append_at (e := 38) (size := 2) (v := .slice axo out.length capo) (xs := flatI out) (n := out.length) (m := QQ.length) (news := flatI QQ) rfl _ _ 31 rfl Try.underlying31 hi0 hz0 hz1 hz2 rfl (by omega) hA (by repeat (first | exact Sel.here | apply Sel.there)) (by (try simp only [Act.eval, eV]) <;> exact rfl) (by (try simp only [Act.eval, eV]) <;> exact rfl) (flatI_len _) (hA.row_reads (v := vq) (n := QQ.length) (xs := flatI QQ) (by repeat (first | exact Sel.here | apply Sel.there))) (flatI_one _) (by have := hQl'.out; have := hol'.out; unfold maxLen; omega) (by have := hQl'.out; have := hol'.out; omega) ?_; intro vo w1 hB; rw [rowI2_app] at hB; clear hF hA; have hA := hB; clear hB; (try simp only [uA] at hA); have hF := hA.facts; (try simp only [fZ] at hF)) | ((with_reducible refine gst ?_); refine wS hA ?_; clear hF hA; intro w1 hA; (try simp only [uA] at hA); have hF := hA.facts; (try simp only [fZ] at hF)) | ((with_reducible refine gbx ?_); refine wB hA ?_; clear hF hA; intro b1 w1 hA hb1; (try simp only [uA] at hA); have hF := hA.facts; (try simp only [fZ] at hF)))
      try go_frame
      obtain ⟨G, hG⟩ : ∃ G, mF (upF f1 l) = G := ⟨_, rfl⟩
      have hGk := Lib.hid (show G < gk from by have := hup.out.2; have := hmk'.out; omega)
      have hG' := Lib.hid hG
      clear hG
      have hA0 : At [GrP p m es] w [Part.cells b3 (upF f1 (l.take 0)).cells 24, rowI2 vo (out ++ QQ), rowI2 (.slice axl l.length capl) l, Part.cells b5 [.int .i64 0, .int .i64 0, .int .i64 0, .int .i64 0, .int .i64 0, .int .i64 0, .int .i64 0] 24, GrP p m es] _ := hA.pick (by repeat (first | exact Picks.nil | refine Picks.cons (by repeat (first | exact Sel.here | apply Sel.there)) ?_))
      clear hF hA
      go_loopg [29] l.length (RvRel w p m es f1 l (out ++ QQ) (.slice axl l.length capl) vo b3 b5)
      case atStart => exact ⟨0, rfl, by omega, hA0⟩
      case round =>
        obtain ⟨j, rfl, hjk, hB⟩ := hrel
        clear hA0; have hA := hB; clear hB
        by_cases hj : j < l.length
        · skip
          obtain ⟨x, hx⟩ : ∃ x, l[j]? = some x := ⟨_, List.getElem?_eq_getElem hj⟩
          have hxr := hrt.out x (List.mem_of_getElem? hx)
          have htk := Lib.hid (show upF f1 (l.take (j + 1)) = upF1 (upF f1 (l.take j)) x from by unfold upF; rw [List.take_add_one, hx, List.foldl_append]; rfl)
          generalize upF f1 (l.take j) = f2 at *
          have hrr := row_elem (hA.row_reads (v := .slice axl l.length capl) (n := l.length) (xs := flatI l) (by repeat (first | exact Sel.here | apply Sel.there))) hx
          clear hx
          obtain ⟨r, t⟩ := x
          obtain ⟨q, rfl⟩ : ∃ q : Nat, r = q := ⟨r.toNat, by have := hxr.1; simp only at this; omega⟩
          have hq7 : q < 7 := by have := hxr.2.1; simp only at this; omega
          have ht0 : 0 ≤ t := hxr.2.2.1
          have ht1 : t < 1024 := hxr.2.2.2
          have hwt : IntKind.i64.wrap (t + 1) = t + 1 := by rw [IntKind.wrap_i64] <;> omega
          obtain ⟨bt, offt, hax2, hce⟩ := hrr
          have hr2' := Lib.hid (show ∀ (k : Nat) u, ([.int .i64 (q : Int), .int .i64 t] : List Value)[k]? = some u → wr.cell? ⟨bt, offt + j * 2 + k, none⟩ = some u from hce)
          clear hce
          subst hax2
          (try simp only [uA] at hA); have hF := hA.facts; (try simp only [fZ] at hF)
          go_upto_region 9 with (first | ((with_reducible refine gal ?_); refine wA 38 (.agg #[.int .i64 0, .int .i64 0]) [.int .i64 0, .int .i64 0] hA ?_; clear hF hA; intro b10 w1 hA hb10; (try simp only [uA] at hA); have hF := hA.facts; (try simp only [fZ] at hF)) | ((with_reducible show wpList _ _ _ ({ dst := some 32, op := Op.load _ _, type := _, pos := _, after := _, guard := _ } :: _) _ _); refine wpList_loadRow_at (vs := [.int .i64 (q : Int), .int .i64 t]) rfl rfl (by (try simp only [Act.eval, eV]) <;> exact rfl) hr2'.out (by kernel_rfl) (by kernel_rfl) ?_) | ((with_reducible refine gst ?_); refine wS hA ?_; clear hF hA; intro w1 hA; (try simp only [uA] at hA); have hF := hA.facts; (try simp only [fZ] at hF)) | ((with_reducible refine gbx ?_); refine wB hA ?_; clear hF hA; intro b1 w1 hA hb1; (try simp only [uA] at hA); have hF := hA.facts; (try simp only [fZ] at hF)))
          try go_frame
          have hB := hA.drew
          clear hF hA; have hA := hB; clear hB
          refine wp_region_held (S := fun w' => BlockIs w' b10 [.int .i64 (q : Int), .int .i64 t] 38) hm ?_
          change wpAnyH _ _ _ _ _ 12 _ _ (World.drew _)
          generalize World.drew _ = wd at *
          have hS0 := (hA.get (A := Part.cells b10 [.int .i64 (q : Int), .int .i64 t] 38) (by repeat (first | exact Sel.here | apply Sel.there)) : (fun w' => BlockIs w' b10 [.int .i64 (q : Int), .int .i64 t] 38) wd)
          refine tP 0 33 (.pointer (some ⟨b10, 0, none⟩)) (s := hS0) (h := ?_)
          try go_frame
          refine tZ 1 34 (.int .i64 (q : Int)) (r := (fun w' hS => run_load_one (ty := 3) (b := b10) (j := 0) rfl (by exact rfl) hS (by kernel_rfl) rfl)) (s := hS0) (h := ?_)
          try go_frame
          refine tP 2 35 (.pointer (some ⟨b10, 0, none⟩)) (s := hS0) (h := ?_)
          try go_frame
          refine tZ 3 36 (.int .i64 (q : Int)) (r := (fun w' hS => run_load_one (ty := 3) (b := b10) (j := 0) rfl (by exact rfl) hS (by kernel_rfl) rfl)) (s := hS0) (h := ?_)
          try go_frame
          refine tZ 4 37 (.pointer (some ⟨b3, q, none⟩)) (r := (fun w' hS => by simp [execOp, go_sem, Act.eval, Act.put, Try.underlying24]; omega)) (s := hS0) (h := ?_)
          try go_frame
          refine tP 6 39 (.pointer (some ⟨b10, 1, none⟩)) (s := hS0) (h := ?_)
          try go_frame
          refine tZ 7 40 (.int .i64 t) (r := (fun w' hS => run_load_one (ty := 3) (b := b10) (j := 1) rfl (by exact rfl) hS (by kernel_rfl) rfl)) (s := hS0) (h := ?_)
          try go_frame
          refine tZ 8 41 (.int .i64 (t + 1)) (r := (fun w' hS => by simp [execOp, go_sem, Act.eval, Act.put, hwt])) (s := hS0) (h := ?_)
          try go_frame
          refine wpAnyH_one (i := 5) (by kernel_rfl) ?_
          refine opLoad1_at (i := 5) (d := some 38) (b := b3) (j := q) rfl rfl (by kernel_rfl) rfl (by exact rfl) hA (by repeat (first | exact Sel.here | apply Sel.there)) (by kernel_rfl) (f2.cell hq7) ?_
          refine ⟨hS0, ?_⟩
          try go_frame
          refine tZ 9 42 (.int .i64 (max (f2.at q) (t + 1))) (r := (fun w' hS => by simp [execOp, go_sem, Act.eval, Act.put])) (s := hS0) (h := ?_)
          try go_frame
          refine tZ 10 43 (.pointer (some ⟨b3, q, none⟩)) (r := (fun w' hS => by simp [execOp, go_sem, Act.eval, Act.put, Try.underlying24]; omega)) (s := hS0) (h := ?_)
          try go_frame
          refine wpAnyH_one (i := 11) (by kernel_rfl) ?_
          refine opStore_at (i := 11) (b := b3) (j := q) (vs := [.int .i64 (max (f2.at q) (t + 1))]) rfl rfl (by kernel_rfl) rfl (by exact rfl) (by exact rfl) rfl hA (by repeat (first | exact Sel.here | apply Sel.there)) (by kernel_rfl) rfl (by show q + 1 ≤ 7; omega) ?_
          intro w3 hB
          rw [F7.cells_set f2 hq7] at hB
          clear hA; have hA := hB; clear hB
          have hS1 := (hA.get (A := Part.cells b10 [.int .i64 (q : Int), .int .i64 t] 38) (by repeat (first | exact Sel.here | apply Sel.there)) : (fun w' => BlockIs w' b10 [.int .i64 (q : Int), .int .i64 t] 38) w3)
          refine ⟨hS1, ?_⟩
          try go_frame
          refine wpAnyH_done (by kernel_rfl) ?_ _
          try go_frame
          clear hS0 hS1
          have hA' : At [GrP p m es] w [Part.cells b3 (upF1 f2 ((q : Int), t)).cells 24, rowI2 vo (out ++ QQ), rowI2 (.slice (some ⟨bt, offt, none⟩) l.length capl) l, Part.cells b5 [.int .i64 0, .int .i64 0, .int .i64 0, .int .i64 0, .int .i64 0, .int .i64 0, .int .i64 0] 24, GrP p m es] _ := hA.pick (by repeat (first | exact Picks.nil | refine Picks.cons (by repeat (first | exact Sel.here | apply Sel.there)) ?_))
          rw [← htk.out] at hA'
          clear hA
          have hF := hA'.facts
          go_wp2_with (first | ((with_reducible refine gst ?_); refine wS hA ?_; clear hF hA; intro w1 hA; (try simp only [uA] at hA); have hF := hA.facts; (try simp only [fZ] at hF)) | ((with_reducible refine gbx ?_); refine wB hA ?_; clear hF hA; intro b1 w1 hA hb1; (try simp only [uA] at hA); have hF := hA.facts; (try simp only [fZ] at hF)))
          go_roundg (gk - 1)
          case measure => omega
          case rel => exact ⟨j + 1, by simp, by omega, hA'⟩
        · have hF := hA.facts
          (try simp only [uA] at hA); have hF := hA.facts; (try simp only [fZ] at hF)
          go_wp2_with (first | ((with_reducible refine gst ?_); refine wS hA ?_; clear hF hA; intro w1 hA; (try simp only [uA] at hA); have hF := hA.facts; (try simp only [fZ] at hF)) | ((with_reducible refine gbx ?_); refine wB hA ?_; clear hF hA; intro b1 w1 hA hb1; (try simp only [uA] at hA); have hF := hA.facts; (try simp only [fZ] at hF)))
          go_roundg G
          case measure => exact hGk.out
          case rel =>
            rw [List.take_of_length_le (by omega)] at hA
            refine ⟨upF f1 l, out ++ QQ, hup.out.1, Nat.le_of_eq hG'.out, ?_, fun r g h => ?_, hA.pick (by repeat (first | exact Picks.nil | refine Picks.cons (by repeat (first | exact Sel.here | apply Sel.there)) ?_))⟩
            · have h1 := hup.out.2
              have h2 := hol'.out
              have h3 := hQl'.out
              rw [List.length_append]
              omega
            · rw [List.append_assoc, ← hQ'.out]
              exact hru'.out _ _ (.go hfi'.out h)
    · have hB := hA.call1 (A := GrP p m es) (by repeat (first | exact Sel.here | apply Sel.there)) hT
      clear hF hA hT; have hA := hB; clear hB
      simp only [List.cons_append, List.nil_append] at hA
      have hfi' := Lib.hid hfi
      clear hfi
      (try simp only [uA] at hA); have hF := hA.facts; (try simp only [fZ] at hF)
      go_upto_region 4 with (first | ((with_reducible refine gst ?_); refine wS hA ?_; clear hF hA; intro w1 hA; (try simp only [uA] at hA); have hF := hA.facts; (try simp only [fZ] at hF)) | ((with_reducible refine gbx ?_); refine wB hA ?_; clear hF hA; intro b1 w1 hA hb1; (try simp only [uA] at hA); have hF := hA.facts; (try simp only [fZ] at hF)))
      try go_frame
      have hB := hA.drew
      clear hF hA; have hA := hB; clear hB
      refine wp_region_held (S := fun w' => BlockIs w' b3 [.int .i64 f1.f0, .int .i64 f1.f1, .int .i64 f1.f2, .int .i64 f1.f3, .int .i64 f1.f4, .int .i64 f1.f5, .int .i64 f1.f6] 24) hm ?_
      change wpAnyH _ _ _ _ _ 4 _ _ (World.drew _)
      generalize World.drew _ = wd at *
      have hS0 := (hA.get (A := Part.cells b3 [.int .i64 f1.f0, .int .i64 f1.f1, .int .i64 f1.f2, .int .i64 f1.f3, .int .i64 f1.f4, .int .i64 f1.f5, .int .i64 f1.f6] 24) (by repeat (first | exact Sel.here | apply Sel.there)) : (fun w' => BlockIs w' b3 [.int .i64 f1.f0, .int .i64 f1.f1, .int .i64 f1.f2, .int .i64 f1.f3, .int .i64 f1.f4, .int .i64 f1.f5, .int .i64 f1.f6] 24) wd)
      refine tP 0 19 (u6) (s := hS0) (h := ?_)
      try go_frame
      refine tZ 1 20 (.agg #[.int .i64 f1.f0, .int .i64 f1.f1, .int .i64 f1.f2, .int .i64 f1.f3, .int .i64 f1.f4, .int .i64 f1.f5, .int .i64 f1.f6]) (r := (fun w' hS => run_load_row (ty := 24) (n := 7) (b := b3) (j := 0) rfl (by exact rfl) hS (by kernel_rfl) (by kernel_rfl) rfl rfl)) (s := hS0) (h := ?_)
      try go_frame
      refine tP 2 4 (u6) (s := hS0) (h := ?_)
      try go_frame
      refine wpAnyH_one (i := 3) (by kernel_rfl) ?_
      refine opStore_at (i := 3) (b := b5) (j := 0) (vs := [.int .i64 f1.f0, .int .i64 f1.f1, .int .i64 f1.f2, .int .i64 f1.f3, .int .i64 f1.f4, .int .i64 f1.f5, .int .i64 f1.f6]) rfl rfl (by kernel_rfl) rfl (by exact rfl) (by exact rfl) rfl hA (by repeat (first | exact Sel.here | apply Sel.there)) (by kernel_rfl) rfl (by show 0 + 7 ≤ 7; omega) ?_
      intro w3 hB
      simp only [uA] at hB
      clear hA; have hA := hB; clear hB
      have hS1 := (hA.get (A := Part.cells b3 [.int .i64 f1.f0, .int .i64 f1.f1, .int .i64 f1.f2, .int .i64 f1.f3, .int .i64 f1.f4, .int .i64 f1.f5, .int .i64 f1.f6] 24) (by repeat (first | exact Sel.here | apply Sel.there)) : (fun w' => BlockIs w' b3 [.int .i64 f1.f0, .int .i64 f1.f1, .int .i64 f1.f2, .int .i64 f1.f3, .int .i64 f1.f4, .int .i64 f1.f5, .int .i64 f1.f6] 24) w3)
      refine ⟨hS1, ?_⟩
      try go_frame
      refine wpAnyH_done (by kernel_rfl) ?_ _
      try go_frame
      clear hS0 hS1
      (try simp only [uA] at hA); have hF := hA.facts; (try simp only [fZ] at hF)
      go_wp2_with (first | ((with_reducible refine gst ?_); refine wS hA ?_; clear hF hA; intro w1 hA; (try simp only [uA] at hA); have hF := hA.facts; (try simp only [fZ] at hF)) | ((with_reducible refine gbx ?_); refine wB hA ?_; clear hF hA; intro b1 w1 hA hb1; (try simp only [uA] at hA); have hF := hA.facts; (try simp only [fZ] at hF)))
      refine bodyPost_ret (v := .tuple #[u6, f1.val]) (by simp [results, Try.results12, go_sem, F7.val, hF]) rfl ?_
      exact ⟨u6, out, f1, rfl, by have := hru'.out [] f1 (.stop hfi'.out); rwa [List.append_nil] at this, hf1'.out, by have := hol'.out; omega, hA.pick (by repeat (first | exact Picks.nil | refine Picks.cons (by repeat (first | exact Sel.here | apply Sel.there)) ?_))⟩
end Go.Proofs.Ytgicohkmfbbbdaa.Gr
end

section
namespace Go.Proofs.Ytgicohkmfbbbdaa.Gr
open _root_.Go.Proofs.Ytgicohkmfbbbdaa.Mark (ltID sortID)
open _root_.Go.Proofs.Ytgicohkmfbbbdaa.Ref (rowD flatD cellsD cellsD_len elemD IA)
open _root_.Go.Proofs.Ytgicohkmfbbbdaa.Attr (guardI eqlI_any neqI_any guardJ eqlJ_any neqJ_any)
open Go.RowKit
set_option linter.unusedSimpArgs false
set_option linter.unusedVariables false
attribute [-go_sem] run_eql_struct run_neq_struct run_eqGuard_agg
attribute [local go_sem] guardI eqlI_any neqI_any guardJ eqlJ_any neqJ_any

/-- a front that may be -/
def FrontOk (f : F7) : Prop := ∀ q, q < 7 → 0 ≤ f.at q ∧ f.at q ≤ 1024
def RtRel (w : World) (b1 : Nat) (f : F7) (k : Nat) (u : Value) (wr : World) : Prop :=
  ∃ q : Nat, u = .int .i64 q ∧ q + k = 7 ∧ (∀ j, j < q → 0 ≤ f.at j ∧ f.at j ≤ 1024) ∧ At [] w [Part.cells b1 [.int .i64 f.f0, .int .i64 f.f1, .int .i64 f.f2, .int .i64 f.f3, .int .i64 f.f4, .int .i64 f.f5, .int .i64 f.f6] 24] wr
def RightPost (f : F7) (w : World) (e : Ending) (w' : World) : Prop := ∃ c, e = .returned (.bool c) ∧ (c = true ↔ FrontOk f) ∧ Ext w w'
set_option maxRecDepth 100000 in
set_option maxHeartbeats 2000000 in
theorem right_any (w : World) (f : F7) : Calls Try.prog 10 #[f.val] w (RightPost f w) := by
  have hA : At [] w [] w := At.start (L0 := []) trivial
  simp only [F7.val] at *
  (try simp only [uA] at hA); have hF := hA.facts; (try simp only [fZ] at hF)
  go_enter Try.func10, Try.ntmps10
  go_wp2_with (first | ((with_reducible refine gbx ?_); refine wX 24 (.agg #[.int .i64 f.f0, .int .i64 f.f1, .int .i64 f.f2, .int .i64 f.f3, .int .i64 f.f4, .int .i64 f.f5, .int .i64 f.f6]) [.int .i64 f.f0, .int .i64 f.f1, .int .i64 f.f2, .int .i64 f.f3, .int .i64 f.f4, .int .i64 f.f5, .int .i64 f.f6] hA ?_; clear hF hA; intro b1 w1 hA hb1; (try simp only [uA] at hA); have hF := hA.facts; (try simp only [fZ] at hF)) | ((with_reducible refine gst ?_); refine wS hA ?_; clear hF hA; intro w1 hA; (try simp only [uA] at hA); have hF := hA.facts; (try simp only [fZ] at hF)) | ((with_reducible refine gbx ?_); refine wB hA ?_; clear hF hA; intro b1 w1 hA hb1; (try simp only [uA] at hA); have hF := hA.facts; (try simp only [fZ] at hF)))
  try go_frame
  go_loopg [6] 7 (RtRel w b1 f)
  case atStart => exact ⟨0, rfl, rfl, nofun, hA.pick (by repeat (first | exact Picks.nil | refine Picks.cons (by repeat (first | exact Sel.here | apply Sel.there)) ?_))⟩
  case round =>
    obtain ⟨q, rfl, hqk, hno, hB⟩ := hrel
    have hno' := Lib.hid hno
    clear hF hA hno; have hA := hB; clear hB
    by_cases hq7 : q < 7
    · have hix : ∀ w, (Instr.index 24 (.agg #[.int .i64 f.f0, .int .i64 f.f1, .int .i64 f.f2, .int .i64 f.f3, .int .i64 f.f4, .int .i64 f.f5, .int .i64 f.f6]) (.int .i64 q)).run Try.prog w = .ok (.int .i64 (f.at q)) w := fun w => index7F (fun q => f.at q) q hq7 w
      obtain ⟨fq, hfq⟩ : ∃ z, f.at q = z := ⟨_, rfl⟩
      rw [hfq] at hix
      have hfq' := Lib.hid hfq
      clear hfq
      (try simp only [uA] at hA); have hF := hA.facts; (try simp only [fZ] at hF)
      by_cases h0 : fq < 0
      · go_wp2_with (first | ((with_reducible refine gst ?_); refine wS hA ?_; clear hF hA; intro w1 hA; (try simp only [uA] at hA); have hF := hA.facts; (try simp only [fZ] at hF)) | ((with_reducible refine gbx ?_); refine wB hA ?_; clear hF hA; intro b1 w1 hA hb1; (try simp only [uA] at hA); have hF := hA.facts; (try simp only [fZ] at hF)))
        go_ret
        exact ⟨false, rfl, ⟨nofun, fun h => by have := h q hq7; rw [hfq'.out] at this; omega⟩, hA.toExt⟩
      · by_cases h1 : 1024 < fq
        · go_wp2_with (first | ((with_reducible refine gst ?_); refine wS hA ?_; clear hF hA; intro w1 hA; (try simp only [uA] at hA); have hF := hA.facts; (try simp only [fZ] at hF)) | ((with_reducible refine gbx ?_); refine wB hA ?_; clear hF hA; intro b1 w1 hA hb1; (try simp only [uA] at hA); have hF := hA.facts; (try simp only [fZ] at hF)))
          go_ret
          exact ⟨false, rfl, ⟨nofun, fun h => by have := h q hq7; rw [hfq'.out] at this; omega⟩, hA.toExt⟩
        · go_wp2_with (first | ((with_reducible refine gst ?_); refine wS hA ?_; clear hF hA; intro w1 hA; (try simp only [uA] at hA); have hF := hA.facts; (try simp only [fZ] at hF)) | ((with_reducible refine gbx ?_); refine wB hA ?_; clear hF hA; intro b1 w1 hA hb1; (try simp only [uA] at hA); have hF := hA.facts; (try simp only [fZ] at hF)))
          go_roundg (gk - 1)
          case measure => omega
          case rel =>
            refine ⟨q + 1, by simp, by omega, fun j hj => ?_, hA.pick (by repeat (first | exact Picks.nil | refine Picks.cons (by repeat (first | exact Sel.here | apply Sel.there)) ?_))⟩
            rcases Nat.lt_succ_iff_lt_or_eq.1 hj with hj | rfl
            · exact hno'.out j hj
            · rw [hfq'.out]; omega
    · have hq : q = 7 := by omega
      subst hq
      (try simp only [uA] at hA); have hF := hA.facts; (try simp only [fZ] at hF)
      go_wp2_with (first | ((with_reducible refine gst ?_); refine wS hA ?_; clear hF hA; intro w1 hA; (try simp only [uA] at hA); have hF := hA.facts; (try simp only [fZ] at hF)) | ((with_reducible refine gbx ?_); refine wB hA ?_; clear hF hA; intro b1 w1 hA hb1; (try simp only [uA] at hA); have hF := hA.facts; (try simp only [fZ] at hF)))
      go_ret
      exact ⟨true, rfl, ⟨fun _ => hno'.out, fun _ => rfl⟩, hA.toExt⟩
def PlRel (w : World) (v : Value) (l : List I2) (x : I2) (b3 : Nat) (k : Nat) (u : Value) (wr : World) : Prop :=
  ∃ i : Nat, u = .int .i64 i ∧ i + k = l.length ∧ x ∉ l.take i ∧ At [rowI2 v l] w [Part.cells b3 [.int .i64 x.1, .int .i64 x.2] 38, rowI2 v l] wr
set_option maxRecDepth 100000 in
set_option maxHeartbeats 2000000 in
theorem place_any {w : World} {v : Value} {l : List I2} (h : Sep [rowI2 v l] w) (x : I2) (hmax : l.length ≤ 1000000) :
    Calls Try.prog 28 #[v, idV x] w (IdxPost w v l x) := by
  have hA := At.start h
  clear h
  obtain ⟨ax, cap, rfl, hax, hcap, _⟩ := hA.row_form (v := v) (xs := flatI l) (by with_reducible repeat (first | exact Sel.here | apply Sel.there))
  have hax' := Lib.hid hax
  clear hax
  obtain ⟨r1, t1⟩ := x
  simp only [idV]
  (try simp only [uA] at hA); have hF := hA.facts; (try simp only [fZ] at hF)
  go_enter Try.func28, Try.ntmps28
  go_wp2_with (first | ((with_reducible refine gbx ?_); refine wX 38 (.agg #[.int .i64 r1, .int .i64 t1]) [.int .i64 r1, .int .i64 t1] hA ?_; clear hF hA; intro b3 w1 hA hb3; (try simp only [uA] at hA); have hF := hA.facts; (try simp only [fZ] at hF)) | ((with_reducible refine gst ?_); refine wS hA ?_; clear hF hA; intro w1 hA; (try simp only [uA] at hA); have hF := hA.facts; (try simp only [fZ] at hF)) | ((with_reducible refine gbx ?_); refine wB hA ?_; clear hF hA; intro b1 w1 hA hb1; (try simp only [uA] at hA); have hF := hA.facts; (try simp only [fZ] at hF)))
  try go_frame
  go_loopg [9] l.length (PlRel w (.slice ax l.length cap) l (r1, t1) b3)
  case atStart => exact ⟨0, rfl, by simp, by simp, hA⟩
  case round =>
    obtain ⟨i, rfl, hik, hno, hB⟩ := hrel
    have hno' := Lib.hid hno
    clear hF hA hno; have hA := hB; clear hB
    by_cases hi : i < l.length
    · obtain ⟨y, hx⟩ : ∃ y, l[i]? = some y := ⟨_, List.getElem?_eq_getElem hi⟩
      have htk : l.take (i + 1) = l.take i ++ [y] := by rw [List.take_add_one, hx]; rfl
      obtain ⟨bt, offt, hax2, hce⟩ := row_elem (hA.row_reads (v := .slice ax l.length cap) (n := l.length) (xs := flatI l) (by repeat (first | exact Sel.here | apply Sel.there))) hx
      obtain ⟨r0, t0⟩ := y
      have hr2' := Lib.hid (show ∀ (k : Nat) u, ([.int .i64 r0, .int .i64 t0] : List Value)[k]? = some u → wr.cell? ⟨bt, offt + i * 2 + k, none⟩ = some u from hce)
      clear hce
      subst hax2
      obtain ⟨d, hd⟩ : ∃ d, (decide (r0 = r1) && decide (t0 = t1)) = d := ⟨_, rfl⟩
      have hd' := Lib.hid (show d = decide ((r0, t0) = (r1, t1)) from by rw [← hd, Bool.eq_iff_iff]; simp)
      have hx' := Lib.hid hx
      have htk' := Lib.hid htk
      clear hx htk
      (try simp only [uA] at hA); have hF := hA.facts; (try simp only [fZ] at hF)
      cases d
      · go_wp2_with (first | ((with_reducible refine gal ?_); refine wA 38 (.agg #[.int .i64 0, .int .i64 0]) [.int .i64 0, .int .i64 0] hA ?_; clear hF hA; intro b6 w1 hA hb6; (try simp only [uA] at hA); have hF := hA.facts; (try simp only [fZ] at hF)) | ((with_reducible show wpList _ _ _ ({ dst := some 13, op := Op.load _ _, type := _, pos := _, after := _, guard := _ } :: _) _ _); refine wpList_loadRow_at (vs := [.int .i64 r0, .int .i64 t0]) rfl rfl (by (try simp only [Act.eval, eV]) <;> exact rfl) hr2'.out (by kernel_rfl) (by kernel_rfl) ?_) | ((with_reducible refine gst ?_); refine wS hA ?_; clear hF hA; intro w1 hA; (try simp only [uA] at hA); have hF := hA.facts; (try simp only [fZ] at hF)) | ((with_reducible refine gbx ?_); refine wB hA ?_; clear hF hA; intro b1 w1 hA hb1; (try simp only [uA] at hA); have hF := hA.facts; (try simp only [fZ] at hF)))
        go_roundg (gk - 1)
        case measure => omega
        case rel =>
          refine ⟨i + 1, by simp, by omega, ?_, hA.pick (by repeat (first | exact Picks.nil | refine Picks.cons (by repeat (first | exact Sel.here | apply Sel.there)) ?_))⟩
          rw [htk'.out]
          intro hm
          rcases List.mem_append.1 hm with hm | hm
          · exact hno'.out hm
          · exact of_decide_eq_false hd'.out.symm (List.mem_singleton.1 hm).symm
      · go_wp2_with (first | ((with_reducible refine gal ?_); refine wA 38 (.agg #[.int .i64 0, .int .i64 0]) [.int .i64 0, .int .i64 0] hA ?_; clear hF hA; intro b6 w1 hA hb6; (try simp only [uA] at hA); have hF := hA.facts; (try simp only [fZ] at hF)) | ((with_reducible show wpList _ _ _ ({ dst := some 13, op := Op.load _ _, type := _, pos := _, after := _, guard := _ } :: _) _ _); refine wpList_loadRow_at (vs := [.int .i64 r0, .int .i64 t0]) rfl rfl (by (try simp only [Act.eval, eV]) <;> exact rfl) hr2'.out (by kernel_rfl) (by kernel_rfl) ?_) | ((with_reducible refine gst ?_); refine wS hA ?_; clear hF hA; intro w1 hA; (try simp only [uA] at hA); have hF := hA.facts; (try simp only [fZ] at hF)) | ((with_reducible refine gbx ?_); refine wB hA ?_; clear hF hA; intro b1 w1 hA hb1; (try simp only [uA] at hA); have hF := hA.facts; (try simp only [fZ] at hF)))
        go_ret
        have e0 := of_decide_eq_true hd'.out.symm
        have hx0 := hx'.out
        rw [e0] at hx0
        exact ⟨by rw [idxI_at hx0 hno'.out]; rfl, hA.only1 (by repeat (first | exact Sel.here | apply Sel.there))⟩
    · have hF := hA.facts
      (try simp only [uA] at hA); have hF := hA.facts; (try simp only [fZ] at hF)
      go_wp2_with (first | ((with_reducible refine gst ?_); refine wS hA ?_; clear hF hA; intro w1 hA; (try simp only [uA] at hA); have hF := hA.facts; (try simp only [fZ] at hF)) | ((with_reducible refine gbx ?_); refine wB hA ?_; clear hF hA; intro b1 w1 hA hb1; (try simp only [uA] at hA); have hF := hA.facts; (try simp only [fZ] at hF)))
      go_ret
      have hno2 := hno'.out
      rw [List.take_of_length_le (by omega)] at hno2
      exact ⟨by rw [idxI_no hno2]; rfl, hA.only1 (by repeat (first | exact Sel.here | apply Sel.there))⟩
end Go.Proofs.Ytgicohkmfbbbdaa.Gr
end

section
namespace Go.Proofs.Ytgicohkmfbbbdaa.Gr
open _root_.Go.Proofs.Ytgicohkmfbbbdaa.Mark (ltID sortID)
open _root_.Go.Proofs.Ytgicohkmfbbbdaa.Attr (guardI eqlI_any neqI_any guardJ eqlJ_any guardF eqlF_any eq7)
open Go.RowKit
open Attr (A8 thro)
set_option linter.unusedSimpArgs false
set_option linter.unusedVariables false
attribute [-go_sem] run_eql_struct run_neq_struct run_eqGuard_agg
attribute [local go_sem] guardI eqlI_any guardF eqlF_any

def aA : A8 := ⟨2, 0, 1, 0, 0, 0, 0, 0⟩
def bA : A8 := ⟨1, 1, 0, 0, 0, 0, 0, 0⟩
def esA : List (I2 × A8) := [((0, 0), aA), ((1, 0), bA)]
def fA0 : F7 := ⟨0, 0, 0, 0, 0, 0, 0⟩
def lA : List I2 := [(0, 0), (1, 0)]
theorem getA_A {x : I2} (h0 : x ≠ (0, 0)) (h1 : x ≠ (1, 0)) : getA esA x = none := by
  rw [getA_isNone]
  simp [esA]
  exact ⟨h0, h1⟩
theorem leads0 : leadsG esA fA0 (0, 0) = [(1, 0)] := by decide
theorem leads1 : leadsG esA fA0 (1, 0) = [(0, 0)] := by decide
theorem RI_A {x : I2} (h : RI esA fA0 (0, 0) x) : x = (0, 0) ∨ x = (1, 0) := by
  induction h with
  | refl => exact .inl rfl
  | step _ hy ih =>
    rcases ih with rfl | rfl
    · rw [leads0] at hy; exact .inr (List.mem_singleton.1 hy)
    · rw [leads1] at hy; exact .inl (List.mem_singleton.1 hy)
theorem firstA : FirstIs esA fA0 (some lA) := by
  refine ⟨0, by decide, nofun, by decide, by simp [lA, ltID], fun x => ⟨fun hx => ?_, fun hx => ?_⟩, fun x hx => ?_⟩
  · simp only [lA, List.mem_cons, List.not_mem_nil, or_false] at hx
    rcases hx with rfl | rfl
    · exact .refl
    · exact .step .refl (by show _ ∈ leadsG esA fA0 (0, 0); rw [leads0]; simp)
  · rcases RI_A hx with rfl | rfl <;> simp [lA]
  · simp only [lA, List.mem_cons, List.not_mem_nil, or_false] at hx
    rcases hx with rfl | rfl <;> decide
theorem endA : FirstIs esA (upF fA0 lA) none := by
  intro k hk
  refine .inr ⟨_, .refl, ?_⟩
  rcases (show k = 0 ∨ k = 1 ∨ k = 2 ∨ k = 3 ∨ k = 4 ∨ k = 5 ∨ k = 6 by omega) with rfl | rfl | rfl | rfl | rfl | rfl | rfl <;> exact getA_A (by decide) (by decide)
theorem ordA : ordG esA fA0 lA = [(1, 0), (0, 0)] := by
  have h0 : nxL esA fA0 lA 0 = [1] := by decide
  have h1 : nxL esA fA0 lA 1 = [0] := by decide
  have hr : ∀ i k, i < 2 → k < 2 → Tar.R (nxL esA fA0 lA) i k := by
    intro i k hi hk
    have r01 : Tar.R (nxL esA fA0 lA) 0 1 := .one (by rw [h0]; simp)
    have r10 : Tar.R (nxL esA fA0 lA) 1 0 := .one (by rw [h1]; simp)
    rcases (show i = 0 ∨ i = 1 by omega) with rfl | rfl <;> rcases (show k = 0 ∨ k = 1 by omega) with rfl | rfl
    · exact .refl _
    · exact r01
    · exact r10
    · exact .refl _
  have e : ordN esA fA0 lA = Tar.ordD 2 (fun _ _ => true) (sqE (enL esA lA)) 2 fun _ => false :=
    (Tar.ordD_R (fun x _ y hy => nxL_lt hy) (fun i k hi hk => by simp [hr i k hi hk]) (sqE (enL esA lA)) 2 (fun _ => false) (fun _ => false) fun _ _ => rfl).symm
  unfold ordG
  rw [e]
  decide
theorem runA : RunR esA fA0 [(1, 0), (0, 0)] ⟨1, 1, 0, 0, 0, 0, 0⟩ := by
  have h := RunR.go firstA (.stop endA)
  rw [ordA] at h
  exact h
theorem ownA : Own esA := by
  refine ⟨by simp [Uq, esA], fun x a h q hq => ?_, fun e he => ?_⟩
  · have := getA_mem h
    simp only [esA, List.mem_cons, List.not_mem_nil, or_false, Prod.mk.injEq] at this
    rcases this with ⟨_, rfl⟩ | ⟨_, rfl⟩ <;>
    rcases (show q = 0 ∨ q = 1 ∨ q = 2 ∨ q = 3 ∨ q = 4 ∨ q = 5 ∨ q = 6 by omega) with rfl | rfl | rfl | rfl | rfl | rfl | rfl <;> decide
  · simp only [esA, List.mem_cons, List.not_mem_nil, or_false] at he
    rcases he with rfl | rfl <;> (show 0 ≤ _ ∧ _; decide)
theorem addA : addG [] (0, 0) aA = ([((0, 0), aA)], 0) := by decide
theorem addB : addG [((0, 0), aA)] (1, 0) bA = (esA, 0) := by decide
def AnchorPost (w : World) (e : Ending) (w' : World) : Prop := e = .returned (.bool true) ∧ Ext w w'
set_option maxRecDepth 100000 in
set_option maxHeartbeats 4000000 in
theorem anchor_any (w : World) : Calls Try.prog 9 #[] w (AnchorPost w) := by
  have hA : At [] w [] w := At.start (L0 := []) trivial
  (try simp only [uA] at hA); have hF := hA.facts; (try simp only [fZ] at hF)
  go_enter Try.func9, Try.ntmps9
  go_wp2_with fail
  refine (new_any _).mono ?_
  rintro e w1 ⟨p, m, rfl, hT⟩
  have hB := hA.call0 hT
  clear hF hA hT; have hA := hB; clear hB
  simp only [List.cons_append, List.nil_append] at hA
  (try simp only [uA] at hA); have hF := hA.facts; (try simp only [fZ] at hF)
  go_wp2_with (first | (((with_reducible show wpList _ _ _ ({ dst := some 2, op := Op.alloc _, type := _, pos := _, after := _, guard := _ } :: _) _ _)); ((with_reducible refine gal ?_); refine wA 38 (.agg #[.int .i64 0, .int .i64 0]) [.int .i64 0, .int .i64 0] hA ?_; clear hF hA; intro b2 w1 hA hb2; (try simp only [uA] at hA); have hF := hA.facts; (try simp only [fZ] at hF))) | (((with_reducible show wpList _ _ _ ({ dst := some 3, op := Op.alloc _, type := _, pos := _, after := _, guard := _ } :: _) _ _)); ((with_reducible refine gal ?_); refine wA 38 (.agg #[.int .i64 0, .int .i64 0]) [.int .i64 0, .int .i64 0] hA ?_; clear hF hA; intro b3 w1 hA hb3; (try simp only [uA] at hA); have hF := hA.facts; (try simp only [fZ] at hF))) | ((with_reducible refine gst ?_); refine wS hA ?_; clear hF hA; intro w1 hA; (try simp only [uA] at hA); have hF := hA.facts; (try simp only [fZ] at hF)) | ((with_reducible refine gbx ?_); refine wB hA ?_; clear hF hA; intro b1 w1 hA hb1; (try simp only [uA] at hA); have hF := hA.facts; (try simp only [fZ] at hF)))
  refine (add_any (hA.sep1 (A := GrP p m []) (by repeat (first | exact Sel.here | apply Sel.there))) (0, 0) (by unfold okD okI; simp) aA).mono ?_
  rintro e w2 ⟨rfl, hT⟩
  rw [addA] at hT
  have hB := hA.call1 (A := GrP p m []) (by repeat (first | exact Sel.here | apply Sel.there)) hT
  clear hF hA hT; have hA := hB; clear hB
  simp only [List.cons_append, List.nil_append] at hA
  (try simp only [uA] at hA); have hF := hA.facts; (try simp only [fZ] at hF)
  go_wp2_with (first | ((with_reducible refine gst ?_); refine wS hA ?_; clear hF hA; intro w1 hA; (try simp only [uA] at hA); have hF := hA.facts; (try simp only [fZ] at hF)) | ((with_reducible refine gbx ?_); refine wB hA ?_; clear hF hA; intro b1 w1 hA hb1; (try simp only [uA] at hA); have hF := hA.facts; (try simp only [fZ] at hF)))
  refine (add_any (hA.sep1 (A := GrP p m [((0, 0), aA)]) (by repeat (first | exact Sel.here | apply Sel.there))) (1, 0) (by unfold okD okI; simp) bA).mono ?_
  rintro e w3 ⟨rfl, hT⟩
  rw [addB] at hT
  have hB := hA.call1 (A := GrP p m [((0, 0), aA)]) (by repeat (first | exact Sel.here | apply Sel.there)) hT
  clear hF hA hT; have hA := hB; clear hB
  simp only [List.cons_append, List.nil_append] at hA
  (try simp only [uA] at hA); have hF := hA.facts; (try simp only [fZ] at hF)
  rw [addA, addB]
  go_wp2_with (first | ((with_reducible refine gst ?_); refine wS hA ?_; clear hF hA; intro w1 hA; (try simp only [uA] at hA); have hF := hA.facts; (try simp only [fZ] at hF)) | ((with_reducible refine gbx ?_); refine wB hA ?_; clear hF hA; intro b1 w1 hA hb1; (try simp only [uA] at hA); have hF := hA.facts; (try simp only [fZ] at hF)))
  refine (grun_any (hA.sep1 (A := GrP p m esA) (by repeat (first | exact Sel.here | apply Sel.there))) fA0 (fun q hq => by rcases (show q = 0 ∨ q = 1 ∨ q = 2 ∨ q = 3 ∨ q = 4 ∨ q = 5 ∨ q = 6 by omega) with rfl | rfl | rfl | rfl | rfl | rfl | rfl <;> decide) ownA (by decide)).mono ?_
  rintro e w4 ⟨u, r, g, rfl, hrn, _, _, hT⟩
  obtain ⟨rfl, rfl⟩ := run_one hrn runA
  have hB := hA.call1 (A := GrP p m esA) (by repeat (first | exact Sel.here | apply Sel.there)) hT
  clear hF hA hT; have hA := hB; clear hB
  simp only [List.cons_append, List.nil_append] at hA
  (try simp only [uA] at hA); have hF := hA.facts; (try simp only [fZ] at hF)
  obtain ⟨ax, cap, hv, _, hcap, _⟩ := hA.row_form .here
  subst hv
  obtain ⟨g, c, hax, _, hcm, hcl, hct, hB⟩ := hA.row_open (e := 38) (size := 2) (ax := ax) (cap := cap) (n := [((1 : Int), (0 : Int)), (0, 0)].length) (xs := flatI [(1, 0), (0, 0)]) .here (by decide)
  subst hax
  clear hF hA hrn; have hA := hB; clear hB
  have hct : c.take 4 = [.int .i64 1, .int .i64 0, .int .i64 0, .int .i64 0] := hct
  have he0 : (c.drop 0).take 2 = [.int .i64 1, .int .i64 0] := by
    have := congrArg (List.take 2) hct
    rw [List.take_take] at this
    exact this
  have he1 : (c.drop 2).take 2 = [.int .i64 0, .int .i64 0] := by
    have := congrArg (List.drop 2) hct
    simpa [List.drop_take] using this
  have hct' := Lib.hid hct
  clear hct
  (try simp only [uA] at hA); have hF := hA.facts; (try simp only [fZ] at hF)
  simp only [F7.val]
  go_wp2_with (first | (((with_reducible show wpList _ _ _ ({ dst := some 7, op := Op.alloc _, type := _, pos := _, after := _, guard := _ } :: _) _ _)); ((with_reducible refine gal ?_); refine wA 24 (.agg #[.int .i64 0, .int .i64 0, .int .i64 0, .int .i64 0, .int .i64 0, .int .i64 0, .int .i64 0]) [.int .i64 0, .int .i64 0, .int .i64 0, .int .i64 0, .int .i64 0, .int .i64 0, .int .i64 0] hA ?_; clear hF hA; intro b7 w1 hA hb7; (try simp only [uA] at hA); have hF := hA.facts; (try simp only [fZ] at hF))) | ((with_reducible refine gst ?_); refine wS hA ?_; clear hF hA; intro w1 hA; (try simp only [uA] at hA); have hF := hA.facts; (try simp only [fZ] at hF)) | ((with_reducible refine gbx ?_); refine wB hA ?_; clear hF hA; intro b1 w1 hA hb1; (try simp only [uA] at hA); have hF := hA.facts; (try simp only [fZ] at hF)))
  try go_frame
  (refine wp_region_all (Cl _ _ _) (by kernel_rfl) (by kernel_rfl) (Cl.drew hA) ?_); (have hn1 := Cl.none hA); (have hn2 := Cl.none2 hA); (repeat (first | go_big_quiet_skip | (go_big_quiet_want; (first | (refine quiet_loads_at (ty := 38) (n := 2) rfl rfl (by with_reducible repeat (first | exact Sel.here | apply Sel.there)) (by kernel_rfl) (by kernel_rfl) (by first | assumption | ((try simp only [List.drop_succ_cons, List.drop_zero, List.take_succ_cons, List.take_zero]) <;> exact rfl)) (by exact rfl) ?_; go_frame; go_big_quiet_on) | (refine quiet_loads_at (ty := 24) (n := 7) rfl rfl (by with_reducible repeat (first | exact Sel.here | apply Sel.there)) (by kernel_rfl) (by kernel_rfl) (by first | assumption | ((try simp only [List.drop_succ_cons, List.drop_zero, List.take_succ_cons, List.take_zero]) <;> exact rfl)) (by exact rfl) ?_; go_frame; go_big_quiet_on) | (refine quiet_load_at rfl rfl (by with_reducible repeat (first | exact Sel.here | apply Sel.there)) (by kernel_rfl) (by first | assumption | exact rfl) ?_; go_frame; go_big_quiet_on) | (go_big_quiet_op; (first | go_big_quiet_on | ((apply Exists.intro); (refine ⟨fun w1 hw => ?_, ?_⟩); (focus ((have hw := Cl.out hw); (fail))); (go_big_quiet_on))))))))
  (refine wpQuiet_nil ?_); (intro w1 hB); (clear hF hA hn1 hn2); (have hA := Cl.out hB); (clear hB); (try simp only [uA] at hA); have hF := hA.facts; (try simp only [fZ] at hF)
  go_wp2_with (first | ((with_reducible refine gst ?_); refine wS hA ?_; clear hF hA; intro w1 hA; (try simp only [uA] at hA); have hF := hA.facts; (try simp only [fZ] at hF)) | ((with_reducible refine gbx ?_); refine wB hA ?_; clear hF hA; intro b1 w1 hA hb1; (try simp only [uA] at hA); have hF := hA.facts; (try simp only [fZ] at hF)))
  go_ret
  exact ⟨rfl, hA.toExt⟩
end Go.Proofs.Ytgicohkmfbbbdaa.Gr
end
