/- GrbR, GrbT, joined. -/
import Derived.Test.YtgicohkmfbbbdaaK30
import Derived.Test.YtgicohkmfbbbdaaK17
import Derived.Test.YtgicohkmfbbbdaaK35
import Derived.Test.YtgicohkmfbbbdaaK21
import Derived.Deep.CutBlock
import Derived.Deep.CutRange
import Derived.Test.YtgicohkmfbbbdaaK5
import Derived.Test.YtgicohkmfbbbdaaK27
section
namespace Go.Proofs.Ytgicohkmfbbbdaa.Gr
open _root_.Go.Proofs.Ytgicohkmfbbbdaa.Mark (ltID sortID cmpID)
open _root_.Go.Proofs.Ytgicohkmfbbbdaa.Attr (rightI rightI_iff guardI eqlI_any neqI_any guardJ eqlJ_any neqJ_any guardF eqlF_any neqF_any eq7)
open _root_.Go.Proofs.Ytgicohkmfbbbdaa.Ref (rowD flatD cellsD cellsD_len elemD IA findD find_any rowJ rowJ_snoc infoJ sortedD sortedD_len sortedD_get sortedD_own sortedD_sorted leadsN_any LnPost)
open Go.RowKit
open Attr (A8 thro)
set_option linter.unusedSimpArgs false
set_option linter.unusedVariables false
attribute [-go_sem] run_eql_struct run_neq_struct run_eqGuard_agg
attribute [local go_sem] guardI eqlI_any neqI_any guardJ eqlJ_any neqJ_any guardF eqlF_any neqF_any
section
variable {P : Program} {ops : Array Oper} {rest : List Oper} {o : Oper} {a : Act} {Q : Exit → Act → World → Prop} {w : World}
theorem run_load_held {ty : TypeId} {x : Operand} (hop : o.op = .load ty x) {b j : Nat} (hx : a.eval x = .pointer (some ⟨b, j, none⟩)) {vs : List Value} (hc : ∀ (k : Nat) u, vs[k]? = some u → w.cell? ⟨b, j + k, none⟩ = some u)
    (hu : (P.underlying ty).map (·.isRow) = some true) (hi : (P.info? ty).map (·.size) = some vs.length) : (execOp a.eval o).run P w = .ok (.value (.agg vs.toArray)) w := by
  obtain ⟨d, hu, hd⟩ := Option.map_eq_some_iff.1 hu
  simp [execOp, hop, hx, run_loadAt_mid w b j ty vs d hc hu hd hi, Result.andThen]
theorem wpList_loadOne_at {ty : TypeId} {x : Operand} (hg : o.guard = none) (hop : o.op = .load ty x) {b j : Nat} (hx : a.eval x = .pointer (some ⟨b, j, none⟩)) {v : Value} (hc : w.cell? ⟨b, j, none⟩ = some v) (hu : (P.underlying ty).map (·.isRow) = some false)
    (hK : wpList P ops Q rest (a.put o.dst v) w) : wpList P ops Q (o :: rest) a w := by
  refine wpList_val hg (w' := w) ?_ hK
  obtain ⟨d, hu, hd⟩ := Option.map_eq_some_iff.1 hu
  have hagg : (isAgg ty).run P w = .ok false w := by
    unfold isAgg
    rw [Sem.run_bind, run_underlying hu w]
    cases d <;> simp_all
  simp [execOp, hop, hx, Instr.loadAt, Instr.sureAddr, loadVar, Sem.run_bind, hagg, Result.andThen, run_load, hc]
end
theorem reads_held {R : Part} {b0 off0 cap i : Nat} {l : List IA} {x : IA} (h : ReadsD R (.slice (some ⟨b0, off0, none⟩) l.length cap) l) (hx : l[i]? = some x) : ∀ w, R.holds w → ∀ (k : Nat) u, (cellsD x)[k]? = some u → w.cell? ⟨b0, off0 + i * 10 + k, none⟩ = some u := by
  intro w hw k u hu
  obtain ⟨b, off, e, hc⟩ := row_elemG cellsD_len (by omega) (h w hw) hx
  cases e
  exact hc k u hu
/-- numbers that are read -/
def ReadsI (R : Part) (v : Value) (xs : List Int) : Prop := ∀ w, R.holds w → Reads w v xs.length (xs.map (Value.int .i64))
def PyRel (w : World) (R : Part) (p m b6 : Nat) (l : List IA) (xs : List Int) (k : Nat) (u15 u7 : Value) (wr : World) : Prop :=
  ∃ (i : Nat) (es : List IA) (f : F7) (out : List I2), u15 = .int .i64 i ∧ i + k = xs.length ∧ Pl (fun x a => (x, a) ∈ l) es f out ∧ At [R] w [rowI2 u7 out, GrP p m es, Part.cells b6 [.int .i64 f.f0, .int .i64 f.f1, .int .i64 f.f2, .int .i64 f.f3, .int .i64 f.f4, .int .i64 f.f5, .int .i64 f.f6] 24, R] wr
def PyPost (R : Part) (l : List IA) (w : World) (e : Ending) (w' : World) : Prop :=
  ∃ v es f out, e = .returned v ∧ Pl (fun x a => (x, a) ∈ l) es f out ∧ At [R] w [rowI2 v out, R] w'
set_option maxRecDepth 100000 in
set_option maxHeartbeats 8000000 in
theorem played_any {w : World} {R : Part} {v ov : Value} {l : List IA} {xs : List Int} (h : Sep [R] w) (hr : ReadsD R v l) (hl : l.length ≤ 1000) (hok : ∀ n ∈ l, okD n.1) (hx : ReadsI R ov xs) (hxl : xs.length ≤ 1000) :
    Calls Try.prog 27 #[v, ov] w (PyPost R l w) := by
  have hm : Try.prog.follows .mixedOrders = true := by kernel_rfl
  obtain ⟨i0, hi0, hz0, hz1, hz2⟩ := info_parts infoI
  have hA := At.start h
  have hr' := Lib.hid hr
  have hok' := Lib.hid hok
  have hx' := Lib.hid hx
  clear h hr hok hx
  obtain ⟨ax, cap, rfl, _, _⟩ := hr'.out w (hA.get (A := R) .here)
  obtain ⟨ay, cay, rfl, _, _⟩ := hx'.out w (hA.get (A := R) .here)
  (try simp only [uA] at hA); have hF := hA.facts; (try simp only [fZ] at hF)
  go_enter Try.func27, Try.ntmps27
  go_wp2_with (first | ((with_reducible refine gst ?_); refine wS hA ?_; clear hF hA; intro w1 hA; (try simp only [uA] at hA); have hF := hA.facts; (try simp only [fZ] at hF)) | ((with_reducible refine gbx ?_); refine wB hA ?_; clear hF hA; intro b1 w1 hA hb1; (try simp only [uA] at hA); have hF := hA.facts; (try simp only [fZ] at hF)))
  refine (new_any _).mono ?_
  rintro e w1 ⟨p, m, rfl, hT⟩
  have hB := hA.call0   hT
  clear hT
  clear hF hA; have hA := hB; clear hB
  try simp only [List.cons_append, List.nil_append] at hA
  (try simp only [uA] at hA); have hF := hA.facts; (try simp only [fZ] at hF)
  go_wp2_with (first | ((with_reducible refine gal ?_); refine wA 24 (.agg #[.int .i64 0, .int .i64 0, .int .i64 0, .int .i64 0, .int .i64 0, .int .i64 0, .int .i64 0]) [.int .i64 0, .int .i64 0, .int .i64 0, .int .i64 0, .int .i64 0, .int .i64 0, .int .i64 0] hA ?_; clear hF hA; intro b6 w1 hA hb6; (try simp only [uA] at hA); have hF := hA.facts; (try simp only [fZ] at hF)) | ((with_reducible refine gst ?_); refine wS hA ?_; clear hF hA; intro w1 hA; (try simp only [uA] at hA); have hF := hA.facts; (try simp only [fZ] at hF)) | ((with_reducible refine gbx ?_); refine wB hA ?_; clear hF hA; intro b1 w1 hA hb1; (try simp only [uA] at hA); have hF := hA.facts; (try simp only [fZ] at hF)))
  try go_frame
  have hB : At [R] w [rowI2 (.slice none 0 0) [], GrP p m [], Part.cells b6 [.int .i64 f0F.f0, .int .i64 f0F.f1, .int .i64 f0F.f2, .int .i64 f0F.f3, .int .i64 f0F.f4, .int .i64 f0F.f5, .int .i64 f0F.f6] 24, R] _ := (hA.row_nil 38 2).pick (by repeat (first | exact Picks.nil | refine Picks.cons (by repeat (first | exact Sel.here | apply Sel.there)) ?_))
  clear hF hA
  go_loopg [15, 7] xs.length (PyRel w R p m b6 l xs)
  case atStart => exact ⟨0, [], f0F, [], rfl, by omega, Pl.start _, hB⟩
  case round =>
    obtain ⟨i, es, f, out, rfl, hik, hpl, hA⟩ := hrel
    have hpl' := Lib.hid hpl
    obtain ⟨hel, hol⟩ := hpl.len
    clear hB hpl
    by_cases hi : i < xs.length
    · obtain ⟨z, hz⟩ : ∃ z, xs[i]? = some z := ⟨_, List.getElem?_eq_getElem hi⟩
      obtain ⟨axq, cq, hvq, _, hrq⟩ := hx'.out _ (hA.get (A := R) (by repeat (first | exact Sel.here | apply Sel.there)))
      cases hvq
      obtain ⟨bt, offt, rfl, hcz⟩ := hrq i (.int .i64 z) (by rw [List.getElem?_map, hz]; rfl)
      have hcz' := Lib.hid hcz
      clear hrq hcz hz
      have hiI : (i : Int) < xs.length := by omega
      obtain ⟨axo, capo, hvo, _, hcpo, _⟩ := hA.row_form (e := 38) (size := 2) (n := out.length) (v := u7) (xs := flatI out) .here
      subst hvo
      by_cases hzn : z < 0
      · have hF := hA.facts
        (try simp only [uA] at hA); have hF := hA.facts; (try simp only [fZ] at hF)
        go_wp2_with (first | ((with_reducible show wpList _ _ _ ({ dst := some 18, op := Op.load _ _, type := _, pos := _, after := _, guard := _ } :: _) _ _); refine wpList_loadOne_at rfl rfl (by (try simp only [Act.eval, eV]) <;> exact rfl) hcz'.out (by kernel_rfl) ?_) | ((with_reducible refine gst ?_); refine wS hA ?_; clear hF hA; intro w1 hA; (try simp only [uA] at hA); have hF := hA.facts; (try simp only [fZ] at hF)) | ((with_reducible refine gbx ?_); refine wB hA ?_; clear hF hA; intro b1 w1 hA hb1; (try simp only [uA] at hA); have hF := hA.facts; (try simp only [fZ] at hF)))
        go_roundg (gk - 1)
        case measure => omega
        case rel => exact ⟨i + 1, es, f, out, by simp, by omega, hpl'.out, hA.pick (by repeat (first | exact Picks.nil | refine Picks.cons (by repeat (first | exact Sel.here | apply Sel.there)) ?_))⟩
      · by_cases hzl : (l.length : Int) ≤ z
        · have hF := hA.facts
          (try simp only [uA] at hA); have hF := hA.facts; (try simp only [fZ] at hF)
          go_wp2_with (first | ((with_reducible show wpList _ _ _ ({ dst := some 18, op := Op.load _ _, type := _, pos := _, after := _, guard := _ } :: _) _ _); refine wpList_loadOne_at rfl rfl (by (try simp only [Act.eval, eV]) <;> exact rfl) hcz'.out (by kernel_rfl) ?_) | ((with_reducible refine gst ?_); refine wS hA ?_; clear hF hA; intro w1 hA; (try simp only [uA] at hA); have hF := hA.facts; (try simp only [fZ] at hF)) | ((with_reducible refine gbx ?_); refine wB hA ?_; clear hF hA; intro b1 w1 hA hb1; (try simp only [uA] at hA); have hF := hA.facts; (try simp only [fZ] at hF)))
          go_roundg (gk - 1)
          case measure => omega
          case rel => exact ⟨i + 1, es, f, out, by simp, by omega, hpl'.out, hA.pick (by repeat (first | exact Picks.nil | refine Picks.cons (by repeat (first | exact Sel.here | apply Sel.there)) ?_))⟩
        · obtain ⟨q, rfl⟩ : ∃ q : Nat, z = q := ⟨z.toNat, by omega⟩
          have hql : q < l.length := by omega
          obtain ⟨e, hlx⟩ : ∃ e, l[q]? = some e := ⟨_, List.getElem?_eq_getElem hql⟩
          have hek := hok'.out e (List.mem_of_getElem? hlx)
          obtain ⟨b0, off0, hax2, _⟩ := row_elemG cellsD_len (by omega) (hr'.out _ (hA.get (A := R) (by repeat (first | exact Sel.here | apply Sel.there)))) hlx
          subst hax2
          have hrd := reads_held hr'.out hlx
          have hpa := Lib.hid (hpl'.out.add e.1 e.2 (List.mem_of_getElem? hlx))
          clear hlx
          obtain ⟨⟨r, t⟩, s, d0, d1, d2, d3, d4, d5, d6⟩ := e
          have hrd' := Lib.hid (show ∀ w, R.holds w → ∀ (k : Nat) u, ([.int .i64 r, .int .i64 t, .int .i64 s, .int .i64 d0, .int .i64 d1, .int .i64 d2, .int .i64 d3, .int .i64 d4, .int .i64 d5, .int .i64 d6] : List Value)[k]? = some u → w.cell? ⟨b0, off0 + q * 10 + k, none⟩ = some u from hrd)
          clear hrd
          (try simp only [uA] at hA); have hF := hA.facts; (try simp only [fZ] at hF)
          go_upto_region 8 with (first | ((with_reducible show wpList _ _ _ ({ dst := some 18, op := Op.load _ _, type := _, pos := _, after := _, guard := _ } :: _) _ _); refine wpList_loadOne_at rfl rfl (by (try simp only [Act.eval, eV]) <;> exact rfl) hcz'.out (by kernel_rfl) ?_) | ((with_reducible refine gst ?_); refine wS hA ?_; clear hF hA; intro w1 hA; (try simp only [uA] at hA); have hF := hA.facts; (try simp only [fZ] at hF)) | ((with_reducible refine gbx ?_); refine wB hA ?_; clear hF hA; intro b1 w1 hA hb1; (try simp only [uA] at hA); have hF := hA.facts; (try simp only [fZ] at hF)))
          try go_frame
          have hB := hA.drew
          clear hF hA; have hA := hB; clear hB
          refine wp_region_held (S := fun w' => ∀ (k : Nat) u, ([.int .i64 r, .int .i64 t, .int .i64 s, .int .i64 d0, .int .i64 d1, .int .i64 d2, .int .i64 d3, .int .i64 d4, .int .i64 d5, .int .i64 d6] : List Value)[k]? = some u → w'.cell? ⟨b0, off0 + q * 10 + k, none⟩ = some u) hm ?_
          change wpAnyH _ _ _ _ _ 12 _ _ (World.drew _)
          generalize World.drew _ = wd at *
          have hS0 := (hrd'.out _ (hA.get (A := R) (by repeat (first | exact Sel.here | apply Sel.there))) : (fun w' => ∀ (k : Nat) u, ([.int .i64 r, .int .i64 t, .int .i64 s, .int .i64 d0, .int .i64 d1, .int .i64 d2, .int .i64 d3, .int .i64 d4, .int .i64 d5, .int .i64 d6] : List Value)[k]? = some u → w'.cell? ⟨b0, off0 + q * 10 + k, none⟩ = some u) wd)
          refine tP 0 27 (.pointer (some ⟨p, 0, none⟩)) (s := hS0) (h := ?_)
          try go_frame
          refine tP 1 28 (.slice (some ⟨b0, off0, none⟩) l.length cap) (s := hS0) (h := ?_)
          try go_frame
          refine tP 2 29 (.int .i64 (q : Int)) (s := hS0) (h := ?_)
          try go_frame
          refine tZ 3 30 (.pointer (some ⟨b0, off0 + q * 10, none⟩)) (r := (fun w' hS => by simp [execOp, go_sem, Act.eval, Act.put]; omega)) (s := hS0) (h := ?_)
          try go_frame
          refine tP 4 31 (.pointer (some ⟨b0, off0 + q * 10, none⟩)) (s := hS0) (h := ?_)
          try go_frame
          refine tZ 5 32 (.agg #[.int .i64 r, .int .i64 t]) (r := (fun w' hS => run_load_held (ty := 38) (vs := [.int .i64 r, .int .i64 t]) rfl (by exact rfl) (fun k u h => hS k u (by rcases k with _ | _ | k <;> first | exact h | simp at h)) (by kernel_rfl) (by kernel_rfl))) (s := hS0) (h := ?_)
          try go_frame
          refine tP 6 33 (.slice (some ⟨b0, off0, none⟩) l.length cap) (s := hS0) (h := ?_)
          try go_frame
          refine tP 7 34 (.int .i64 (q : Int)) (s := hS0) (h := ?_)
          try go_frame
          refine tZ 8 35 (.pointer (some ⟨b0, off0 + q * 10, none⟩)) (r := (fun w' hS => by simp [execOp, go_sem, Act.eval, Act.put]; omega)) (s := hS0) (h := ?_)
          try go_frame
          refine tP 9 36 (.pointer (some ⟨b0, off0 + q * 10 + 2, none⟩)) (s := hS0) (h := ?_)
          try go_frame
          refine tZ 10 37 (.agg #[.int .i64 s, .int .i64 d0, .int .i64 d1, .int .i64 d2, .int .i64 d3, .int .i64 d4, .int .i64 d5, .int .i64 d6]) (r := (fun w' hS => run_load_held (ty := 65) (vs := [.int .i64 s, .int .i64 d0, .int .i64 d1, .int .i64 d2, .int .i64 d3, .int .i64 d4, .int .i64 d5, .int .i64 d6]) rfl (by exact rfl) (fun k u h => by rw [Nat.add_assoc]; exact hS (2 + k) u (by rw [Nat.add_comm]; exact h)) (by kernel_rfl) (by kernel_rfl))) (s := hS0) (h := ?_)
          try go_frame
          refine wpAnyH_one (i := 11) (by kernel_rfl) ?_
          refine opCall_at (i := 11) (d := some 38) (R := fun u w' => At [GrP p m es] wd [GrP p m (addG es (r, t) (⟨s, d0, d1, d2, d3, d4, d5, d6⟩ : A8)).1] w') rfl rfl (by kernel_rfl) (fn := 36) (args := #[.pointer (some ⟨p, 0, none⟩), .agg #[.int .i64 r, .int .i64 t], .agg #[.int .i64 s, .int .i64 d0, .int .i64 d1, .int .i64 d2, .int .i64 d3, .int .i64 d4, .int .i64 d5, .int .i64 d6]]) (by simp [execOp, go_sem, Act.eval, Act.put]) ((add_any (hA.sep1 (A := GrP p m es) (by repeat (first | exact Sel.here | apply Sel.there))) (r, t) hek (⟨s, d0, d1, d2, d3, d4, d5, d6⟩ : A8)).mono fun e w' ⟨he, hT⟩ => ⟨_, he, hT⟩) ?_
          intro vq w3 hT
          have hB := hA.call1 (A := GrP p m es) (by repeat (first | exact Sel.here | apply Sel.there)) hT
          clear hT
          simp only [List.cons_append, List.nil_append] at hB
          have hS0 := (hrd'.out _ (hB.get (A := R) (by repeat (first | exact Sel.here | apply Sel.there))) : (fun w' => ∀ (k : Nat) u, ([.int .i64 r, .int .i64 t, .int .i64 s, .int .i64 d0, .int .i64 d1, .int .i64 d2, .int .i64 d3, .int .i64 d4, .int .i64 d5, .int .i64 d6] : List Value)[k]? = some u → w'.cell? ⟨b0, off0 + q * 10 + k, none⟩ = some u) w3)
          clear hA; have hA := hB; clear hB
          refine ⟨hS0, ?_⟩
          try go_frame
          refine wpAnyH_done (by kernel_rfl) ?_ _
          try go_frame
          clear hS0
          generalize hes2 : (addG es (r, t) (⟨s, d0, d1, d2, d3, d4, d5, d6⟩ : A8)).1 = es2 at *
          have hpa2 := hpa.out
          try simp only at hpa2
          try rw [hes2] at hpa2
          obtain ⟨hel2, _⟩ := hpa2.len
          have hpa3 := Lib.hid hpa2
          clear hes2 hpa2
          (try simp only [uA] at hA); have hF := hA.facts; (try simp only [fZ] at hF)
          go_wp2_with (first | ((with_reducible refine gst ?_); refine wS hA ?_; clear hF hA; intro w1 hA; (try simp only [uA] at hA); have hF := hA.facts; (try simp only [fZ] at hF)) | ((with_reducible refine gbx ?_); refine wB hA ?_; clear hF hA; intro b1 w1 hA hb1; (try simp only [uA] at hA); have hF := hA.facts; (try simp only [fZ] at hF)))
          refine (grun_any (hA.sep1 (A := GrP p m es2) (by repeat (first | exact Sel.here | apply Sel.there))) f hpa3.out.fok hpa3.out.own (by omega)).mono ?_
          rintro e w6 ⟨gv, got, g, rfl, hrn, _, _, hT⟩
          have hB := hA.call1 (A := GrP p m es2) (by repeat (first | exact Sel.here | apply Sel.there)) hT
          clear hT
          clear hF hA; have hA := hB; clear hB
          try simp only [List.cons_append, List.nil_append] at hA
          (try simp only [uA] at hA); have hF := hA.facts; (try simp only [fZ] at hF)
          have hpr := Lib.hid (hpa3.out.run hrn)
          have hgl := hpr.out.len.2
          rw [List.length_append] at hgl
          clear hrn
          simp only [F7.val]
          (try simp only [uA] at hA); have hF := hA.facts; (try simp only [fZ] at hF)
          go_upto_region 10 with (first | ((with_reducible refine gal ?_); refine wA 24 (.agg #[.int .i64 0, .int .i64 0, .int .i64 0, .int .i64 0, .int .i64 0, .int .i64 0, .int .i64 0]) [.int .i64 0, .int .i64 0, .int .i64 0, .int .i64 0, .int .i64 0, .int .i64 0, .int .i64 0] hA ?_; clear hF hA; intro b11 w1 hA hb11; (try simp only [uA] at hA); have hF := hA.facts; (try simp only [fZ] at hF)) | ((with_reducible refine gst ?_); refine wS hA ?_; clear hF hA; intro w1 hA; (try simp only [uA] at hA); have hF := hA.facts; (try simp only [fZ] at hF)) | ((with_reducible refine gbx ?_); refine wB hA ?_; clear hF hA; intro b1 w1 hA hb1; (try simp only [uA] at hA); have hF := hA.facts; (try simp only [fZ] at hF)))
          try go_frame
          have hB := hA.drew
          clear hF hA; have hA := hB; clear hB
          refine wp_region_held (S := fun w' => BlockIs w' b11 [.int .i64 g.f0, .int .i64 g.f1, .int .i64 g.f2, .int .i64 g.f3, .int .i64 g.f4, .int .i64 g.f5, .int .i64 g.f6] 24) hm ?_
          change wpAnyH _ _ _ _ _ 6 _ _ (World.drew _)
          generalize World.drew _ = we at *
          have hS1 := (hA.get (A := Part.cells b11 [.int .i64 g.f0, .int .i64 g.f1, .int .i64 g.f2, .int .i64 g.f3, .int .i64 g.f4, .int .i64 g.f5, .int .i64 g.f6] 24) (by repeat (first | exact Sel.here | apply Sel.there)) : (fun w' => BlockIs w' b11 [.int .i64 g.f0, .int .i64 g.f1, .int .i64 g.f2, .int .i64 g.f3, .int .i64 g.f4, .int .i64 g.f5, .int .i64 g.f6] 24) we)
          refine tP 0 45 (.slice axo out.length capo) (s := hS1) (h := ?_)
          try go_frame
          refine tP 1 46 (gv) (s := hS1) (h := ?_)
          try go_frame
          refine tZ 3 48 (.agg #[.int .i64 g.f0, .int .i64 g.f1, .int .i64 g.f2, .int .i64 g.f3, .int .i64 g.f4, .int .i64 g.f5, .int .i64 g.f6]) (r := (fun w' hS => run_load_row (ty := 24) (n := 7) (b := b11) (j := 0) rfl (by exact rfl) hS (by kernel_rfl) (by kernel_rfl) rfl rfl)) (s := hS1) (h := ?_)
          try go_frame
          refine wpAnyH_one (i := 2) (by kernel_rfl) ?_
          refine opAppend_at (k := 2) (d := some 47) (e := 38) (size := 2) (v := .slice axo out.length capo) (xs := flatI out) (n := out.length) (m := got.length) (news := flatI got) rfl rfl rfl rfl _ _ 31 rfl Try.underlying31 hi0 hz0 hz1 hz2 rfl (by omega) hA (by repeat (first | exact Sel.here | apply Sel.there)) (by (try simp only [Act.eval, eV]) <;> exact rfl) (by (try simp only [Act.eval, eV]) <;> exact rfl) (flatI_len _) (hA.row_reads (v := gv) (n := got.length) (xs := flatI got) (by repeat (first | exact Sel.here | apply Sel.there))) (flatI_one _) (by unfold maxLen; omega) (by omega) ?_
          intro vp w4 hB
          rw [rowI2_app] at hB
          have hS1 := (hB.get (A := Part.cells b11 [.int .i64 g.f0, .int .i64 g.f1, .int .i64 g.f2, .int .i64 g.f3, .int .i64 g.f4, .int .i64 g.f5, .int .i64 g.f6] 24) (by repeat (first | exact Sel.here | apply Sel.there)) : (fun w' => BlockIs w' b11 [.int .i64 g.f0, .int .i64 g.f1, .int .i64 g.f2, .int .i64 g.f3, .int .i64 g.f4, .int .i64 g.f5, .int .i64 g.f6] 24) w4)
          clear hA; have hA := hB; clear hB
          refine ⟨hS1, ?_⟩
          try go_frame
          refine tP 4 7 (vp) (s := hS1) (h := ?_)
          try go_frame
          refine wpAnyH_one (i := 5) (by kernel_rfl) ?_
          refine opStore_at (i := 5) (b := b6) (j := 0) (vs := [.int .i64 g.f0, .int .i64 g.f1, .int .i64 g.f2, .int .i64 g.f3, .int .i64 g.f4, .int .i64 g.f5, .int .i64 g.f6]) rfl rfl (by kernel_rfl) rfl (by exact rfl) (by exact rfl) rfl hA (by repeat (first | exact Sel.here | apply Sel.there)) (by kernel_rfl) rfl (by show 0 + 7 ≤ 7; omega) ?_
          intro w5 hB
          simp only [uA] at hB
          have hS1 := (hB.get (A := Part.cells b11 [.int .i64 g.f0, .int .i64 g.f1, .int .i64 g.f2, .int .i64 g.f3, .int .i64 g.f4, .int .i64 g.f5, .int .i64 g.f6] 24) (by repeat (first | exact Sel.here | apply Sel.there)) : (fun w' => BlockIs w' b11 [.int .i64 g.f0, .int .i64 g.f1, .int .i64 g.f2, .int .i64 g.f3, .int .i64 g.f4, .int .i64 g.f5, .int .i64 g.f6] 24) w5)
          clear hA; have hA := hB; clear hB
          refine ⟨hS1, ?_⟩
          try go_frame
          refine wpAnyH_done (by kernel_rfl) ?_ _
          try go_frame
          clear hS1
          (try simp only [uA] at hA); have hF := hA.facts; (try simp only [fZ] at hF)
          go_wp2_with (first | ((with_reducible refine gst ?_); refine wS hA ?_; clear hF hA; intro w1 hA; (try simp only [uA] at hA); have hF := hA.facts; (try simp only [fZ] at hF)) | ((with_reducible refine gbx ?_); refine wB hA ?_; clear hF hA; intro b1 w1 hA hb1; (try simp only [uA] at hA); have hF := hA.facts; (try simp only [fZ] at hF)))
          go_roundg (gk - 1)
          case measure => omega
          case rel => exact ⟨i + 1, es2, g, out ++ got, by simp, by omega, hpr.out, hA.pick (by repeat (first | exact Picks.nil | refine Picks.cons (by repeat (first | exact Sel.here | apply Sel.there)) ?_))⟩
    · have hiI : ¬ (i : Int) < xs.length := by omega
      (try simp only [uA] at hA); have hF := hA.facts; (try simp only [fZ] at hF)
      go_wp2_with (first | ((with_reducible refine gst ?_); refine wS hA ?_; clear hF hA; intro w1 hA; (try simp only [uA] at hA); have hF := hA.facts; (try simp only [fZ] at hF)) | ((with_reducible refine gbx ?_); refine wB hA ?_; clear hF hA; intro b1 w1 hA hb1; (try simp only [uA] at hA); have hF := hA.facts; (try simp only [fZ] at hF)))
      refine bodyPost_ret (v := u7) (by simp [results, Try.results27, go_sem]) rfl ?_
      exact ⟨u7, es, f, out, rfl, hpl'.out, hA.pick (by repeat (first | exact Picks.nil | refine Picks.cons (by repeat (first | exact Sel.here | apply Sel.there)) ?_))⟩
end Go.Proofs.Ytgicohkmfbbbdaa.Gr
end

section
namespace Go.Proofs.Ytgicohkmfbbbdaa.Gr
open Go.RowKit
open _root_.Go.Proofs.Ytgicohkmfbbbdaa.Attr (A8 rightI rightI_iff idRight_any thro)
set_option linter.unusedSimpArgs false
set_option linter.unusedVariables false

def covB (a : A8) (x : I2) : Bool := rightI x.1 x.2 && decide (x.2 < a.dep x.1.toNat)
set_option maxRecDepth 100000 in
set_option maxHeartbeats 4000000 in
theorem covers_any (a : A8) (x : I2) (w : World) : Calls Try.prog 29 #[a.val, idV x] w fun e w' => e = .returned (.bool (covB a x)) ∧ Ext w w' := by
  have hA : At [] w [] w := At.start (L0 := []) trivial
  have hF := hA.facts
  obtain ⟨r, t⟩ := x
  have hri := fun w => idRight_any r t w
  unfold covB
  obtain ⟨s, d0, d1, d2, d3, d4, d5, d6⟩ := a
  cases h : rightI r t with
  | false =>
    rw [h] at hri
    clear h
    simp only [A8.val, idV, Bool.false_and] at *
    (try simp only [uA] at hA); have hF := hA.facts; (try simp only [fZ] at hF)
    go_enter Try.func29, Try.ntmps29
    go_wp2_with (first | ((with_reducible refine gbx ?_); refine wX 65 (.agg #[.int .i64 s, .int .i64 d0, .int .i64 d1, .int .i64 d2, .int .i64 d3, .int .i64 d4, .int .i64 d5, .int .i64 d6]) [.int .i64 s, .int .i64 d0, .int .i64 d1, .int .i64 d2, .int .i64 d3, .int .i64 d4, .int .i64 d5, .int .i64 d6] hA ?_; clear hF hA; intro bA w1 hA hbA; (try simp only [uA] at hA); have hF := hA.facts; (try simp only [fZ] at hF)) | ((with_reducible refine gbx ?_); refine wX 38 (.agg #[.int .i64 r, .int .i64 t]) [.int .i64 r, .int .i64 t] hA ?_; clear hF hA; intro bI w1 hA hbI; (try simp only [uA] at hA); have hF := hA.facts; (try simp only [fZ] at hF)) | ((with_reducible refine gst ?_); refine wS hA ?_; clear hF hA; intro w1 hA; (try simp only [uA] at hA); have hF := hA.facts; (try simp only [fZ] at hF)) | ((with_reducible refine gbx ?_); refine wB hA ?_; clear hF hA; intro b1 w1 hA hb1; (try simp only [uA] at hA); have hF := hA.facts; (try simp only [fZ] at hF)))
    try go_frame
    (refine wp_region_all (Cl _ _ _) (by kernel_rfl) (by kernel_rfl) (Cl.drew hA) ?_); (have hn1 := Cl.none hA); (have hn2 := Cl.none2 hA); (repeat (first | go_big_quiet_skip | (go_big_quiet_want; (first | (refine quiet_loads_at (ty := 38) (n := 2) rfl rfl (by with_reducible repeat (first | exact Sel.here | apply Sel.there)) (by kernel_rfl) (by kernel_rfl) (by first | assumption | ((try simp only [List.drop_succ_cons, List.drop_zero, List.take_succ_cons, List.take_zero]) <;> exact rfl)) (by exact rfl) ?_; go_frame; go_big_quiet_on) | (refine quiet_load_at rfl rfl (by with_reducible repeat (first | exact Sel.here | apply Sel.there)) (by kernel_rfl) (by first | assumption | exact rfl) ?_; go_frame; go_big_quiet_on) | (go_big_quiet_op; (first | go_big_quiet_on | ((apply Exists.intro); (refine ⟨fun w1 hw => ?_, ?_⟩); (focus ((have hw := Cl.out hw); (exact thro hw (hri _)))); (go_big_quiet_on))))))))
    (refine wpQuiet_nil ?_); (intro w1 hB); (clear hF hA hn1 hn2); (have hA := Cl.out hB); (clear hB); (try simp only [uA] at hA); have hF := hA.facts; (try simp only [fZ] at hF)
    go_wp2_with (first | ((with_reducible refine gst ?_); refine wS hA ?_; clear hF hA; intro w1 hA; (try simp only [uA] at hA); have hF := hA.facts; (try simp only [fZ] at hF)) | ((with_reducible refine gbx ?_); refine wB hA ?_; clear hF hA; intro b1 w1 hA hb1; (try simp only [uA] at hA); have hF := hA.facts; (try simp only [fZ] at hF)))
    go_ret
    exact ⟨rfl, hA.toExt⟩
  | true =>
    rw [h] at hri
    simp only [Bool.true_and]
    rcases (show r = 0 ∨ r = 1 ∨ r = 2 ∨ r = 3 ∨ r = 4 ∨ r = 5 ∨ r = 6 by have := rightI_iff.1 h; omega) with rfl | rfl | rfl | rfl | rfl | rfl | rfl
    · show Calls _ _ _ _ fun e w' => e = .returned (.bool (decide (t < d0))) ∧ _
      clear h
      simp only [A8.val, idV] at *
      generalize hbb : decide (t < d0) = bb at *
      (try simp only [uA] at hA); have hF := hA.facts; (try simp only [fZ] at hF)
      go_enter Try.func29, Try.ntmps29
      go_wp2_with (first | ((with_reducible refine gbx ?_); refine wX 65 (.agg #[.int .i64 s, .int .i64 d0, .int .i64 d1, .int .i64 d2, .int .i64 d3, .int .i64 d4, .int .i64 d5, .int .i64 d6]) [.int .i64 s, .int .i64 d0, .int .i64 d1, .int .i64 d2, .int .i64 d3, .int .i64 d4, .int .i64 d5, .int .i64 d6] hA ?_; clear hF hA; intro bA w1 hA hbA; (try simp only [uA] at hA); have hF := hA.facts; (try simp only [fZ] at hF)) | ((with_reducible refine gbx ?_); refine wX 38 (.agg #[.int .i64 0, .int .i64 t]) [.int .i64 0, .int .i64 t] hA ?_; clear hF hA; intro bI w1 hA hbI; (try simp only [uA] at hA); have hF := hA.facts; (try simp only [fZ] at hF)) | ((with_reducible refine gst ?_); refine wS hA ?_; clear hF hA; intro w1 hA; (try simp only [uA] at hA); have hF := hA.facts; (try simp only [fZ] at hF)) | ((with_reducible refine gbx ?_); refine wB hA ?_; clear hF hA; intro b1 w1 hA hb1; (try simp only [uA] at hA); have hF := hA.facts; (try simp only [fZ] at hF)))
      try go_frame
      (refine wp_region_all (Cl _ _ _) (by kernel_rfl) (by kernel_rfl) (Cl.drew hA) ?_); (have hn1 := Cl.none hA); (have hn2 := Cl.none2 hA); (repeat (first | go_big_quiet_skip | (go_big_quiet_want; (first | (refine quiet_loads_at (ty := 38) (n := 2) rfl rfl (by with_reducible repeat (first | exact Sel.here | apply Sel.there)) (by kernel_rfl) (by kernel_rfl) (by first | assumption | ((try simp only [List.drop_succ_cons, List.drop_zero, List.take_succ_cons, List.take_zero]) <;> exact rfl)) (by exact rfl) ?_; go_frame; go_big_quiet_on) | (refine quiet_load_at rfl rfl (by with_reducible repeat (first | exact Sel.here | apply Sel.there)) (by kernel_rfl) (by first | assumption | exact rfl) ?_; go_frame; go_big_quiet_on) | (go_big_quiet_op; (first | go_big_quiet_on | ((apply Exists.intro); (refine ⟨fun w1 hw => ?_, ?_⟩); (focus ((have hw := Cl.out hw); (exact thro hw (hri _)))); (go_big_quiet_on))))))))
      (refine wpQuiet_nil ?_); (intro w1 hB); (clear hF hA hn1 hn2); (have hA := Cl.out hB); (clear hB); (try simp only [uA] at hA); have hF := hA.facts; (try simp only [fZ] at hF)
      go_wp2_with (first | ((with_reducible refine gst ?_); refine wS hA ?_; clear hF hA; intro w1 hA; (try simp only [uA] at hA); have hF := hA.facts; (try simp only [fZ] at hF)) | ((with_reducible refine gbx ?_); refine wB hA ?_; clear hF hA; intro b1 w1 hA hb1; (try simp only [uA] at hA); have hF := hA.facts; (try simp only [fZ] at hF)))
      go_ret
      exact ⟨rfl, hA.toExt⟩
    · show Calls _ _ _ _ fun e w' => e = .returned (.bool (decide (t < d1))) ∧ _
      clear h
      simp only [A8.val, idV] at *
      generalize hbb : decide (t < d1) = bb at *
      (try simp only [uA] at hA); have hF := hA.facts; (try simp only [fZ] at hF)
      go_enter Try.func29, Try.ntmps29
      go_wp2_with (first | ((with_reducible refine gbx ?_); refine wX 65 (.agg #[.int .i64 s, .int .i64 d0, .int .i64 d1, .int .i64 d2, .int .i64 d3, .int .i64 d4, .int .i64 d5, .int .i64 d6]) [.int .i64 s, .int .i64 d0, .int .i64 d1, .int .i64 d2, .int .i64 d3, .int .i64 d4, .int .i64 d5, .int .i64 d6] hA ?_; clear hF hA; intro bA w1 hA hbA; (try simp only [uA] at hA); have hF := hA.facts; (try simp only [fZ] at hF)) | ((with_reducible refine gbx ?_); refine wX 38 (.agg #[.int .i64 1, .int .i64 t]) [.int .i64 1, .int .i64 t] hA ?_; clear hF hA; intro bI w1 hA hbI; (try simp only [uA] at hA); have hF := hA.facts; (try simp only [fZ] at hF)) | ((with_reducible refine gst ?_); refine wS hA ?_; clear hF hA; intro w1 hA; (try simp only [uA] at hA); have hF := hA.facts; (try simp only [fZ] at hF)) | ((with_reducible refine gbx ?_); refine wB hA ?_; clear hF hA; intro b1 w1 hA hb1; (try simp only [uA] at hA); have hF := hA.facts; (try simp only [fZ] at hF)))
      try go_frame
      (refine wp_region_all (Cl _ _ _) (by kernel_rfl) (by kernel_rfl) (Cl.drew hA) ?_); (have hn1 := Cl.none hA); (have hn2 := Cl.none2 hA); (repeat (first | go_big_quiet_skip | (go_big_quiet_want; (first | (refine quiet_loads_at (ty := 38) (n := 2) rfl rfl (by with_reducible repeat (first | exact Sel.here | apply Sel.there)) (by kernel_rfl) (by kernel_rfl) (by first | assumption | ((try simp only [List.drop_succ_cons, List.drop_zero, List.take_succ_cons, List.take_zero]) <;> exact rfl)) (by exact rfl) ?_; go_frame; go_big_quiet_on) | (refine quiet_load_at rfl rfl (by with_reducible repeat (first | exact Sel.here | apply Sel.there)) (by kernel_rfl) (by first | assumption | exact rfl) ?_; go_frame; go_big_quiet_on) | (go_big_quiet_op; (first | go_big_quiet_on | ((apply Exists.intro); (refine ⟨fun w1 hw => ?_, ?_⟩); (focus ((have hw := Cl.out hw); (exact thro hw (hri _)))); (go_big_quiet_on))))))))
      (refine wpQuiet_nil ?_); (intro w1 hB); (clear hF hA hn1 hn2); (have hA := Cl.out hB); (clear hB); (try simp only [uA] at hA); have hF := hA.facts; (try simp only [fZ] at hF)
      go_wp2_with (first | ((with_reducible refine gst ?_); refine wS hA ?_; clear hF hA; intro w1 hA; (try simp only [uA] at hA); have hF := hA.facts; (try simp only [fZ] at hF)) | ((with_reducible refine gbx ?_); refine wB hA ?_; clear hF hA; intro b1 w1 hA hb1; (try simp only [uA] at hA); have hF := hA.facts; (try simp only [fZ] at hF)))
      go_ret
      exact ⟨rfl, hA.toExt⟩
    · show Calls _ _ _ _ fun e w' => e = .returned (.bool (decide (t < d2))) ∧ _
      clear h
      simp only [A8.val, idV] at *
      generalize hbb : decide (t < d2) = bb at *
      (try simp only [uA] at hA); have hF := hA.facts; (try simp only [fZ] at hF)
      go_enter Try.func29, Try.ntmps29
      go_wp2_with (first | ((with_reducible refine gbx ?_); refine wX 65 (.agg #[.int .i64 s, .int .i64 d0, .int .i64 d1, .int .i64 d2, .int .i64 d3, .int .i64 d4, .int .i64 d5, .int .i64 d6]) [.int .i64 s, .int .i64 d0, .int .i64 d1, .int .i64 d2, .int .i64 d3, .int .i64 d4, .int .i64 d5, .int .i64 d6] hA ?_; clear hF hA; intro bA w1 hA hbA; (try simp only [uA] at hA); have hF := hA.facts; (try simp only [fZ] at hF)) | ((with_reducible refine gbx ?_); refine wX 38 (.agg #[.int .i64 2, .int .i64 t]) [.int .i64 2, .int .i64 t] hA ?_; clear hF hA; intro bI w1 hA hbI; (try simp only [uA] at hA); have hF := hA.facts; (try simp only [fZ] at hF)) | ((with_reducible refine gst ?_); refine wS hA ?_; clear hF hA; intro w1 hA; (try simp only [uA] at hA); have hF := hA.facts; (try simp only [fZ] at hF)) | ((with_reducible refine gbx ?_); refine wB hA ?_; clear hF hA; intro b1 w1 hA hb1; (try simp only [uA] at hA); have hF := hA.facts; (try simp only [fZ] at hF)))
      try go_frame
      (refine wp_region_all (Cl _ _ _) (by kernel_rfl) (by kernel_rfl) (Cl.drew hA) ?_); (have hn1 := Cl.none hA); (have hn2 := Cl.none2 hA); (repeat (first | go_big_quiet_skip | (go_big_quiet_want; (first | (refine quiet_loads_at (ty := 38) (n := 2) rfl rfl (by with_reducible repeat (first | exact Sel.here | apply Sel.there)) (by kernel_rfl) (by kernel_rfl) (by first | assumption | ((try simp only [List.drop_succ_cons, List.drop_zero, List.take_succ_cons, List.take_zero]) <;> exact rfl)) (by exact rfl) ?_; go_frame; go_big_quiet_on) | (refine quiet_load_at rfl rfl (by with_reducible repeat (first | exact Sel.here | apply Sel.there)) (by kernel_rfl) (by first | assumption | exact rfl) ?_; go_frame; go_big_quiet_on) | (go_big_quiet_op; (first | go_big_quiet_on | ((apply Exists.intro); (refine ⟨fun w1 hw => ?_, ?_⟩); (focus ((have hw := Cl.out hw); (exact thro hw (hri _)))); (go_big_quiet_on))))))))
      (refine wpQuiet_nil ?_); (intro w1 hB); (clear hF hA hn1 hn2); (have hA := Cl.out hB); (clear hB); (try simp only [uA] at hA); have hF := hA.facts; (try simp only [fZ] at hF)
      go_wp2_with (first | ((with_reducible refine gst ?_); refine wS hA ?_; clear hF hA; intro w1 hA; (try simp only [uA] at hA); have hF := hA.facts; (try simp only [fZ] at hF)) | ((with_reducible refine gbx ?_); refine wB hA ?_; clear hF hA; intro b1 w1 hA hb1; (try simp only [uA] at hA); have hF := hA.facts; (try simp only [fZ] at hF)))
      go_ret
      exact ⟨rfl, hA.toExt⟩
    · show Calls _ _ _ _ fun e w' => e = .returned (.bool (decide (t < d3))) ∧ _
      clear h
      simp only [A8.val, idV] at *
      generalize hbb : decide (t < d3) = bb at *
      (try simp only [uA] at hA); have hF := hA.facts; (try simp only [fZ] at hF)
      go_enter Try.func29, Try.ntmps29
      go_wp2_with (first | ((with_reducible refine gbx ?_); refine wX 65 (.agg #[.int .i64 s, .int .i64 d0, .int .i64 d1, .int .i64 d2, .int .i64 d3, .int .i64 d4, .int .i64 d5, .int .i64 d6]) [.int .i64 s, .int .i64 d0, .int .i64 d1, .int .i64 d2, .int .i64 d3, .int .i64 d4, .int .i64 d5, .int .i64 d6] hA ?_; clear hF hA; intro bA w1 hA hbA; (try simp only [uA] at hA); have hF := hA.facts; (try simp only [fZ] at hF)) | ((with_reducible refine gbx ?_); refine wX 38 (.agg #[.int .i64 3, .int .i64 t]) [.int .i64 3, .int .i64 t] hA ?_; clear hF hA; intro bI w1 hA hbI; (try simp only [uA] at hA); have hF := hA.facts; (try simp only [fZ] at hF)) | ((with_reducible refine gst ?_); refine wS hA ?_; clear hF hA; intro w1 hA; (try simp only [uA] at hA); have hF := hA.facts; (try simp only [fZ] at hF)) | ((with_reducible refine gbx ?_); refine wB hA ?_; clear hF hA; intro b1 w1 hA hb1; (try simp only [uA] at hA); have hF := hA.facts; (try simp only [fZ] at hF)))
      try go_frame
      (refine wp_region_all (Cl _ _ _) (by kernel_rfl) (by kernel_rfl) (Cl.drew hA) ?_); (have hn1 := Cl.none hA); (have hn2 := Cl.none2 hA); (repeat (first | go_big_quiet_skip | (go_big_quiet_want; (first | (refine quiet_loads_at (ty := 38) (n := 2) rfl rfl (by with_reducible repeat (first | exact Sel.here | apply Sel.there)) (by kernel_rfl) (by kernel_rfl) (by first | assumption | ((try simp only [List.drop_succ_cons, List.drop_zero, List.take_succ_cons, List.take_zero]) <;> exact rfl)) (by exact rfl) ?_; go_frame; go_big_quiet_on) | (refine quiet_load_at rfl rfl (by with_reducible repeat (first | exact Sel.here | apply Sel.there)) (by kernel_rfl) (by first | assumption | exact rfl) ?_; go_frame; go_big_quiet_on) | (go_big_quiet_op; (first | go_big_quiet_on | ((apply Exists.intro); (refine ⟨fun w1 hw => ?_, ?_⟩); (focus ((have hw := Cl.out hw); (exact thro hw (hri _)))); (go_big_quiet_on))))))))
      (refine wpQuiet_nil ?_); (intro w1 hB); (clear hF hA hn1 hn2); (have hA := Cl.out hB); (clear hB); (try simp only [uA] at hA); have hF := hA.facts; (try simp only [fZ] at hF)
      go_wp2_with (first | ((with_reducible refine gst ?_); refine wS hA ?_; clear hF hA; intro w1 hA; (try simp only [uA] at hA); have hF := hA.facts; (try simp only [fZ] at hF)) | ((with_reducible refine gbx ?_); refine wB hA ?_; clear hF hA; intro b1 w1 hA hb1; (try simp only [uA] at hA); have hF := hA.facts; (try simp only [fZ] at hF)))
      go_ret
      exact ⟨rfl, hA.toExt⟩
    · show Calls _ _ _ _ fun e w' => e = .returned (.bool (decide (t < d4))) ∧ _
      clear h
      simp only [A8.val, idV] at *
      generalize hbb : decide (t < d4) = bb at *
      (try simp only [uA] at hA); have hF := hA.facts; (try simp only [fZ] at hF)
      go_enter Try.func29, Try.ntmps29
      go_wp2_with (first | ((with_reducible refine gbx ?_); refine wX 65 (.agg #[.int .i64 s, .int .i64 d0, .int .i64 d1, .int .i64 d2, .int .i64 d3, .int .i64 d4, .int .i64 d5, .int .i64 d6]) [.int .i64 s, .int .i64 d0, .int .i64 d1, .int .i64 d2, .int .i64 d3, .int .i64 d4, .int .i64 d5, .int .i64 d6] hA ?_; clear hF hA; intro bA w1 hA hbA; (try simp only [uA] at hA); have hF := hA.facts; (try simp only [fZ] at hF)) | ((with_reducible refine gbx ?_); refine wX 38 (.agg #[.int .i64 4, .int .i64 t]) [.int .i64 4, .int .i64 t] hA ?_; clear hF hA; intro bI w1 hA hbI; (try simp only [uA] at hA); have hF := hA.facts; (try simp only [fZ] at hF)) | ((with_reducible refine gst ?_); refine wS hA ?_; clear hF hA; intro w1 hA; (try simp only [uA] at hA); have hF := hA.facts; (try simp only [fZ] at hF)) | ((with_reducible refine gbx ?_); refine wB hA ?_; clear hF hA; intro b1 w1 hA hb1; (try simp only [uA] at hA); have hF := hA.facts; (try simp only [fZ] at hF)))
      try go_frame
      (refine wp_region_all (Cl _ _ _) (by kernel_rfl) (by kernel_rfl) (Cl.drew hA) ?_); (have hn1 := Cl.none hA); (have hn2 := Cl.none2 hA); (repeat (first | go_big_quiet_skip | (go_big_quiet_want; (first | (refine quiet_loads_at (ty := 38) (n := 2) rfl rfl (by with_reducible repeat (first | exact Sel.here | apply Sel.there)) (by kernel_rfl) (by kernel_rfl) (by first | assumption | ((try simp only [List.drop_succ_cons, List.drop_zero, List.take_succ_cons, List.take_zero]) <;> exact rfl)) (by exact rfl) ?_; go_frame; go_big_quiet_on) | (refine quiet_load_at rfl rfl (by with_reducible repeat (first | exact Sel.here | apply Sel.there)) (by kernel_rfl) (by first | assumption | exact rfl) ?_; go_frame; go_big_quiet_on) | (go_big_quiet_op; (first | go_big_quiet_on | ((apply Exists.intro); (refine ⟨fun w1 hw => ?_, ?_⟩); (focus ((have hw := Cl.out hw); (exact thro hw (hri _)))); (go_big_quiet_on))))))))
      (refine wpQuiet_nil ?_); (intro w1 hB); (clear hF hA hn1 hn2); (have hA := Cl.out hB); (clear hB); (try simp only [uA] at hA); have hF := hA.facts; (try simp only [fZ] at hF)
      go_wp2_with (first | ((with_reducible refine gst ?_); refine wS hA ?_; clear hF hA; intro w1 hA; (try simp only [uA] at hA); have hF := hA.facts; (try simp only [fZ] at hF)) | ((with_reducible refine gbx ?_); refine wB hA ?_; clear hF hA; intro b1 w1 hA hb1; (try simp only [uA] at hA); have hF := hA.facts; (try simp only [fZ] at hF)))
      go_ret
      exact ⟨rfl, hA.toExt⟩
    · show Calls _ _ _ _ fun e w' => e = .returned (.bool (decide (t < d5))) ∧ _
      clear h
      simp only [A8.val, idV] at *
      generalize hbb : decide (t < d5) = bb at *
      (try simp only [uA] at hA); have hF := hA.facts; (try simp only [fZ] at hF)
      go_enter Try.func29, Try.ntmps29
      go_wp2_with (first | ((with_reducible refine gbx ?_); refine wX 65 (.agg #[.int .i64 s, .int .i64 d0, .int .i64 d1, .int .i64 d2, .int .i64 d3, .int .i64 d4, .int .i64 d5, .int .i64 d6]) [.int .i64 s, .int .i64 d0, .int .i64 d1, .int .i64 d2, .int .i64 d3, .int .i64 d4, .int .i64 d5, .int .i64 d6] hA ?_; clear hF hA; intro bA w1 hA hbA; (try simp only [uA] at hA); have hF := hA.facts; (try simp only [fZ] at hF)) | ((with_reducible refine gbx ?_); refine wX 38 (.agg #[.int .i64 5, .int .i64 t]) [.int .i64 5, .int .i64 t] hA ?_; clear hF hA; intro bI w1 hA hbI; (try simp only [uA] at hA); have hF := hA.facts; (try simp only [fZ] at hF)) | ((with_reducible refine gst ?_); refine wS hA ?_; clear hF hA; intro w1 hA; (try simp only [uA] at hA); have hF := hA.facts; (try simp only [fZ] at hF)) | ((with_reducible refine gbx ?_); refine wB hA ?_; clear hF hA; intro b1 w1 hA hb1; (try simp only [uA] at hA); have hF := hA.facts; (try simp only [fZ] at hF)))
      try go_frame
      (refine wp_region_all (Cl _ _ _) (by kernel_rfl) (by kernel_rfl) (Cl.drew hA) ?_); (have hn1 := Cl.none hA); (have hn2 := Cl.none2 hA); (repeat (first | go_big_quiet_skip | (go_big_quiet_want; (first | (refine quiet_loads_at (ty := 38) (n := 2) rfl rfl (by with_reducible repeat (first | exact Sel.here | apply Sel.there)) (by kernel_rfl) (by kernel_rfl) (by first | assumption | ((try simp only [List.drop_succ_cons, List.drop_zero, List.take_succ_cons, List.take_zero]) <;> exact rfl)) (by exact rfl) ?_; go_frame; go_big_quiet_on) | (refine quiet_load_at rfl rfl (by with_reducible repeat (first | exact Sel.here | apply Sel.there)) (by kernel_rfl) (by first | assumption | exact rfl) ?_; go_frame; go_big_quiet_on) | (go_big_quiet_op; (first | go_big_quiet_on | ((apply Exists.intro); (refine ⟨fun w1 hw => ?_, ?_⟩); (focus ((have hw := Cl.out hw); (exact thro hw (hri _)))); (go_big_quiet_on))))))))
      (refine wpQuiet_nil ?_); (intro w1 hB); (clear hF hA hn1 hn2); (have hA := Cl.out hB); (clear hB); (try simp only [uA] at hA); have hF := hA.facts; (try simp only [fZ] at hF)
      go_wp2_with (first | ((with_reducible refine gst ?_); refine wS hA ?_; clear hF hA; intro w1 hA; (try simp only [uA] at hA); have hF := hA.facts; (try simp only [fZ] at hF)) | ((with_reducible refine gbx ?_); refine wB hA ?_; clear hF hA; intro b1 w1 hA hb1; (try simp only [uA] at hA); have hF := hA.facts; (try simp only [fZ] at hF)))
      go_ret
      exact ⟨rfl, hA.toExt⟩
    · show Calls _ _ _ _ fun e w' => e = .returned (.bool (decide (t < d6))) ∧ _
      clear h
      simp only [A8.val, idV] at *
      generalize hbb : decide (t < d6) = bb at *
      (try simp only [uA] at hA); have hF := hA.facts; (try simp only [fZ] at hF)
      go_enter Try.func29, Try.ntmps29
      go_wp2_with (first | ((with_reducible refine gbx ?_); refine wX 65 (.agg #[.int .i64 s, .int .i64 d0, .int .i64 d1, .int .i64 d2, .int .i64 d3, .int .i64 d4, .int .i64 d5, .int .i64 d6]) [.int .i64 s, .int .i64 d0, .int .i64 d1, .int .i64 d2, .int .i64 d3, .int .i64 d4, .int .i64 d5, .int .i64 d6] hA ?_; clear hF hA; intro bA w1 hA hbA; (try simp only [uA] at hA); have hF := hA.facts; (try simp only [fZ] at hF)) | ((with_reducible refine gbx ?_); refine wX 38 (.agg #[.int .i64 6, .int .i64 t]) [.int .i64 6, .int .i64 t] hA ?_; clear hF hA; intro bI w1 hA hbI; (try simp only [uA] at hA); have hF := hA.facts; (try simp only [fZ] at hF)) | ((with_reducible refine gst ?_); refine wS hA ?_; clear hF hA; intro w1 hA; (try simp only [uA] at hA); have hF := hA.facts; (try simp only [fZ] at hF)) | ((with_reducible refine gbx ?_); refine wB hA ?_; clear hF hA; intro b1 w1 hA hb1; (try simp only [uA] at hA); have hF := hA.facts; (try simp only [fZ] at hF)))
      try go_frame
      (refine wp_region_all (Cl _ _ _) (by kernel_rfl) (by kernel_rfl) (Cl.drew hA) ?_); (have hn1 := Cl.none hA); (have hn2 := Cl.none2 hA); (repeat (first | go_big_quiet_skip | (go_big_quiet_want; (first | (refine quiet_loads_at (ty := 38) (n := 2) rfl rfl (by with_reducible repeat (first | exact Sel.here | apply Sel.there)) (by kernel_rfl) (by kernel_rfl) (by first | assumption | ((try simp only [List.drop_succ_cons, List.drop_zero, List.take_succ_cons, List.take_zero]) <;> exact rfl)) (by exact rfl) ?_; go_frame; go_big_quiet_on) | (refine quiet_load_at rfl rfl (by with_reducible repeat (first | exact Sel.here | apply Sel.there)) (by kernel_rfl) (by first | assumption | exact rfl) ?_; go_frame; go_big_quiet_on) | (go_big_quiet_op; (first | go_big_quiet_on | ((apply Exists.intro); (refine ⟨fun w1 hw => ?_, ?_⟩); (focus ((have hw := Cl.out hw); (exact thro hw (hri _)))); (go_big_quiet_on))))))))
      (refine wpQuiet_nil ?_); (intro w1 hB); (clear hF hA hn1 hn2); (have hA := Cl.out hB); (clear hB); (try simp only [uA] at hA); have hF := hA.facts; (try simp only [fZ] at hF)
      go_wp2_with (first | ((with_reducible refine gst ?_); refine wS hA ?_; clear hF hA; intro w1 hA; (try simp only [uA] at hA); have hF := hA.facts; (try simp only [fZ] at hF)) | ((with_reducible refine gbx ?_); refine wB hA ?_; clear hF hA; intro b1 w1 hA hb1; (try simp only [uA] at hA); have hF := hA.facts; (try simp only [fZ] at hF)))
      go_ret
      exact ⟨rfl, hA.toExt⟩
end Go.Proofs.Ytgicohkmfbbbdaa.Gr
end
