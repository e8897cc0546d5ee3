/- RefM, RefI, joined. -/
import Derived.Test.YtgicohkmfbbbdaaK21
import Derived.Test.YtgicohkmfbbbdaaK7
import Derived.Test.YtgicohkmfbbbdaaK5
import Derived.Test.YtgicohkmfbbbdaaK4
import Derived.Test.YtgicohkmfbbbdaaK2
section
namespace Go.Proofs.Ytgicohkmfbbbdaa
open Go.RowKit
section
variable {P : Program} {ops : Array Oper} {rest : List Oper} {o : Oper} {a : Act} {Q : Exit → Act → World → Prop} {L0 L F : List Part} {w0 w : World}
/-- a piece of a block loaded -/
theorem wpList_loadCut_at {ty : TypeId} {x : Operand} (hg : o.guard = none) (hop : o.op = .load ty x) {b j : Nat} (hx : a.eval x = .pointer (some ⟨b, j, none⟩)) {vs c : List Value} {T : TypeId} (h : At L0 w0 L w) (s : Sel (Part.cells b c T) L F)
    (hv : (c.drop j).take vs.length = vs) (hu : (P.underlying ty).map (·.isRow) = some true) (hi : (P.info? ty).map (·.size) = some vs.length)
    (hK : wpList P ops Q rest (a.put o.dst (.agg vs.toArray)) w) : wpList P ops Q (o :: rest) a w :=
  wpList_loadRow_at hg hop hx (fun k u hk => by
    have hb : BlockIs w b c T := h.get s
    have hl := (List.getElem?_eq_some_iff.1 hk).1
    rw [hb.cell, ← List.getElem?_drop, ← hk, ← hv, List.getElem?_take, if_pos hl]) hu hi hK
theorem cut_cells {α : Type} {enc : α → List Value} {size : Nat} (hs : ∀ x, (enc x).length = size) {c : List Value} {l : List α} (ht : c.take (l.length * size) = l.flatMap enc) {k : Nat} {x : α} (hx : l[k]? = some x) : (c.drop (k * size)).take size = enc x := by
  apply List.ext_getElem?
  intro j
  by_cases hj : j < size
  · rw [List.getElem?_take, if_pos hj, List.getElem?_drop, cells_at hs ht hx j hj]
  · rw [List.getElem?_eq_none (by simp; omega), List.getElem?_eq_none (by rw [hs]; omega)]
end
end Go.Proofs.Ytgicohkmfbbbdaa
namespace Go.Proofs.Ytgicohkmfbbbdaa.Ref
open _root_.Go.Proofs.Ytgicohkmfbbbdaa.Gr
open _root_.Go.Proofs.Ytgicohkmfbbbdaa.Mark (ltID)
open _root_.Go.Proofs.Ytgicohkmfbbbdaa.Attr (A8 guardI eqlI_any neqI_any guardJ eqlJ_any)
open Go.RowKit
set_option linter.unusedSimpArgs false
set_option linter.unusedVariables false
attribute [-go_sem] run_eql_struct run_neq_struct run_eqGuard_agg
attribute [local go_sem] guardJ eqlJ_any

theorem rowD_app (v : Value) (l1 l2 : List IA) : Part.row 52 10 v (l1.length + l2.length) (flatD l1 ++ flatD l2) = rowD v (l1 ++ l2) := by simp [flatD, rowD]
theorem rowD_snoc (v : Value) (l : List IA) (x : IA) : Part.row 52 10 v (l.length + 1) (flatD l ++ cellsD x) = rowD v (l ++ [x]) := by simp [flatD, rowD]
theorem row_nilD {L0 L : List Part} {w0 w : World} (h : At L0 w0 L w) : At L0 w0 (rowD (.slice none 0 0) [] :: L) w := h.row_nil 52 10
theorem infoD : (Try.prog.info? 52).map (fun i => (i.zero, i.size, i.bytes)) = some (some (.agg #[.int .i64 0, .int .i64 0, .int .i64 0, .int .i64 0, .int .i64 0, .int .i64 0, .int .i64 0, .int .i64 0, .int .i64 0, .int .i64 0]), 10, 80) := by kernel_rfl
theorem before_in {L0 L : List Part} {w0 w : World} (h : At L0 w0 L w) (a b : I2) {v : Bool} (hv : decide (ltID a b) = v) :
    Calls Try.prog 49 #[.agg #[.int .i64 a.1, .int .i64 a.2], .agg #[.int .i64 b.1, .int .i64 b.2]] w fun e w' => e = .returned (.bool v) ∧ At L0 w0 L w' := by
  subst hv
  exact (before_any a b w).mono fun _ _ ⟨h1, h2⟩ => ⟨h1, h.ext h2⟩
/-- the first place at which a name does not stand ahead -/
def placeD (out : List IA) (x : I2) : Nat := (out.takeWhile fun y => decide (ltID y.1 x)).length
theorem place_is : ∀ {out : List IA} {x : I2} {k : Nat}, k ≤ out.length → (∀ y ∈ out.take k, ltID y.1 x) → (∀ y, out[k]? = some y → ¬ ltID y.1 x) → placeD out x = k
  | [], x, k, hk, _, _ => by simp at hk; subst hk; rfl
  | y :: out, x, 0, _, _, hn => by
    have h := hn y rfl
    unfold placeD
    rw [List.takeWhile_cons, if_neg (by simpa using h)]
    rfl
  | y :: out, x, k + 1, hk, ha, hn => by
    have h := ha y (by simp)
    have ih := place_is (out := out) (x := x) (k := k) (by simpa using hk) (fun z hz => ha z (by simp [hz])) (fun z hz => hn z (by simpa using hz))
    unfold placeD at ih ⊢
    rw [List.takeWhile_cons, if_pos (by simpa using h), List.length_cons, ih]
def insD (out : List IA) (e : IA) : List IA := if (out[placeD out e.1]?).map Prod.fst = some e.1 then out else out.take (placeD out e.1) ++ [e] ++ out.drop (placeD out e.1)
def sortedD (l : List IA) : List IA := l.foldl insD []
theorem insD_len (out : List IA) (e : IA) : (insD out e).length ≤ out.length + 1 := by
  unfold insD
  split
  · omega
  · rw [List.length_append, List.length_append, List.length_take, List.length_drop]; simp; omega
theorem sortedD_snoc (l : List IA) (e : IA) : sortedD (l ++ [e]) = insD (sortedD l) e := by unfold sortedD; rw [List.foldl_append]; rfl
theorem sortedD_len (l : List IA) : (sortedD l).length ≤ l.length := by
  suffices H : ∀ (l out : List IA), (l.foldl insD out).length ≤ out.length + l.length by simpa [sortedD] using H l []
  intro l
  induction l with
  | nil => intro out; exact Nat.le_refl _
  | cons e l ih =>
    intro out
    have := ih (insD out e)
    have := insD_len out e
    rw [List.foldl_cons, List.length_cons]
    omega
theorem insD_same {out : List IA} {e y : IA} {k : Nat} (hk : placeD out e.1 = k) (hy : out[k]? = some y) (h : y.1 = e.1) : insD out e = out := by
  unfold insD
  rw [hk, hy, if_pos (by simp [h])]
theorem insD_new {out : List IA} {e : IA} {k : Nat} (hk : placeD out e.1 = k) (h : ∀ y, out[k]? = some y → y.1 ≠ e.1) : insD out e = out.take k ++ [e] ++ out.drop k := by
  unfold insD
  rw [hk, if_neg]
  intro q
  obtain ⟨y, hy, e2⟩ := Option.map_eq_some_iff.1 q
  exact h y hy e2
def SoRel (w : World) (v : Value) (l : List IA) (k : Nat) (u4 u3 : Value) (wr : World) : Prop :=
  ∃ i : Nat, u4 = .int .i64 i ∧ i + k = l.length ∧ At [rowD v l] w [rowD u3 (sortedD (l.take i)), rowD v l] wr
def SkRel (w : World) (v vo : Value) (l out : List IA) (gl : Nat) (cl : List Value) (x : I2) (k : Nat) (u : Value) (wr : World) : Prop :=
  ∃ q : Nat, u = .int .i64 q ∧ q + k = out.length ∧ (∀ y ∈ out.take q, ltID y.1 x) ∧ At [rowD v l] w [Part.cells gl cl 52, rowD vo out] wr
def SoPost (w : World) (v : Value) (l : List IA) (e : Ending) (w' : World) : Prop := ∃ u, e = .returned u ∧ At [rowD v l] w [rowD u (sortedD l), rowD v l] w'
set_option maxRecDepth 100000 in
set_option maxHeartbeats 4000000 in
theorem sorted_any {w : World} {v : Value} {l : List IA} (h : Sep [rowD v l] w) (hmax : l.length ≤ 1000000) :
    Calls Try.prog 24 #[v] w (SoPost w v l) := by
  obtain ⟨i0, hi0, hz0, hz1, hz2⟩ := info_parts infoD
  have hA := At.start h
  clear h
  obtain ⟨ax, cap, rfl, hax, hcap, _⟩ := hA.row_form (v := v) (xs := flatD l) sR
  clear hax
  (try simp only [uA] at hA); have hF := hA.facts; (try simp only [fZ] at hF)
  go_enter Try.func24, Try.ntmps24
  go_wp2_with (first | ((with_reducible refine gst ?_); refine wS hA ?_; clear hF hA; intro w1 hA; (try simp only [uA] at hA); have hF := hA.facts; (try simp only [fZ] at hF)) | ((with_reducible refine gbx ?_); refine wB hA ?_; clear hF hA; intro b1 w1 hA hb1; (try simp only [uA] at hA); have hF := hA.facts; (try simp only [fZ] at hF)))
  try go_frame
  have hB := hA.row_nil 52 10
  clear hF hA; have hA := hB; clear hB
  go_loopg [4, 3] l.length (SoRel w (.slice ax l.length cap) l)
  case atStart => exact ⟨0, rfl, by omega, hA.pick pZ⟩
  case round =>
    obtain ⟨i, rfl, hik, hB⟩ := hrel
    clear hA; have hA := hB; clear hB
    by_cases hi : i < l.length
    · skip
      obtain ⟨e, hx⟩ : ∃ e, l[i]? = some e := ⟨_, List.getElem?_eq_getElem hi⟩
      have hns := Lib.hid (show sortedD (l.take (i + 1)) = insD (sortedD (l.take i)) e from by rw [List.take_add_one, hx]; exact sortedD_snoc _ _)
      have hol := sortedD_len (l.take i)
      rw [List.length_take] at hol
      generalize sortedD (l.take i) = out at *
      have hol1 : out.length ≤ 1000000 := by omega
      clear hol
      obtain ⟨axo, capo, hvo, _, hcpo, _⟩ := hA.row_form (e := 52) (size := 10) (n := out.length) (v := u3) (xs := flatD out) .here
      subst hvo
      obtain ⟨gl, cl, rfl, _, hlm, hll, hlt, hB⟩ := hA.row_open (e := 52) (size := 10) (ax := ax) (cap := cap) (n := l.length) (xs := flatD l) sZ (by omega)
      have he2 := elemD hlt hx
      have he10 := cut_cells cellsD_len hlt hx
      obtain ⟨⟨r1, t1⟩, s, d0, d1, d2, d3, d4, d5, d6⟩ := e
      have he10' := Lib.hid (show (cl.drop (i * 10)).take (List.length (α := Value) [.int .i64 r1, .int .i64 t1, .int .i64 s, .int .i64 d0, .int .i64 d1, .int .i64 d2, .int .i64 d3, .int .i64 d4, .int .i64 d5, .int .i64 d6]) = [.int .i64 r1, .int .i64 t1, .int .i64 s, .int .i64 d0, .int .i64 d1, .int .i64 d2, .int .i64 d3, .int .i64 d4, .int .i64 d5, .int .i64 d6] from he10)
      simp only at he2
      have hlt' := Lib.hid hlt
      clear hA hx he10 hlt; have hA := hB; clear hB
      have hiI : (i : Int) < l.length := by omega
      (try simp only [uA] at hA); have hF := hA.facts; (try simp only [fZ] at hF)
      go_wp2_with (first | ((with_reducible refine gst ?_); refine wS hA ?_; clear hF hA; intro w1 hA; (try simp only [uA] at hA); have hF := hA.facts; (try simp only [fZ] at hF)) | ((with_reducible refine gbx ?_); refine wB hA ?_; clear hF hA; intro b1 w1 hA hb1; (try simp only [uA] at hA); have hF := hA.facts; (try simp only [fZ] at hF)))
      try go_frame
      have hikG : i + 1 + (gk - 1) = l.length := by omega
      obtain ⟨G, hG⟩ : ∃ G, gk - 1 = G := ⟨_, rfl⟩
      rw [hG] at hikG
      have hGk := Lib.hid (show G < gk by omega)
      clear hG hik hF
      go_loopg [5] out.length (SkRel w (.slice (some ⟨gl, 0, none⟩) l.length cap) (.slice axo out.length capo) l out gl cl (r1, t1))
      case atStart => exact ⟨0, rfl, by omega, by simp, hA.pick pZ⟩
      case round =>
        obtain ⟨k, rfl, hkk, hah, hB⟩ := hrel
        have hah' := Lib.hid hah
        clear hA hah; have hA := hB; clear hB
        by_cases hk : k < out.length
        · skip
          obtain ⟨y, hy⟩ : ∃ y, out[k]? = some y := ⟨_, List.getElem?_eq_getElem hk⟩
          have hkI : (k : Int) < out.length := by omega
          obtain ⟨go, co, hgo, _, hom, hoL, hot, hB⟩ := hA.row_open (e := 52) (size := 10) (ax := axo) (cap := capo) (n := out.length) (xs := flatD out) sZ (by omega)
          subst hgo
          have hey := elemD hot hy
          have hot' := Lib.hid hot
          have hy' := Lib.hid (show out[k]? = some ((y.1.1, y.1.2), y.2) from hy)
          have htk := Lib.hid (show out.take (k + 1) = out.take k ++ [y] from by rw [List.take_add_one, hy]; rfl)
          have hyy := Lib.hid (show y.1 = (y.1.1, y.1.2) from rfl)
          generalize y.1.1 = r2 at *
          generalize y.1.2 = t2 at *
          clear hA hot hy; have hA := hB; clear hB
          obtain ⟨c, hc⟩ : ∃ c, decide (ltID (r2, t2) (r1, t1)) = c := ⟨_, rfl⟩
          have hc' := Lib.hid hc
          (try simp only [uA] at hA); have hF := hA.facts; (try simp only [fZ] at hF)
          cases c
          · go_wp2_with (first | ((with_reducible refine gst ?_); refine wS hA ?_; clear hF hA; intro w1 hA; (try simp only [uA] at hA); have hF := hA.facts; (try simp only [fZ] at hF)) | ((with_reducible refine gbx ?_); refine wB hA ?_; clear hF hA; intro b1 w1 hA hb1; (try simp only [uA] at hA); have hF := hA.facts; (try simp only [fZ] at hF)))
            try go_frame
            (refine wp_region_all (Cl _ _ _) (by kernel_rfl) (by kernel_rfl) (Cl.drew hA) ?_); (have hn1 := Cl.none hA); (have hn2 := Cl.none2 hA); (repeat (first | go_big_quiet_skip | (go_big_quiet_want; (first | (refine quiet_loads_at (ty := 45) (n := 2) rfl rfl sR (by kernel_rfl) (by kernel_rfl) (by first | assumption | ((try simp only [List.drop_succ_cons, List.drop_zero, List.take_succ_cons, List.take_zero]) <;> exact rfl)) (by exact rfl) ?_; go_frame; go_big_quiet_on) | (refine quiet_load_at rfl rfl sR (by kernel_rfl) (by first | assumption | exact rfl) ?_; go_frame; go_big_quiet_on) | (go_big_quiet_op; (first | go_big_quiet_on | ((apply Exists.intro); (refine ⟨fun w1 hw => ?_, ?_⟩); (focus ((have hw := Cl.out hw); (exact before_in hw (r2, t2) (r1, t1) hc))); (go_big_quiet_on))))))))
            (refine wpQuiet_nil ?_); (intro w1 hB); (clear hF hA hn1 hn2); (have hA := Cl.out hB); (clear hB); (try simp only [uA] at hA); have hF := hA.facts; (try simp only [fZ] at hF)
            clear hc
            have hpl := Lib.hid (show placeD out (r1, t1) = k from place_is (by omega) hah'.out fun z hz => by
              rw [hy'.out] at hz
              cases hz
              exact of_decide_eq_false hc'.out)
            obtain ⟨d, hd⟩ : ∃ d, (decide (r2 = r1) && decide (t2 = t1)) = d := ⟨_, rfl⟩
            have hd2 : decide ((r2, t2) = (r1, t1)) = d := by rw [← hd, Bool.eq_iff_iff]; simp
            have hd' := Lib.hid hd2
            cases d
            · go_wp2_with (first | ((with_reducible refine gst ?_); refine wS hA ?_; clear hF hA; intro w1 hA; (try simp only [uA] at hA); have hF := hA.facts; (try simp only [fZ] at hF)) | ((with_reducible refine gbx ?_); refine wB hA ?_; clear hF hA; intro b1 w1 hA hb1; (try simp only [uA] at hA); have hF := hA.facts; (try simp only [fZ] at hF)))
              try go_frame
              (refine wp_region_all (Cl _ _ _) (by kernel_rfl) (by kernel_rfl) (Cl.drew hA) ?_); (have hn1 := Cl.none hA); (have hn2 := Cl.none2 hA); (repeat (first | go_big_quiet_skip | (go_big_quiet_want; (first | (refine quiet_loads_at (ty := 45) (n := 2) rfl rfl sR (by kernel_rfl) (by kernel_rfl) (by first | assumption | ((try simp only [List.drop_succ_cons, List.drop_zero, List.take_succ_cons, List.take_zero]) <;> exact rfl)) (by exact rfl) ?_; go_frame; go_big_quiet_on) | (refine quiet_load_at rfl rfl sR (by kernel_rfl) (by first | assumption | exact rfl) ?_; go_frame; go_big_quiet_on) | (go_big_quiet_op; (first | go_big_quiet_on | ((apply Exists.intro); (refine ⟨fun w1 hw => ?_, ?_⟩); (focus ((have hw := Cl.out hw); (fail))); (go_big_quiet_on))))))))
              (refine wpQuiet_nil ?_); (intro w1 hB); (clear hF hA hn1 hn2); (have hA := Cl.out hB); (clear hB); (try simp only [uA] at hA); have hF := hA.facts; (try simp only [fZ] at hF)
              have hnw := Lib.hid (insD_new (e := ((r1, t1), (⟨s, d0, d1, d2, d3, d4, d5, d6⟩ : A8))) hpl.out fun z hz => by
                rw [hy'.out] at hz
                cases hz
                exact of_decide_eq_false hd'.out)
              have hB := hA.row_shut (e := 52) (size := 10) (g := go) (n := out.length) (cap := capo) (xs := flatD out) sZ hoL hcpo hom hot'.out
              clear hF hA; have hA := hB; clear hB
              have hB := row_nilD hA
              clear hA; have hA := hB; clear hB
              have hl1 : (out.take k).length = k := by rw [List.length_take]; omega
              have hl2 : (out.drop k).length = out.length - k := List.length_drop
              (try simp only [uA] at hA); have hF := hA.facts; (try simp only [fZ] at hF)
              go_wp2_with (first | (refine wpList_slice_to (e := 52) (size := 10) (n := (out).length) (xs := flatD (out)) (v := .slice (some ⟨go, 0, none⟩) (out).length capo) (k := k) rfl rfl Try.underlying28 hi0 hz1 (by (try simp only [Act.eval, eV]) <;> exact rfl) (by (try simp only [Act.eval, eV]) <;> exact rfl) (hA.get (A := Part.row 52 10 (.slice (some ⟨go, 0, none⟩) (out).length capo) (out).length (flatD (out))) sR) (by omega) ?_; intro xv hxv0; have hxv : Reads _ xv ((out).take (k)).length (flatD ((out).take (k))) := (by rw [hl1]; unfold flatD at hxv0 ⊢; rw [flat_take cellsD_len] at hxv0; exact hxv0); clear hxv0) | (refine wpList_append_at (e := 52) (size := 10) (v := .slice none 0 0) (xs := flatD []) (n := ([] : List IA).length) (m := ((out).take (k)).length) (news := flatD ((out).take (k))) rfl _ _ 28 rfl Try.underlying28 hi0 hz0 hz1 hz2 rfl (by omega) hA sR (by (try simp only [Act.eval, eV]) <;> exact rfl) (by (try simp only [Act.eval, eV]) <;> exact rfl) (flat_len _ _ cellsD_len _) hxv (flat_one cellsD_one _) (by unfold maxLen; simp; omega) (by simp; omega) ?_; intro v1 w1 hB; rw [rowD_app] at hB; simp only [List.nil_append] at hB; clear hF hA; have hA := hB; clear hB; (try simp only [uA] at hA); have hF := hA.facts; (try simp only [fZ] at hF)) | (refine wpList_one_at (e := 52) (vs := cellsD ((r1, t1), (⟨s, d0, d1, d2, d3, d4, d5, d6⟩ : A8))) rfl rfl (by (try simp only [Act.eval, eV]) <;> exact rfl) (fun _ => by kernel_rfl) hA ?_; intro b2 w1 hB hb2; clear hF hA; have hA := hB; clear hB; (try simp only [uA] at hA); have hF := hA.facts; (try simp only [fZ] at hF)) | (refine wpList_append_at (e := 52) (size := 10) (v := v1) (xs := flatD ((out).take (k))) (n := ((out).take (k)).length) (m := 1) (news := cellsD ((r1, t1), (⟨s, d0, d1, d2, d3, d4, d5, d6⟩ : A8))) rfl _ _ 28 rfl Try.underlying28 hi0 hz0 hz1 hz2 rfl (by omega) hA sR (by (try simp only [Act.eval, eV]) <;> exact rfl) (by (try simp only [Act.eval, eV]) <;> exact rfl) (rfl) (hA.cells_reads sR _ _) (cellsD_one _) (by unfold maxLen; simp; omega) (by simp; omega) ?_; intro v2 w1 hB; rw [rowD_snoc] at hB; clear hF hA; have hA := hB; clear hB; (try simp only [uA] at hA); have hF := hA.facts; (try simp only [fZ] at hF)) | (refine wpList_slice_from (e := 52) (size := 10) (n := (out).length) (xs := flatD (out)) (v := .slice (some ⟨go, 0, none⟩) (out).length capo) (k := k) rfl rfl Try.underlying28 hi0 hz1 (by (try simp only [Act.eval, eV]) <;> exact rfl) (by (try simp only [Act.eval, eV]) <;> exact rfl) (hA.get (A := Part.row 52 10 (.slice (some ⟨go, 0, none⟩) (out).length capo) (out).length (flatD (out))) sR) (by omega) ?_; intro yv hxv0; have hyv : Reads _ yv ((out).drop (k)).length (flatD ((out).drop (k))) := (by rw [hl2]; unfold flatD at hxv0 ⊢; rw [flat_drop cellsD_len] at hxv0; exact hxv0); clear hxv0) | (refine wpList_append_at (e := 52) (size := 10) (v := v2) (xs := flatD ((out).take (k) ++ [((r1, t1), (⟨s, d0, d1, d2, d3, d4, d5, d6⟩ : A8))])) (n := ((out).take (k) ++ [((r1, t1), (⟨s, d0, d1, d2, d3, d4, d5, d6⟩ : A8))]).length) (m := ((out).drop (k)).length) (news := flatD ((out).drop (k))) rfl _ _ 28 rfl Try.underlying28 hi0 hz0 hz1 hz2 rfl (by omega) hA sR (by (try simp only [Act.eval, eV]) <;> exact rfl) (by (try simp only [Act.eval, eV]) <;> exact rfl) (flat_len _ _ cellsD_len _) hyv (flat_one cellsD_one _) (by unfold maxLen; simp; omega) (by simp; omega) ?_; intro v3 w1 hB; rw [rowD_app] at hB; obtain ⟨ax3, n3, cap3, hv3, hn3⟩ := hB.row_hid .here; subst hv3; clear hF hA; have hA := hB; clear hB; (try simp only [uA] at hA); have hF := hA.facts; (try simp only [fZ] at hF)) | ((with_reducible show wpList _ _ _ ({ dst := some 58, op := Op.load _ _, type := _, pos := _, after := _, guard := _ } :: _) _ _); refine wpList_loadCut_at (b := gl) (j := i * 10) (vs := [.int .i64 r1, .int .i64 t1, .int .i64 s, .int .i64 d0, .int .i64 d1, .int .i64 d2, .int .i64 d3, .int .i64 d4, .int .i64 d5, .int .i64 d6]) rfl rfl (by (try simp only [Act.eval, eV]) <;> exact rfl) hA sZ he10'.out (by kernel_rfl) (by kernel_rfl) ?_) | ((with_reducible refine gst ?_); refine wS hA ?_; clear hF hA; intro w1 hA; (try simp only [uA] at hA); have hF := hA.facts; (try simp only [fZ] at hF)) | ((with_reducible refine gbx ?_); refine wB hA ?_; clear hF hA; intro b1 w1 hA hb1; (try simp only [uA] at hA); have hF := hA.facts; (try simp only [fZ] at hF)))
              go_roundg G
              case measure => exact hGk.out
              case rel =>
                have hC := hA.row_shut (e := 52) (size := 10) (g := gl) (n := l.length) (cap := cap) (xs := flatD l) sZ hll hcap hlm hlt'.out
                exact ⟨i + 1, by simp, hikG, by rw [hns.out, hnw.out]; exact hC.pick pZ⟩
            · go_wp2_with (first | ((with_reducible refine gst ?_); refine wS hA ?_; clear hF hA; intro w1 hA; (try simp only [uA] at hA); have hF := hA.facts; (try simp only [fZ] at hF)) | ((with_reducible refine gbx ?_); refine wB hA ?_; clear hF hA; intro b1 w1 hA hb1; (try simp only [uA] at hA); have hF := hA.facts; (try simp only [fZ] at hF)))
              try go_frame
              (refine wp_region_all (Cl _ _ _) (by kernel_rfl) (by kernel_rfl) (Cl.drew hA) ?_); (have hn1 := Cl.none hA); (have hn2 := Cl.none2 hA); (repeat (first | go_big_quiet_skip | (go_big_quiet_want; (first | (refine quiet_loads_at (ty := 45) (n := 2) rfl rfl sR (by kernel_rfl) (by kernel_rfl) (by first | assumption | ((try simp only [List.drop_succ_cons, List.drop_zero, List.take_succ_cons, List.take_zero]) <;> exact rfl)) (by exact rfl) ?_; go_frame; go_big_quiet_on) | (refine quiet_load_at rfl rfl sR (by kernel_rfl) (by first | assumption | exact rfl) ?_; go_frame; go_big_quiet_on) | (go_big_quiet_op; (first | go_big_quiet_on | ((apply Exists.intro); (refine ⟨fun w1 hw => ?_, ?_⟩); (focus ((have hw := Cl.out hw); (fail))); (go_big_quiet_on))))))))
              (refine wpQuiet_nil ?_); (intro w1 hB); (clear hF hA hn1 hn2); (have hA := Cl.out hB); (clear hB); (try simp only [uA] at hA); have hF := hA.facts; (try simp only [fZ] at hF)
              have hsm := Lib.hid (insD_same (e := ((r1, t1), (⟨s, d0, d1, d2, d3, d4, d5, d6⟩ : A8))) hpl.out hy'.out (of_decide_eq_true hd'.out))
              have hB := hA.row_shut (e := 52) (size := 10) (g := go) (n := out.length) (cap := capo) (xs := flatD out) sZ hoL hcpo hom hot'.out
              have hC := hB.row_shut (e := 52) (size := 10) (g := gl) (n := l.length) (cap := cap) (xs := flatD l) sZ hll hcap hlm hlt'.out
              have hD := hC.pick (K := [rowD (.slice (some ⟨go, 0, none⟩) out.length capo) out, rowD (.slice (some ⟨gl, 0, none⟩) l.length cap) l]) pZ
              clear hA hB hC
              go_wp2_with (first | ((with_reducible refine gst ?_); refine wS hA ?_; clear hF hA; intro w1 hA; (try simp only [uA] at hA); have hF := hA.facts; (try simp only [fZ] at hF)) | ((with_reducible refine gbx ?_); refine wB hA ?_; clear hF hA; intro b1 w1 hA hb1; (try simp only [uA] at hA); have hF := hA.facts; (try simp only [fZ] at hF)))
              go_roundg G
              case measure => exact hGk.out
              case rel => exact ⟨i + 1, by simp, hikG, by rw [hns.out, hsm.out]; exact hD⟩
          · go_wp2_with (first | ((with_reducible refine gst ?_); refine wS hA ?_; clear hF hA; intro w1 hA; (try simp only [uA] at hA); have hF := hA.facts; (try simp only [fZ] at hF)) | ((with_reducible refine gbx ?_); refine wB hA ?_; clear hF hA; intro b1 w1 hA hb1; (try simp only [uA] at hA); have hF := hA.facts; (try simp only [fZ] at hF)))
            try go_frame
            (refine wp_region_all (Cl _ _ _) (by kernel_rfl) (by kernel_rfl) (Cl.drew hA) ?_); (have hn1 := Cl.none hA); (have hn2 := Cl.none2 hA); (repeat (first | go_big_quiet_skip | (go_big_quiet_want; (first | (refine quiet_loads_at (ty := 45) (n := 2) rfl rfl sR (by kernel_rfl) (by kernel_rfl) (by first | assumption | ((try simp only [List.drop_succ_cons, List.drop_zero, List.take_succ_cons, List.take_zero]) <;> exact rfl)) (by exact rfl) ?_; go_frame; go_big_quiet_on) | (refine quiet_load_at rfl rfl sR (by kernel_rfl) (by first | assumption | exact rfl) ?_; go_frame; go_big_quiet_on) | (go_big_quiet_op; (first | go_big_quiet_on | ((apply Exists.intro); (refine ⟨fun w1 hw => ?_, ?_⟩); (focus ((have hw := Cl.out hw); (exact before_in hw (r2, t2) (r1, t1) hc))); (go_big_quiet_on))))))))
            (refine wpQuiet_nil ?_); (intro w1 hB); (clear hF hA hn1 hn2); (have hA := Cl.out hB); (clear hB); (try simp only [uA] at hA); have hF := hA.facts; (try simp only [fZ] at hF)
            go_wp2_with (first | ((with_reducible refine gst ?_); refine wS hA ?_; clear hF hA; intro w1 hA; (try simp only [uA] at hA); have hF := hA.facts; (try simp only [fZ] at hF)) | ((with_reducible refine gbx ?_); refine wB hA ?_; clear hF hA; intro b1 w1 hA hb1; (try simp only [uA] at hA); have hF := hA.facts; (try simp only [fZ] at hF)))
            go_roundg (gk - 1)
            case measure => omega
            case rel =>
              have hB := hA.row_shut (e := 52) (size := 10) (g := go) (n := out.length) (cap := capo) (xs := flatD out) sZ hoL hcpo hom hot'.out
              refine ⟨k + 1, by simp, by omega, fun z hz => ?_, hB.pick pZ⟩
              rw [htk.out] at hz
              rcases List.mem_append.1 hz with hz | hz
              · exact hah'.out z hz
              · rw [List.mem_singleton.1 hz, hyy.out]; exact of_decide_eq_true hc'.out
        · have hkI : ¬ (k : Int) < out.length := by omega
          have hpl := place_is (x := (r1, t1)) (show k ≤ out.length by omega) hah'.out fun z hz => by rw [List.getElem?_eq_none (by omega)] at hz; cases hz
          have hnw := Lib.hid (insD_new (e := ((r1, t1), (⟨s, d0, d1, d2, d3, d4, d5, d6⟩ : A8))) hpl fun z hz => by rw [List.getElem?_eq_none (by omega)] at hz; cases hz)
          clear hpl
          have hkd : decide ((k : Int) < out.length) = false := decide_eq_false hkI
          (try simp only [uA] at hA); have hF := hA.facts; (try simp only [fZ] at hF)
          go_wp2_with (first | ((with_reducible refine gst ?_); refine wS hA ?_; clear hF hA; intro w1 hA; (try simp only [uA] at hA); have hF := hA.facts; (try simp only [fZ] at hF)) | ((with_reducible refine gbx ?_); refine wB hA ?_; clear hF hA; intro b1 w1 hA hb1; (try simp only [uA] at hA); have hF := hA.facts; (try simp only [fZ] at hF)))
          try go_frame
          (refine wp_region_all (Cl _ _ _) (by kernel_rfl) (by kernel_rfl) (Cl.drew hA) ?_); (have hn1 := Cl.none hA); (have hn2 := Cl.none2 hA); (repeat (first | go_big_quiet_skip | (go_big_quiet_want; (first | (refine quiet_loads_at (ty := 45) (n := 2) rfl rfl sR (by kernel_rfl) (by kernel_rfl) (by first | assumption | ((try simp only [List.drop_succ_cons, List.drop_zero, List.take_succ_cons, List.take_zero]) <;> exact rfl)) (by exact rfl) ?_; go_frame; go_big_quiet_on) | (refine quiet_load_at rfl rfl sR (by kernel_rfl) (by first | assumption | exact rfl) ?_; go_frame; go_big_quiet_on) | (go_big_quiet_op; (first | go_big_quiet_on | ((apply Exists.intro); (refine ⟨fun w1 hw => ?_, ?_⟩); (focus ((have hw := Cl.out hw); (fail))); (go_big_quiet_on))))))))
          (refine wpQuiet_nil ?_); (intro w1 hB); (clear hF hA hn1 hn2); (have hA := Cl.out hB); (clear hB); (try simp only [uA] at hA); have hF := hA.facts; (try simp only [fZ] at hF)
          go_wp2_with (first | ((with_reducible refine gst ?_); refine wS hA ?_; clear hF hA; intro w1 hA; (try simp only [uA] at hA); have hF := hA.facts; (try simp only [fZ] at hF)) | ((with_reducible refine gbx ?_); refine wB hA ?_; clear hF hA; intro b1 w1 hA hb1; (try simp only [uA] at hA); have hF := hA.facts; (try simp only [fZ] at hF)))
          try go_frame
          (refine wp_region_all (Cl _ _ _) (by kernel_rfl) (by kernel_rfl) (Cl.drew hA) ?_); (have hn1 := Cl.none hA); (have hn2 := Cl.none2 hA); (repeat (first | go_big_quiet_skip | (go_big_quiet_want; (first | (refine quiet_loads_at (ty := 45) (n := 2) rfl rfl sR (by kernel_rfl) (by kernel_rfl) (by first | assumption | ((try simp only [List.drop_succ_cons, List.drop_zero, List.take_succ_cons, List.take_zero]) <;> exact rfl)) (by exact rfl) ?_; go_frame; go_big_quiet_on) | (refine quiet_load_at rfl rfl sR (by kernel_rfl) (by first | assumption | exact rfl) ?_; go_frame; go_big_quiet_on) | (go_big_quiet_op; (first | go_big_quiet_on | ((apply Exists.intro); (refine ⟨fun w1 hw => ?_, ?_⟩); (focus ((have hw := Cl.out hw); (fail))); (go_big_quiet_on))))))))
          (refine wpQuiet_nil ?_); (intro w1 hB); (clear hF hA hn1 hn2); (have hA := Cl.out hB); (clear hB); (try simp only [uA] at hA); have hF := hA.facts; (try simp only [fZ] at hF)
          clear hF
          have hB := row_nilD hA
          clear hA; have hA := hB; clear hB
          have hl1 : (out.take k).length = k := by rw [List.length_take]; omega
          have hl2 : (out.drop k).length = out.length - k := List.length_drop
          (try simp only [uA] at hA); have hF := hA.facts; (try simp only [fZ] at hF)
          go_wp2_with (first | (refine wpList_slice_to (e := 52) (size := 10) (n := (out).length) (xs := flatD (out)) (v := .slice axo (out).length capo) (k := k) rfl rfl Try.underlying28 hi0 hz1 (by (try simp only [Act.eval, eV]) <;> exact rfl) (by (try simp only [Act.eval, eV]) <;> exact rfl) (hA.get (A := Part.row 52 10 (.slice axo (out).length capo) (out).length (flatD (out))) sR) (by omega) ?_; intro xv hxv0; have hxv : Reads _ xv ((out).take (k)).length (flatD ((out).take (k))) := (by rw [hl1]; unfold flatD at hxv0 ⊢; rw [flat_take cellsD_len] at hxv0; exact hxv0); clear hxv0) | (refine wpList_append_at (e := 52) (size := 10) (v := .slice none 0 0) (xs := flatD []) (n := ([] : List IA).length) (m := ((out).take (k)).length) (news := flatD ((out).take (k))) rfl _ _ 28 rfl Try.underlying28 hi0 hz0 hz1 hz2 rfl (by omega) hA sR (by (try simp only [Act.eval, eV]) <;> exact rfl) (by (try simp only [Act.eval, eV]) <;> exact rfl) (flat_len _ _ cellsD_len _) hxv (flat_one cellsD_one _) (by unfold maxLen; simp; omega) (by simp; omega) ?_; intro v1 w1 hB; rw [rowD_app] at hB; simp only [List.nil_append] at hB; clear hF hA; have hA := hB; clear hB; (try simp only [uA] at hA); have hF := hA.facts; (try simp only [fZ] at hF)) | (refine wpList_one_at (e := 52) (vs := cellsD ((r1, t1), (⟨s, d0, d1, d2, d3, d4, d5, d6⟩ : A8))) rfl rfl (by (try simp only [Act.eval, eV]) <;> exact rfl) (fun _ => by kernel_rfl) hA ?_; intro b2 w1 hB hb2; clear hF hA; have hA := hB; clear hB; (try simp only [uA] at hA); have hF := hA.facts; (try simp only [fZ] at hF)) | (refine wpList_append_at (e := 52) (size := 10) (v := v1) (xs := flatD ((out).take (k))) (n := ((out).take (k)).length) (m := 1) (news := cellsD ((r1, t1), (⟨s, d0, d1, d2, d3, d4, d5, d6⟩ : A8))) rfl _ _ 28 rfl Try.underlying28 hi0 hz0 hz1 hz2 rfl (by omega) hA sR (by (try simp only [Act.eval, eV]) <;> exact rfl) (by (try simp only [Act.eval, eV]) <;> exact rfl) (rfl) (hA.cells_reads sR _ _) (cellsD_one _) (by unfold maxLen; simp; omega) (by simp; omega) ?_; intro v2 w1 hB; rw [rowD_snoc] at hB; clear hF hA; have hA := hB; clear hB; (try simp only [uA] at hA); have hF := hA.facts; (try simp only [fZ] at hF)) | (refine wpList_slice_from (e := 52) (size := 10) (n := (out).length) (xs := flatD (out)) (v := .slice axo (out).length capo) (k := k) rfl rfl Try.underlying28 hi0 hz1 (by (try simp only [Act.eval, eV]) <;> exact rfl) (by (try simp only [Act.eval, eV]) <;> exact rfl) (hA.get (A := Part.row 52 10 (.slice axo (out).length capo) (out).length (flatD (out))) sR) (by omega) ?_; intro yv hxv0; have hyv : Reads _ yv ((out).drop (k)).length (flatD ((out).drop (k))) := (by rw [hl2]; unfold flatD at hxv0 ⊢; rw [flat_drop cellsD_len] at hxv0; exact hxv0); clear hxv0) | (refine wpList_append_at (e := 52) (size := 10) (v := v2) (xs := flatD ((out).take (k) ++ [((r1, t1), (⟨s, d0, d1, d2, d3, d4, d5, d6⟩ : A8))])) (n := ((out).take (k) ++ [((r1, t1), (⟨s, d0, d1, d2, d3, d4, d5, d6⟩ : A8))]).length) (m := ((out).drop (k)).length) (news := flatD ((out).drop (k))) rfl _ _ 28 rfl Try.underlying28 hi0 hz0 hz1 hz2 rfl (by omega) hA sR (by (try simp only [Act.eval, eV]) <;> exact rfl) (by (try simp only [Act.eval, eV]) <;> exact rfl) (flat_len _ _ cellsD_len _) hyv (flat_one cellsD_one _) (by unfold maxLen; simp; omega) (by simp; omega) ?_; intro v3 w1 hB; rw [rowD_app] at hB; obtain ⟨ax3, n3, cap3, hv3, hn3⟩ := hB.row_hid .here; subst hv3; clear hF hA; have hA := hB; clear hB; (try simp only [uA] at hA); have hF := hA.facts; (try simp only [fZ] at hF)) | ((with_reducible show wpList _ _ _ ({ dst := some 58, op := Op.load _ _, type := _, pos := _, after := _, guard := _ } :: _) _ _); refine wpList_loadCut_at (b := gl) (j := i * 10) (vs := [.int .i64 r1, .int .i64 t1, .int .i64 s, .int .i64 d0, .int .i64 d1, .int .i64 d2, .int .i64 d3, .int .i64 d4, .int .i64 d5, .int .i64 d6]) rfl rfl (by (try simp only [Act.eval, eV]) <;> exact rfl) hA sZ he10'.out (by kernel_rfl) (by kernel_rfl) ?_) | ((with_reducible refine gst ?_); refine wS hA ?_; clear hF hA; intro w1 hA; (try simp only [uA] at hA); have hF := hA.facts; (try simp only [fZ] at hF)) | ((with_reducible refine gbx ?_); refine wB hA ?_; clear hF hA; intro b1 w1 hA hb1; (try simp only [uA] at hA); have hF := hA.facts; (try simp only [fZ] at hF)))
          go_roundg G
          case measure => exact hGk.out
          case rel =>
            have hC := hA.row_shut (e := 52) (size := 10) (g := gl) (n := l.length) (cap := cap) (xs := flatD l) sZ hll hcap hlm hlt'.out
            exact ⟨i + 1, by simp, hikG, by rw [hns.out, hnw.out]; exact hC.pick pZ⟩
    · have hF := hA.facts
      (try simp only [uA] at hA); have hF := hA.facts; (try simp only [fZ] at hF)
      go_wp2_with (first | ((with_reducible refine gst ?_); refine wS hA ?_; clear hF hA; intro w1 hA; (try simp only [uA] at hA); have hF := hA.facts; (try simp only [fZ] at hF)) | ((with_reducible refine gbx ?_); refine wB hA ?_; clear hF hA; intro b1 w1 hA hb1; (try simp only [uA] at hA); have hF := hA.facts; (try simp only [fZ] at hF)))
      go_ret
      rw [List.take_of_length_le (by omega)] at hA
      exact ⟨_, rfl, hA.pick pZ⟩
end Go.Proofs.Ytgicohkmfbbbdaa.Ref
end

section
namespace Go.Proofs.Ytgicohkmfbbbdaa.Ref
open Go.RowKit
open Attr (A8 rightI)
set_option linter.unusedSimpArgs false
set_option linter.unusedVariables false
attribute [-go_sem] run_eql_struct run_neq_struct run_eqGuard_agg

set_option maxRecDepth 100000 in
theorem idR_any (r t : Int) (w : World) : Calls Try.prog 37 #[.agg #[.int .i64 r, .int .i64 t]] w fun e w' => e = .returned (.bool (rightI r t)) ∧ Ext w w' := by
  have hA : At [] w [] w := At.start (L0 := []) trivial
  have hF := hA.facts
  obtain ⟨x0, h0⟩ : ∃ x, decide (0 ≤ r) = x := ⟨_, rfl⟩
  obtain ⟨x1, h1⟩ : ∃ x, decide (r < 7) = x := ⟨_, rfl⟩
  obtain ⟨x2, h2⟩ : ∃ x, decide (0 ≤ t) = x := ⟨_, rfl⟩
  obtain ⟨x3, h3⟩ : ∃ x, decide (t < 1024) = x := ⟨_, rfl⟩
  have e : rightI r t = (x0 && x1 && x2 && x3) := by
    have h6 : decide (r ≤ 6) = x1 := by rw [← h1, decide_eq_decide]; omega
    unfold rightI; rw [h0, h6, h2, h3]
  rw [e]
  clear e
  (try simp only [uA] at hA); have hF := hA.facts; (try simp only [fZ] at hF)
  go_enter Try.func37, Try.ntmps37

  cases x0
  · go_wp2_with (first | ((with_reducible refine gbx ?_); refine wX 45 (.agg #[.int .i64 r, .int .i64 t]) [.int .i64 r, .int .i64 t] hA ?_; clear hF hA; intro bX w1 hA hbX; (try simp only [uA] at hA); have hF := hA.facts; (try simp only [fZ] at hF)) | ((with_reducible refine gst ?_); refine wS hA ?_; clear hF hA; intro w1 hA; (try simp only [uA] at hA); have hF := hA.facts; (try simp only [fZ] at hF)) | ((with_reducible refine gbx ?_); refine wB hA ?_; clear hF hA; intro b1 w1 hA hb1; (try simp only [uA] at hA); have hF := hA.facts; (try simp only [fZ] at hF)))
    go_ret
    exact ⟨rfl, hA.toExt⟩
  · cases x1
    · go_wp2_with (first | ((with_reducible refine gbx ?_); refine wX 45 (.agg #[.int .i64 r, .int .i64 t]) [.int .i64 r, .int .i64 t] hA ?_; clear hF hA; intro bX w1 hA hbX; (try simp only [uA] at hA); have hF := hA.facts; (try simp only [fZ] at hF)) | ((with_reducible refine gst ?_); refine wS hA ?_; clear hF hA; intro w1 hA; (try simp only [uA] at hA); have hF := hA.facts; (try simp only [fZ] at hF)) | ((with_reducible refine gbx ?_); refine wB hA ?_; clear hF hA; intro b1 w1 hA hb1; (try simp only [uA] at hA); have hF := hA.facts; (try simp only [fZ] at hF)))
      go_ret
      exact ⟨rfl, hA.toExt⟩
    · cases x2
      · go_wp2_with (first | ((with_reducible refine gbx ?_); refine wX 45 (.agg #[.int .i64 r, .int .i64 t]) [.int .i64 r, .int .i64 t] hA ?_; clear hF hA; intro bX w1 hA hbX; (try simp only [uA] at hA); have hF := hA.facts; (try simp only [fZ] at hF)) | ((with_reducible refine gst ?_); refine wS hA ?_; clear hF hA; intro w1 hA; (try simp only [uA] at hA); have hF := hA.facts; (try simp only [fZ] at hF)) | ((with_reducible refine gbx ?_); refine wB hA ?_; clear hF hA; intro b1 w1 hA hb1; (try simp only [uA] at hA); have hF := hA.facts; (try simp only [fZ] at hF)))
        go_ret
        exact ⟨rfl, hA.toExt⟩
      · cases x3
        · go_wp2_with (first | ((with_reducible refine gbx ?_); refine wX 45 (.agg #[.int .i64 r, .int .i64 t]) [.int .i64 r, .int .i64 t] hA ?_; clear hF hA; intro bX w1 hA hbX; (try simp only [uA] at hA); have hF := hA.facts; (try simp only [fZ] at hF)) | ((with_reducible refine gst ?_); refine wS hA ?_; clear hF hA; intro w1 hA; (try simp only [uA] at hA); have hF := hA.facts; (try simp only [fZ] at hF)) | ((with_reducible refine gbx ?_); refine wB hA ?_; clear hF hA; intro b1 w1 hA hb1; (try simp only [uA] at hA); have hF := hA.facts; (try simp only [fZ] at hF)))
          go_ret
          exact ⟨rfl, hA.toExt⟩
        · go_wp2_with (first | ((with_reducible refine gbx ?_); refine wX 45 (.agg #[.int .i64 r, .int .i64 t]) [.int .i64 r, .int .i64 t] hA ?_; clear hF hA; intro bX w1 hA hbX; (try simp only [uA] at hA); have hF := hA.facts; (try simp only [fZ] at hF)) | ((with_reducible refine gst ?_); refine wS hA ?_; clear hF hA; intro w1 hA; (try simp only [uA] at hA); have hF := hA.facts; (try simp only [fZ] at hF)) | ((with_reducible refine gbx ?_); refine wB hA ?_; clear hF hA; intro b1 w1 hA hb1; (try simp only [uA] at hA); have hF := hA.facts; (try simp only [fZ] at hF)))
          go_ret
          exact ⟨rfl, hA.toExt⟩
set_option maxRecDepth 100000 in
set_option maxHeartbeats 4000000 in
theorem attrR_any (a : A8) (w : World) : Calls Try.prog 38 #[a.val] w fun e w' => e = .returned (.bool a.right) ∧ Ext w w' := by
  have hA : At [] w [] w := At.start (L0 := []) trivial
  have hF := hA.facts
  obtain ⟨s, d0, d1, d2, d3, d4, d5, d6⟩ := a
  obtain ⟨x0, hx0⟩ : ∃ x, decide (d0 < 0) = x := ⟨_, rfl⟩
  obtain ⟨y0, hy0⟩ : ∃ y, decide (1024 < d0) = y := ⟨_, rfl⟩
  obtain ⟨x1, hx1⟩ : ∃ x, decide (d1 < 0) = x := ⟨_, rfl⟩
  obtain ⟨y1, hy1⟩ : ∃ y, decide (1024 < d1) = y := ⟨_, rfl⟩
  obtain ⟨x2, hx2⟩ : ∃ x, decide (d2 < 0) = x := ⟨_, rfl⟩
  obtain ⟨y2, hy2⟩ : ∃ y, decide (1024 < d2) = y := ⟨_, rfl⟩
  obtain ⟨x3, hx3⟩ : ∃ x, decide (d3 < 0) = x := ⟨_, rfl⟩
  obtain ⟨y3, hy3⟩ : ∃ y, decide (1024 < d3) = y := ⟨_, rfl⟩
  obtain ⟨x4, hx4⟩ : ∃ x, decide (d4 < 0) = x := ⟨_, rfl⟩
  obtain ⟨y4, hy4⟩ : ∃ y, decide (1024 < d4) = y := ⟨_, rfl⟩
  obtain ⟨x5, hx5⟩ : ∃ x, decide (d5 < 0) = x := ⟨_, rfl⟩
  obtain ⟨y5, hy5⟩ : ∃ y, decide (1024 < d5) = y := ⟨_, rfl⟩
  obtain ⟨x6, hx6⟩ : ∃ x, decide (d6 < 0) = x := ⟨_, rfl⟩
  obtain ⟨y6, hy6⟩ : ∃ y, decide (1024 < d6) = y := ⟨_, rfl⟩
  obtain ⟨s0, hs0⟩ : ∃ x, decide (0 ≤ s) = x := ⟨_, rfl⟩
  obtain ⟨s1, hs1⟩ : ∃ x, decide (s ≤ 1073741824) = x := ⟨_, rfl⟩
  have e : A8.right ⟨s, d0, d1, d2, d3, d4, d5, d6⟩ = (!(x0 || y0) && !(x1 || y1) && !(x2 || y2) && !(x3 || y3) && !(x4 || y4) && !(x5 || y5) && !(x6 || y6) && (s0 && s1)) := by unfold A8.right Attr.badD; rw [hx0, hy0, hx1, hy1, hx2, hy2, hx3, hy3, hx4, hy4, hx5, hy5, hx6, hy6, hs0, hs1]
  rw [e]
  clear e
  simp only [A8.val]
  (try simp only [uA] at hA); have hF := hA.facts; (try simp only [fZ] at hF)
  go_enter Try.func38, Try.ntmps38
  go_wp2_with (first | ((with_reducible refine gbx ?_); refine wX 50 (.agg #[.int .i64 s, .int .i64 d0, .int .i64 d1, .int .i64 d2, .int .i64 d3, .int .i64 d4, .int .i64 d5, .int .i64 d6]) [.int .i64 s, .int .i64 d0, .int .i64 d1, .int .i64 d2, .int .i64 d3, .int .i64 d4, .int .i64 d5, .int .i64 d6] hA ?_; clear hF hA; intro bA w1 hA hbA; (try simp only [uA] at hA); have hF := hA.facts; (try simp only [fZ] at hF)) | ((with_reducible refine gst ?_); refine wS hA ?_; clear hF hA; intro w1 hA; (try simp only [uA] at hA); have hF := hA.facts; (try simp only [fZ] at hF)) | ((with_reducible refine gbx ?_); refine wB hA ?_; clear hF hA; intro b1 w1 hA hb1; (try simp only [uA] at hA); have hF := hA.facts; (try simp only [fZ] at hF)))
  refine wp_loop_rounds 8 ?_
  rw [rounds_succ]
  cases x0
  · cases y0
    · go_wp2_with (first | ((with_reducible refine gst ?_); refine wS hA ?_; clear hF hA; intro w1 hA; (try simp only [uA] at hA); have hF := hA.facts; (try simp only [fZ] at hF)) | ((with_reducible refine gbx ?_); refine wB hA ?_; clear hF hA; intro b1 w1 hA hb1; (try simp only [uA] at hA); have hF := hA.facts; (try simp only [fZ] at hF)))
      rw [rounds_succ]
      cases x1
      · cases y1
        · go_wp2_with (first | ((with_reducible refine gst ?_); refine wS hA ?_; clear hF hA; intro w1 hA; (try simp only [uA] at hA); have hF := hA.facts; (try simp only [fZ] at hF)) | ((with_reducible refine gbx ?_); refine wB hA ?_; clear hF hA; intro b1 w1 hA hb1; (try simp only [uA] at hA); have hF := hA.facts; (try simp only [fZ] at hF)))
          rw [rounds_succ]
          cases x2
          · cases y2
            · go_wp2_with (first | ((with_reducible refine gst ?_); refine wS hA ?_; clear hF hA; intro w1 hA; (try simp only [uA] at hA); have hF := hA.facts; (try simp only [fZ] at hF)) | ((with_reducible refine gbx ?_); refine wB hA ?_; clear hF hA; intro b1 w1 hA hb1; (try simp only [uA] at hA); have hF := hA.facts; (try simp only [fZ] at hF)))
              rw [rounds_succ]
              cases x3
              · cases y3
                · go_wp2_with (first | ((with_reducible refine gst ?_); refine wS hA ?_; clear hF hA; intro w1 hA; (try simp only [uA] at hA); have hF := hA.facts; (try simp only [fZ] at hF)) | ((with_reducible refine gbx ?_); refine wB hA ?_; clear hF hA; intro b1 w1 hA hb1; (try simp only [uA] at hA); have hF := hA.facts; (try simp only [fZ] at hF)))
                  rw [rounds_succ]
                  cases x4
                  · cases y4
                    · go_wp2_with (first | ((with_reducible refine gst ?_); refine wS hA ?_; clear hF hA; intro w1 hA; (try simp only [uA] at hA); have hF := hA.facts; (try simp only [fZ] at hF)) | ((with_reducible refine gbx ?_); refine wB hA ?_; clear hF hA; intro b1 w1 hA hb1; (try simp only [uA] at hA); have hF := hA.facts; (try simp only [fZ] at hF)))
                      rw [rounds_succ]
                      cases x5
                      · cases y5
                        · go_wp2_with (first | ((with_reducible refine gst ?_); refine wS hA ?_; clear hF hA; intro w1 hA; (try simp only [uA] at hA); have hF := hA.facts; (try simp only [fZ] at hF)) | ((with_reducible refine gbx ?_); refine wB hA ?_; clear hF hA; intro b1 w1 hA hb1; (try simp only [uA] at hA); have hF := hA.facts; (try simp only [fZ] at hF)))
                          rw [rounds_succ]
                          cases x6
                          · cases y6
                            · go_wp2_with (first | ((with_reducible refine gst ?_); refine wS hA ?_; clear hF hA; intro w1 hA; (try simp only [uA] at hA); have hF := hA.facts; (try simp only [fZ] at hF)) | ((with_reducible refine gbx ?_); refine wB hA ?_; clear hF hA; intro b1 w1 hA hb1; (try simp only [uA] at hA); have hF := hA.facts; (try simp only [fZ] at hF)))
                              rw [rounds_succ]
                              cases s0
                              · go_wp2_with (first | ((with_reducible refine gst ?_); refine wS hA ?_; clear hF hA; intro w1 hA; (try simp only [uA] at hA); have hF := hA.facts; (try simp only [fZ] at hF)) | ((with_reducible refine gbx ?_); refine wB hA ?_; clear hF hA; intro b1 w1 hA hb1; (try simp only [uA] at hA); have hF := hA.facts; (try simp only [fZ] at hF)))
                                go_ret
                                exact ⟨rfl, hA.toExt⟩
                              · go_wp2_with (first | ((with_reducible refine gst ?_); refine wS hA ?_; clear hF hA; intro w1 hA; (try simp only [uA] at hA); have hF := hA.facts; (try simp only [fZ] at hF)) | ((with_reducible refine gbx ?_); refine wB hA ?_; clear hF hA; intro b1 w1 hA hb1; (try simp only [uA] at hA); have hF := hA.facts; (try simp only [fZ] at hF)))
                                go_ret
                                exact ⟨rfl, hA.toExt⟩
                            · go_wp2_with (first | ((with_reducible refine gst ?_); refine wS hA ?_; clear hF hA; intro w1 hA; (try simp only [uA] at hA); have hF := hA.facts; (try simp only [fZ] at hF)) | ((with_reducible refine gbx ?_); refine wB hA ?_; clear hF hA; intro b1 w1 hA hb1; (try simp only [uA] at hA); have hF := hA.facts; (try simp only [fZ] at hF)))
                              go_ret
                              exact ⟨rfl, hA.toExt⟩
                          · go_wp2_with (first | ((with_reducible refine gst ?_); refine wS hA ?_; clear hF hA; intro w1 hA; (try simp only [uA] at hA); have hF := hA.facts; (try simp only [fZ] at hF)) | ((with_reducible refine gbx ?_); refine wB hA ?_; clear hF hA; intro b1 w1 hA hb1; (try simp only [uA] at hA); have hF := hA.facts; (try simp only [fZ] at hF)))
                            go_ret
                            exact ⟨rfl, hA.toExt⟩
                        · go_wp2_with (first | ((with_reducible refine gst ?_); refine wS hA ?_; clear hF hA; intro w1 hA; (try simp only [uA] at hA); have hF := hA.facts; (try simp only [fZ] at hF)) | ((with_reducible refine gbx ?_); refine wB hA ?_; clear hF hA; intro b1 w1 hA hb1; (try simp only [uA] at hA); have hF := hA.facts; (try simp only [fZ] at hF)))
                          go_ret
                          exact ⟨rfl, hA.toExt⟩
                      · go_wp2_with (first | ((with_reducible refine gst ?_); refine wS hA ?_; clear hF hA; intro w1 hA; (try simp only [uA] at hA); have hF := hA.facts; (try simp only [fZ] at hF)) | ((with_reducible refine gbx ?_); refine wB hA ?_; clear hF hA; intro b1 w1 hA hb1; (try simp only [uA] at hA); have hF := hA.facts; (try simp only [fZ] at hF)))
                        go_ret
                        exact ⟨rfl, hA.toExt⟩
                    · go_wp2_with (first | ((with_reducible refine gst ?_); refine wS hA ?_; clear hF hA; intro w1 hA; (try simp only [uA] at hA); have hF := hA.facts; (try simp only [fZ] at hF)) | ((with_reducible refine gbx ?_); refine wB hA ?_; clear hF hA; intro b1 w1 hA hb1; (try simp only [uA] at hA); have hF := hA.facts; (try simp only [fZ] at hF)))
                      go_ret
                      exact ⟨rfl, hA.toExt⟩
                  · go_wp2_with (first | ((with_reducible refine gst ?_); refine wS hA ?_; clear hF hA; intro w1 hA; (try simp only [uA] at hA); have hF := hA.facts; (try simp only [fZ] at hF)) | ((with_reducible refine gbx ?_); refine wB hA ?_; clear hF hA; intro b1 w1 hA hb1; (try simp only [uA] at hA); have hF := hA.facts; (try simp only [fZ] at hF)))
                    go_ret
                    exact ⟨rfl, hA.toExt⟩
                · go_wp2_with (first | ((with_reducible refine gst ?_); refine wS hA ?_; clear hF hA; intro w1 hA; (try simp only [uA] at hA); have hF := hA.facts; (try simp only [fZ] at hF)) | ((with_reducible refine gbx ?_); refine wB hA ?_; clear hF hA; intro b1 w1 hA hb1; (try simp only [uA] at hA); have hF := hA.facts; (try simp only [fZ] at hF)))
                  go_ret
                  exact ⟨rfl, hA.toExt⟩
              · go_wp2_with (first | ((with_reducible refine gst ?_); refine wS hA ?_; clear hF hA; intro w1 hA; (try simp only [uA] at hA); have hF := hA.facts; (try simp only [fZ] at hF)) | ((with_reducible refine gbx ?_); refine wB hA ?_; clear hF hA; intro b1 w1 hA hb1; (try simp only [uA] at hA); have hF := hA.facts; (try simp only [fZ] at hF)))
                go_ret
                exact ⟨rfl, hA.toExt⟩
            · go_wp2_with (first | ((with_reducible refine gst ?_); refine wS hA ?_; clear hF hA; intro w1 hA; (try simp only [uA] at hA); have hF := hA.facts; (try simp only [fZ] at hF)) | ((with_reducible refine gbx ?_); refine wB hA ?_; clear hF hA; intro b1 w1 hA hb1; (try simp only [uA] at hA); have hF := hA.facts; (try simp only [fZ] at hF)))
              go_ret
              exact ⟨rfl, hA.toExt⟩
          · go_wp2_with (first | ((with_reducible refine gst ?_); refine wS hA ?_; clear hF hA; intro w1 hA; (try simp only [uA] at hA); have hF := hA.facts; (try simp only [fZ] at hF)) | ((with_reducible refine gbx ?_); refine wB hA ?_; clear hF hA; intro b1 w1 hA hb1; (try simp only [uA] at hA); have hF := hA.facts; (try simp only [fZ] at hF)))
            go_ret
            exact ⟨rfl, hA.toExt⟩
        · go_wp2_with (first | ((with_reducible refine gst ?_); refine wS hA ?_; clear hF hA; intro w1 hA; (try simp only [uA] at hA); have hF := hA.facts; (try simp only [fZ] at hF)) | ((with_reducible refine gbx ?_); refine wB hA ?_; clear hF hA; intro b1 w1 hA hb1; (try simp only [uA] at hA); have hF := hA.facts; (try simp only [fZ] at hF)))
          go_ret
          exact ⟨rfl, hA.toExt⟩
      · go_wp2_with (first | ((with_reducible refine gst ?_); refine wS hA ?_; clear hF hA; intro w1 hA; (try simp only [uA] at hA); have hF := hA.facts; (try simp only [fZ] at hF)) | ((with_reducible refine gbx ?_); refine wB hA ?_; clear hF hA; intro b1 w1 hA hb1; (try simp only [uA] at hA); have hF := hA.facts; (try simp only [fZ] at hF)))
        go_ret
        exact ⟨rfl, hA.toExt⟩
    · go_wp2_with (first | ((with_reducible refine gst ?_); refine wS hA ?_; clear hF hA; intro w1 hA; (try simp only [uA] at hA); have hF := hA.facts; (try simp only [fZ] at hF)) | ((with_reducible refine gbx ?_); refine wB hA ?_; clear hF hA; intro b1 w1 hA hb1; (try simp only [uA] at hA); have hF := hA.facts; (try simp only [fZ] at hF)))
      go_ret
      exact ⟨rfl, hA.toExt⟩
  · go_wp2_with (first | ((with_reducible refine gst ?_); refine wS hA ?_; clear hF hA; intro w1 hA; (try simp only [uA] at hA); have hF := hA.facts; (try simp only [fZ] at hF)) | ((with_reducible refine gbx ?_); refine wB hA ?_; clear hF hA; intro b1 w1 hA hb1; (try simp only [uA] at hA); have hF := hA.facts; (try simp only [fZ] at hF)))
    go_ret
    exact ⟨rfl, hA.toExt⟩

/-! ### A command's Right and Foot -/
end Go.Proofs.Ytgicohkmfbbbdaa.Ref
end
