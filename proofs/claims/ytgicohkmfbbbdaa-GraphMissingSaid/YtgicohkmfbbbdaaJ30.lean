/- GrbI, joined. -/
import Derived.Test.YtgicohkmfbbbdaaJ28
import Derived.Test.YtgicohkmfbbbdaaJ16
import Derived.Test.YtgicohkmfbbbdaaJ29
import Derived.Deep.CutBlock
import Derived.Deep.CutRange
import Derived.Test.YtgicohkmfbbbdaaJ6
section
namespace Go.Proofs.Ytgicohkmfbbbdaa.Gr
open _root_.Go.Proofs.Ytgicohkmfbbbdaa.Mark (ltID sortID cmpID)
open _root_.Go.Proofs.Ytgicohkmfbbbdaa.Attr (rightI rightI_iff guardI eqlI_any neqI_any guardJ eqlJ_any neqJ_any guardF eqlF_any neqF_any eq7)
open _root_.Go.Proofs.Ytgicohkmfbbbdaa.Ref (rowD flatD cellsD cellsD_len elemD IA findD find_any rowJ rowJ_snoc infoJ sortedD sortedD_len sortedD_get sortedD_own sortedD_sorted leadsN_any LnPost)
open Go.RowKit
open Attr (A8 thro)
set_option linter.unusedSimpArgs false
set_option linter.unusedVariables false
attribute [-go_sem] run_eql_struct run_neq_struct run_eqGuard_agg
attribute [local go_sem] guardI eqlI_any neqI_any guardJ eqlJ_any neqJ_any guardF eqlF_any neqF_any

theorem ext_cmp (x y : I2) {w : World} {v : Int} (hv : cmpID x y = v) : Calls Try.prog 26 #[.agg #[.int .i64 x.1, .int .i64 x.2], .agg #[.int .i64 y.1, .int .i64 y.2]] w fun e w' => e = .returned (.int .i64 v) ∧ Ext w w' := by
  subst hv
  exact (Mark.compare_exact x y w).mono fun e w' ⟨h1, q, os, h2⟩ => ⟨h1, by rw [h2]; exact grow_ext w q os⟩
theorem cmp_neg {x y : I2} (h : ltID x y) : decide ((0 : Int) ≤ cmpID x y) = false := by
  have h1 := Mark.cmpID_lt x y
  rw [decide_eq_true h] at h1
  unfold ltOf at h1
  have h2 : cmpID x y < 0 := by simpa using h1
  exact decide_eq_false (by omega)
theorem rowJ_app (v : Value) (l m : List I2) : Part.row 45 2 v (l.length + m.length) (flatI l ++ flatI m) = rowJ v (l ++ m) := by
  unfold rowJ
  rw [List.length_append]
  simp [flatI]
section
variable {P : Program} {ops : Array Oper} {rest : List Oper} {o : Oper} {a : Act} {Q : Exit → Act → World → Prop} {w : World}
/-- a beginning of a row -/
theorem wpList_slice_pre {t e : TypeId} {i : TypeInfo} {x hi' : Operand} {g n cap k : Nat} (hg : o.guard = none) (hop : o.op = .slice t x none (some hi') none) (ht : P.underlying t = some (.slice e)) (hi : P.info? e = some i) (hx : a.eval x = .slice (some ⟨g, 0, none⟩) n cap) (hh : a.eval hi' = .int .i64 (k : Int))
    (hk : k ≤ cap) (hK : wpList P ops Q rest (a.put o.dst (.slice (some ⟨g, 0, none⟩) k cap)) w) : wpList P ops Q (o :: rest) a w := by
  have hz : ∀ w, (sizeOf e).run P w = .ok i.size w := fun w => by simp [sizeOf, typeInfo, hi]
  refine wpList_val hg (w' := w) ?_ hK
  have hrun : (Instr.sliceAt t (.slice (some ⟨g, 0, none⟩) n cap) none (some (.int .i64 (k : Int))) none).run P w = .ok (.slice (some ⟨g, 0, none⟩) k cap) w := by
    simp [Instr.sliceAt, Instr.slice, run_underlying ht, Instr.sliceBounds, run_sliceBound, hz, Result.andThen, show (k : Int) ≤ cap by omega, Addr.add]
  simp [execOp, hop, hx, hh, hrun, Result.andThen]
end
theorem mem_next {todo : List I2} {y z : I2} {j : Nat} (hz : todo[j]? = some z) : decide (y ∈ todo.take (j + 1)) = (decide (y ∈ todo.take j) || (decide (z.1 = y.1) && decide (z.2 = y.2))) := by
  rw [List.take_add_one, hz, Bool.eq_iff_iff]
  obtain ⟨a, b⟩ := z
  obtain ⟨c, d⟩ := y
  simp only [Option.toList, List.mem_append, List.mem_singleton, Prod.mk.injEq, decide_eq_true_eq, Bool.or_eq_true, Bool.and_eq_true]
  exact or_congr_right ⟨fun ⟨p, q⟩ => ⟨p.symm, q.symm⟩, fun ⟨p, q⟩ => ⟨p.symm, q.symm⟩⟩
def CutF (w : World) (p m b4 b5 : Nat) (es : List IA) (f : F7) (r0 t0 : Int) (xv lv : Value) (xs : List IA) (lack : List I2) (u91 : Value) (wc : World) : Prop :=
  u91 = .bool false ∧ At [Part.old w] w [rowI2 lv lack, GrP p m es, rowD xv xs, Part.cells b4 [.int .i64 f.f0, .int .i64 f.f1, .int .i64 f.f2, .int .i64 f.f3, .int .i64 f.f4, .int .i64 f.f5, .int .i64 f.f6] 24, Part.cells b5 [.int .i64 r0, .int .i64 t0] 38, Part.old w] wc
def Needs2Post (p m : Nat) (es : List IA) (f : F7) (x : I2) (w : World) (e : Ending) (w' : World) : Prop :=
  ∃ nv rd, e = .returned (.tuple #[nv, .bool rd]) ∧ (∃ r, NeedsIs es f x r ∧ rd = r.isSome) ∧ At [GrP p m es] w [GrP p m es] w'
theorem needs2_any {w : World} {p m : Nat} {es : List (I2 × A8)} (h : Sep [GrP p m es] w) (f : F7) (x : I2) (hx : okD x) (hd : Deps es) (hn : es.length ≤ 1000) :
    Calls Try.prog 17 #[.pointer (some ⟨p, 0, none⟩), f.val, idV x] w (Needs2Post p m es f x w) := by
  refine (needs_any h f x hx hd hn).mono ?_
  rintro e w' (⟨l, v, rfl, h1, h2⟩ | ⟨rfl, h1, h2⟩)
  · exact ⟨v, true, rfl, ⟨some l, h1, rfl⟩, h2.drop .here⟩
  · exact ⟨_, false, rfl, ⟨none, h1, rfl⟩, h2⟩
def LkRel (w : World) (p m b4 b5 : Nat) (es : List IA) (f : F7) (r0 t0 : Int) (xv lv : Value) (xs : List IA) (lack : List I2) (k : Nat) (u : Value) (wr : World) : Prop :=
  ∃ i : Nat, u = .int .i64 i ∧ i + k = lack.length ∧ At [Part.old w] w [rowI2 lv lack, GrP p m es, rowD xv xs, Part.cells b4 [.int .i64 f.f0, .int .i64 f.f1, .int .i64 f.f2, .int .i64 f.f3, .int .i64 f.f4, .int .i64 f.f5, .int .i64 f.f6] 24, Part.cells b5 [.int .i64 r0, .int .i64 t0] 38, Part.old w] wr
def MwRel (w : World) (b4 : Nat) (es : List IA) (f : F7) (x : I2) (xv : Value) (xs : List IA) (k : Nat) (u17 u16 u15 : Value) (wr : World) : Prop :=
  ∃ (i : Nat) (todo ms ks : List I2), u17 = .int .i64 i ∧ u16 = .int .i64 (ms.length : Nat) ∧ i ≤ todo.length ∧ i + k = 1 + 7 * es.length ∧ MsS es f x todo ms ks i ∧ At [Part.old w] w [rowJ u15 todo, rowD xv xs, Part.cells b4 [.int .i64 f.f0, .int .i64 f.f1, .int .i64 f.f2, .int .i64 f.f3, .int .i64 f.f4, .int .i64 f.f5, .int .i64 f.f6] 24, Part.old w] wr
def KnRel (w : World) (b4 gt : Nat) (ct : List Value) (f : F7) (todo : List I2) (y : I2) (xv : Value) (xs : List IA) (i : Nat) (k : Nat) (u104 u18 : Value) (wr : World) : Prop :=
  ∃ j : Nat, u104 = .int .i64 j ∧ j + k = i ∧ u18 = .bool (decide (y ∈ todo.take j)) ∧ At [Part.old w] w [Part.cells gt ct 45, rowD xv xs, Part.cells b4 [.int .i64 f.f0, .int .i64 f.f1, .int .i64 f.f2, .int .i64 f.f3, .int .i64 f.f4, .int .i64 f.f5, .int .i64 f.f6] 24, Part.old w] wr
set_option maxRecDepth 100000 in
set_option maxHeartbeats 16000000 in
theorem missing_law {w : World} {v : Value} {l : List IA} (hl0 : ∀ w', (Part.old w).holds w' → Reads w' v l.length (l.flatMap cellsD)) (hokl : ∀ n ∈ l, okD n.1) (hlen : l.length ≤ 9223372036854775807) (f : F7) (x : I2) (hx : okD x) :
    Calls Try.prog 7 #[v, f.val, idV x] w fun e w' => e = .returned (.bool true) ∧ Below w.heap.size w w' := by
  have hm : Try.prog.follows .mixedOrders = true := by kernel_rfl
  obtain ⟨i0, hi0, hz0, hz1, hz2⟩ := info_parts infoJ
  have hA := old_start w
  obtain ⟨ax, cap, rfl, _, _⟩ := hl0 w (hA.get .here)
  have hl0' := Lib.hid hl0
  have hokl' := Lib.hid hokl
  have hx' := Lib.hid hx
  clear hl0 hokl hx
  obtain ⟨r0, t0⟩ := x
  simp only [F7.val, idV]
  have hF := hA.facts
  (try simp only [uA] at hA); have hF := hA.facts; (try simp only [fA, facts_row, and_true, true_and] at hF)
  go_enter Try.func7, Try.ntmps7
  go_wp2_with (first | (((with_reducible show wpList _ _ _ ({ dst := some 4, op := Op.box _ _, type := _, pos := _, after := _, guard := _ } :: _) _ _)); ((with_reducible refine gbx ?_); refine wX 24 (.agg #[.int .i64 f.f0, .int .i64 f.f1, .int .i64 f.f2, .int .i64 f.f3, .int .i64 f.f4, .int .i64 f.f5, .int .i64 f.f6]) [.int .i64 f.f0, .int .i64 f.f1, .int .i64 f.f2, .int .i64 f.f3, .int .i64 f.f4, .int .i64 f.f5, .int .i64 f.f6] hA ?_; clear hF hA; intro b4 w1 hA hb4; (try simp only [uA] at hA); have hF := hA.facts; (try simp only [fA, facts_row, and_true, true_and] at hF))) | (((with_reducible show wpList _ _ _ ({ dst := some 5, op := Op.box _ _, type := _, pos := _, after := _, guard := _ } :: _) _ _)); ((with_reducible refine gbx ?_); refine wX 38 (.agg #[.int .i64 r0, .int .i64 t0]) [.int .i64 r0, .int .i64 t0] hA ?_; clear hF hA; intro b5 w1 hA hb5; (try simp only [uA] at hA); have hF := hA.facts; (try simp only [fA, facts_row, and_true, true_and] at hF))) | ((with_reducible refine gst ?_); refine wS hA ?_; clear hF hA; intro w1 hA; (try simp only [uA] at hA); have hF := hA.facts; (try simp only [fA, facts_row, and_true, true_and] at hF)) | ((with_reducible refine gbx ?_); refine wB hA ?_; clear hF hA; intro b1 w1 hA hb1; (try simp only [uA] at hA); have hF := hA.facts; (try simp only [fA, facts_row, and_true, true_and] at hF)))
  refine (anchor_any _).mono ?_
  rintro e w1 ⟨rfl, hxx⟩
  have hB := hA.ext hxx
  clear hxx
  clear hF hA
  have hA := hB
  clear hB
  try simp only [List.cons_append, List.nil_append] at hA
  have hF := hA.facts
  (try simp only [uA] at hA); have hF := hA.facts; (try simp only [fA, facts_row, and_true, true_and] at hF)
  by_cases h20 : l.length ≤ 20
  · skip
    have hgt : ¬ (20 : Int) < l.length := by omega
    go_wp2_with (first | ((with_reducible refine gst ?_); refine wS hA ?_; clear hF hA; intro w1 hA; (try simp only [uA] at hA); have hF := hA.facts; (try simp only [fA, facts_row, and_true, true_and] at hF)) | ((with_reducible refine gbx ?_); refine wB hA ?_; clear hF hA; intro b1 w1 hA hb1; (try simp only [uA] at hA); have hF := hA.facts; (try simp only [fA, facts_row, and_true, true_and] at hF)))
    refine (right_any _ f).mono ?_
    rintro e w2 ⟨c, rfl, hc, hxx⟩
    have hB := hA.ext hxx
    clear hxx
    clear hF hA
    have hA := hB
    clear hB
    try simp only [List.cons_append, List.nil_append] at hA
    have hF := hA.facts
    (try simp only [uA] at hA); have hF := hA.facts; (try simp only [fA, facts_row, and_true, true_and] at hF)
    cases c
    · go_wp2_with (first | ((with_reducible refine gst ?_); refine wS hA ?_; clear hF hA; intro w1 hA; (try simp only [uA] at hA); have hF := hA.facts; (try simp only [fA, facts_row, and_true, true_and] at hF)) | ((with_reducible refine gbx ?_); refine wB hA ?_; clear hF hA; intro b1 w1 hA hb1; (try simp only [uA] at hA); have hF := hA.facts; (try simp only [fA, facts_row, and_true, true_and] at hF)))
      go_ret
      exact ⟨rfl, below_old hA (by repeat (first | exact Sel.here | apply Sel.there))⟩
    · have hfo := Lib.hid (hc.1 rfl)
      clear hc
      go_wp2_with (first | ((with_reducible refine gst ?_); refine wS hA ?_; clear hF hA; intro w1 hA; (try simp only [uA] at hA); have hF := hA.facts; (try simp only [fA, facts_row, and_true, true_and] at hF)) | ((with_reducible refine gbx ?_); refine wB hA ?_; clear hF hA; intro b1 w1 hA hb1; (try simp only [uA] at hA); have hF := hA.facts; (try simp only [fA, facts_row, and_true, true_and] at hF)))
      refine (Attr.idRight_any r0 t0 _).mono ?_
      rintro e w3 ⟨rfl, hxx⟩
      have hB := hA.ext hxx
      clear hxx
      clear hF hA
      have hA := hB
      clear hB
      try simp only [List.cons_append, List.nil_append] at hA
      have hF := hA.facts
      (try simp only [uA] at hA); have hF := hA.facts; (try simp only [fA, facts_row, and_true, true_and] at hF)
      obtain ⟨x0, hx0⟩ : ∃ z, rightI r0 t0 = z := ⟨_, rfl⟩
      rw [hx0]
      cases x0
      · go_wp2_with (first | ((with_reducible refine gst ?_); refine wS hA ?_; clear hF hA; intro w1 hA; (try simp only [uA] at hA); have hF := hA.facts; (try simp only [fA, facts_row, and_true, true_and] at hF)) | ((with_reducible refine gbx ?_); refine wB hA ?_; clear hF hA; intro b1 w1 hA hb1; (try simp only [uA] at hA); have hF := hA.facts; (try simp only [fA, facts_row, and_true, true_and] at hF)))
        go_ret
        exact ⟨rfl, below_old hA (by repeat (first | exact Sel.here | apply Sel.there))⟩
      · clear hx0
        go_wp2_with (first | ((with_reducible refine gst ?_); refine wS hA ?_; clear hF hA; intro w1 hA; (try simp only [uA] at hA); have hF := hA.facts; (try simp only [fA, facts_row, and_true, true_and] at hF)) | ((with_reducible refine gbx ?_); refine wB hA ?_; clear hF hA; intro b1 w1 hA hb1; (try simp only [uA] at hA); have hF := hA.facts; (try simp only [fA, facts_row, and_true, true_and] at hF)))
        refine (built_any (R := Part.old w) (v := .slice ax l.length cap) (l := l) (hA.sep1 (A := Part.old w) (by repeat (first | exact Sel.here | apply Sel.there))) hl0'.out (by omega) hokl'.out).mono ?_
        rintro e w4 ⟨p, m, u, rfl, hT⟩
        have hB := hA.call1 (A := Part.old w) (by repeat (first | exact Sel.here | apply Sel.there)) hT
        clear hT
        clear hF hA
        have hA := hB
        clear hB
        try simp only [List.cons_append, List.nil_append] at hA
        have hF := hA.facts
        (try simp only [uA] at hA); have hF := hA.facts; (try simp only [fA, facts_row, and_true, true_and] at hF)
        have hown := Lib.hid (builtE_own l)
        have hesl := builtE_len l
        generalize builtE l = es at *
        have hxsl := sortedD_len es
        have hxg := Lib.hid (sortedD_get hown.out.uq)
        have hxo := Lib.hid (sortedD_own hown.out)
        generalize sortedD es = xs at *
        obtain ⟨axx, capx, hvx, _, hcpx, _⟩ := hA.row_form (e := 52) (size := 10) (n := xs.length) (v := u) (xs := flatD xs) (by repeat (first | exact Sel.here | apply Sel.there))
        subst hvx
        have hes1 : es.length ≤ 20 := by omega
        have hF := hA.facts
        (try simp only [uA] at hA); have hF := hA.facts; (try simp only [fA, facts_row, and_true, true_and] at hF)
        go_wp2_with (first | ((with_reducible refine gst ?_); refine wS hA ?_; clear hF hA; intro w1 hA; (try simp only [uA] at hA); have hF := hA.facts; (try simp only [fA, facts_row, and_true, true_and] at hF)) | ((with_reducible refine gbx ?_); refine wB hA ?_; clear hF hA; intro b1 w1 hA hb1; (try simp only [uA] at hA); have hF := hA.facts; (try simp only [fA, facts_row, and_true, true_and] at hF)))
        refine (missing_any (hA.sep1 (A := GrP p m es) (by repeat (first | exact Sel.here | apply Sel.there))) f (r0, t0) hx'.out hown.out.deps (by omega)).mono ?_
        rintro e w5 ⟨lack, vl, rfl, hmi, hT⟩
        have hB := hA.call1 (A := GrP p m es) (by repeat (first | exact Sel.here | apply Sel.there)) hT
        clear hT
        clear hF hA
        have hA := hB
        clear hB
        try simp only [List.cons_append, List.nil_append] at hA
        have hF := hA.facts
        (try simp only [uA] at hA); have hF := hA.facts; (try simp only [fA, facts_row, and_true, true_and] at hF)
        have hmi' := Lib.hid hmi
        have hlk : lack.length ≤ 1 + 7 * es.length := reach_len (hmi.1.imp fun q e => by rw [e] at q; exact lt_irr q) fun y hy => ((hmi.2 y).1 hy).1
        clear hmi
        obtain ⟨axl, capl, hvl, _, hcpl, _⟩ := hA.row_form (e := 38) (size := 2) (n := lack.length) (v := vl) (xs := flatI lack) (by repeat (first | exact Sel.here | apply Sel.there))
        subst hvl
        have hF := hA.facts
        (try simp only [uA] at hA); have hF := hA.facts; (try simp only [fA, facts_row, and_true, true_and] at hF)
        go_wp2_with (first | ((with_reducible refine gst ?_); refine wS hA ?_; clear hF hA; intro w1 hA; (try simp only [uA] at hA); have hF := hA.facts; (try simp only [fA, facts_row, and_true, true_and] at hF)) | ((with_reducible refine gbx ?_); refine wB hA ?_; clear hF hA; intro b1 w1 hA hb1; (try simp only [uA] at hA); have hF := hA.facts; (try simp only [fA, facts_row, and_true, true_and] at hF)))
        try go_frame
        clear hF
        go_loopg [51] lack.length (LkRel w p m b4 b5 es f r0 t0 (.slice axx xs.length capx) (.slice axl lack.length capl) xs lack)
        case atStart => exact ⟨0, rfl, by omega, hA.pick (by repeat (first | exact Picks.nil | refine Picks.cons (by repeat (first | exact Sel.here | apply Sel.there)) ?_))⟩
        case round =>
          obtain ⟨i, rfl, hik, hB⟩ := hrel
          clear hA
          have hA := hB
          clear hB
          by_cases hi : i < lack.length
          · skip
            obtain ⟨y, hy⟩ : ∃ y, lack[i]? = some y := ⟨_, List.getElem?_eq_getElem hi⟩
            have hym := (hmi'.out.2 y).1 (List.mem_of_getElem? hy)
            have hhas : ∀ w1, Sep [GrP p m es] w1 → Calls Try.prog 16 #[.pointer (some ⟨p, 0, none⟩), idV y] w1 fun e w' => e = .returned (.bool false) ∧ At [GrP p m es] w1 [GrP p m es] w' := fun w1 q => by
              have h := has_any q y (hym.1.ok hown.out.deps hx'.out)
              rw [hym.2] at h
              exact h
            obtain ⟨gl, cl, hgl, _, hlm, hll, hlt, hB⟩ := hA.row_open (e := 38) (size := 2) (ax := axl) (cap := capl) (n := lack.length) (xs := flatI lack) (by repeat (first | exact Sel.here | apply Sel.there)) (by omega)
            subst hgl
            clear hA
            have hA := hB
            clear hB
            have hel := elem2 hlt hy
            have hlt' := Lib.hid hlt
            have hiI : (i : Int) < lack.length := by omega
            obtain ⟨ry, ty⟩ := y
            simp only [idL, idV] at hel hhas
            have hel' := Lib.hid (show (cl.drop (i * 2)).take (List.length (α := Value) [.int .i64 ry, .int .i64 ty]) = [.int .i64 ry, .int .i64 ty] from hel)
            by_cases hi0' : i = 0
            · subst hi0'
              clear hlt hy hym
              have hF := hA.facts
              (try simp only [uA] at hA); have hF := hA.facts; (try simp only [fA, facts_row, and_true, true_and] at hF)
              go_wp2_with (first | ((with_reducible refine gal ?_); refine wA 38 (.agg #[.int .i64 0, .int .i64 0]) [.int .i64 0, .int .i64 0] hA ?_; clear hF hA; intro b12 w1 hA hb12; (try simp only [uA] at hA); have hF := hA.facts; (try simp only [fA, facts_row, and_true, true_and] at hF)) | ((with_reducible show wpList _ _ _ ({ dst := some 55, op := Op.load _ _, type := _, pos := _, after := _, guard := _ } :: _) _ _); refine wpList_loadCut_at (b := gl) (vs := [.int .i64 ry, .int .i64 ty]) rfl rfl (by (try simp only [Act.eval, eV]) <;> exact rfl) hA (by repeat (first | exact Sel.here | apply Sel.there)) hel'.out (by kernel_rfl) (by kernel_rfl) ?_) | ((with_reducible refine gst ?_); refine wS hA ?_; clear hF hA; intro w1 hA; (try simp only [uA] at hA); have hF := hA.facts; (try simp only [fA, facts_row, and_true, true_and] at hF)) | ((with_reducible refine gbx ?_); refine wB hA ?_; clear hF hA; intro b1 w1 hA hb1; (try simp only [uA] at hA); have hF := hA.facts; (try simp only [fA, facts_row, and_true, true_and] at hF)))
              try go_frame
              (refine wp_region_all (Cl _ _ _) (by kernel_rfl) (by kernel_rfl) (Cl.drew hA) ?_); (have hn1 := Cl.none hA); (have hn2 := Cl.none2 hA); (repeat (first | go_big_quiet_skip | (go_big_quiet_want; (first | (refine quiet_loads_at (ty := 38) (n := 2) rfl rfl (by with_reducible repeat (first | exact Sel.here | apply Sel.there)) (by kernel_rfl) (by kernel_rfl) (by first | assumption | ((try simp only [List.drop_succ_cons, List.drop_zero, List.take_succ_cons, List.take_zero]) <;> exact rfl)) (by exact rfl) ?_; go_frame; go_big_quiet_on) | (refine quiet_load_at rfl rfl (by with_reducible repeat (first | exact Sel.here | apply Sel.there)) (by kernel_rfl) (by first | assumption | exact rfl) ?_; go_frame; go_big_quiet_on) | (go_big_quiet_op; (first | go_big_quiet_on | ((apply Exists.intro); (refine ⟨fun w1 hw => ?_, ?_⟩); (focus ((have hw := Cl.out hw); (exact through1 (by repeat (first | exact Sel.here | apply Sel.there)) hw hhas))); (go_big_quiet_on))))))))
              (refine wpQuiet_nil ?_); (intro w1 hB); (clear hF hA hn1 hn2); (have hA := Cl.out hB); (clear hB); (try simp only [uA] at hA); have hF := hA.facts; (try simp only [fA, facts_row, and_true, true_and] at hF)
              go_wp2_with (first | ((with_reducible refine gst ?_); refine wS hA ?_; clear hF hA; intro w1 hA; (try simp only [uA] at hA); have hF := hA.facts; (try simp only [fA, facts_row, and_true, true_and] at hF)) | ((with_reducible refine gbx ?_); refine wB hA ?_; clear hF hA; intro b1 w1 hA hb1; (try simp only [uA] at hA); have hF := hA.facts; (try simp only [fA, facts_row, and_true, true_and] at hF)))
              go_roundg (gk - 1)
              case measure => omega
              case rel =>
                have hC := hA.row_shut (e := 38) (size := 2) (g := gl) (n := lack.length) (cap := capl) (xs := flatI lack) (by repeat (first | exact Sel.here | apply Sel.there)) hll hcpl hlm hlt'.out
                exact ⟨0 + 1, by simp, by omega, hC.pick (by repeat (first | exact Picks.nil | refine Picks.cons (by repeat (first | exact Sel.here | apply Sel.there)) ?_))⟩
            · obtain ⟨j, rfl⟩ : ∃ j, i = j + 1 := ⟨i - 1, by omega⟩
              obtain ⟨z, hz⟩ : ∃ z, lack[j]? = some z := ⟨_, List.getElem?_eq_getElem (by omega)⟩
              have hez := elem2 hlt hz
              have hlz : ltID z (ry, ty) := by
                obtain ⟨h1, e1⟩ := List.getElem?_eq_some_iff.1 hz
                obtain ⟨h2, e2⟩ := List.getElem?_eq_some_iff.1 hy
                have := List.pairwise_iff_getElem.1 hmi'.out.1 j (j + 1) h1 h2 (by omega)
                rwa [e1, e2] at this
              obtain ⟨rz, tz⟩ := z
              have hcn := cmp_neg hlz
              have hcmp : ∀ w1, Calls Try.prog 26 #[.agg #[.int .i64 rz, .int .i64 tz], .agg #[.int .i64 ry, .int .i64 ty]] w1 fun e w' => e = .returned (.int .i64 (cmpID (rz, tz) (ry, ty))) ∧ Ext w1 w' := fun w1 => ext_cmp (rz, tz) (ry, ty) rfl
              generalize cmpID (rz, tz) (ry, ty) = cv at *
              simp only [idL] at hez
              have hj0 : (0 : Int) < ((j + 1 : Nat) : Int) := by omega
              have hjw : IntKind.i64.wrap (((j + 1 : Nat) : Int) - 1) = (j : Int) := by rw [IntKind.wrap_i64] <;> omega
              have hjI : (j : Int) < lack.length := by omega
              clear hlt hy hz hym hlz hi0'
              have hF := hA.facts
              (try simp only [uA] at hA); have hF := hA.facts; (try simp only [fA, facts_row, and_true, true_and] at hF)
              go_wp2_with (first | ((with_reducible refine gal ?_); refine wA 38 (.agg #[.int .i64 0, .int .i64 0]) [.int .i64 0, .int .i64 0] hA ?_; clear hF hA; intro b12 w1 hA hb12; (try simp only [uA] at hA); have hF := hA.facts; (try simp only [fA, facts_row, and_true, true_and] at hF)) | ((with_reducible show wpList _ _ _ ({ dst := some 55, op := Op.load _ _, type := _, pos := _, after := _, guard := _ } :: _) _ _); refine wpList_loadCut_at (b := gl) (vs := [.int .i64 ry, .int .i64 ty]) rfl rfl (by (try simp only [Act.eval, eV]) <;> exact rfl) hA (by repeat (first | exact Sel.here | apply Sel.there)) hel'.out (by kernel_rfl) (by kernel_rfl) ?_) | ((with_reducible refine gst ?_); refine wS hA ?_; clear hF hA; intro w1 hA; (try simp only [uA] at hA); have hF := hA.facts; (try simp only [fA, facts_row, and_true, true_and] at hF)) | ((with_reducible refine gbx ?_); refine wB hA ?_; clear hF hA; intro b1 w1 hA hb1; (try simp only [uA] at hA); have hF := hA.facts; (try simp only [fA, facts_row, and_true, true_and] at hF)))
              try go_frame
              (refine wp_region_all (Cl _ _ _) (by kernel_rfl) (by kernel_rfl) (Cl.drew hA) ?_); (have hn1 := Cl.none hA); (have hn2 := Cl.none2 hA); (repeat (first | go_big_quiet_skip | (go_big_quiet_want; (first | (refine quiet_loads_at (ty := 38) (n := 2) rfl rfl (by with_reducible repeat (first | exact Sel.here | apply Sel.there)) (by kernel_rfl) (by kernel_rfl) (by first | assumption | ((try simp only [List.drop_succ_cons, List.drop_zero, List.take_succ_cons, List.take_zero]) <;> exact rfl)) (by exact rfl) ?_; go_frame; go_big_quiet_on) | (refine quiet_load_at rfl rfl (by with_reducible repeat (first | exact Sel.here | apply Sel.there)) (by kernel_rfl) (by first | assumption | exact rfl) ?_; go_frame; go_big_quiet_on) | (go_big_quiet_op; (first | go_big_quiet_on | ((apply Exists.intro); (refine ⟨fun w1 hw => ?_, ?_⟩); (focus ((have hw := Cl.out hw); (first | exact through1 (by repeat (first | exact Sel.here | apply Sel.there)) hw hhas | exact thro hw (hcmp _)))); (go_big_quiet_on))))))))
              (refine wpQuiet_nil ?_); (intro w1 hB); (clear hF hA hn1 hn2); (have hA := Cl.out hB); (clear hB); (try simp only [uA] at hA); have hF := hA.facts; (try simp only [fA, facts_row, and_true, true_and] at hF)
              go_wp2_with (first | ((with_reducible refine gst ?_); refine wS hA ?_; clear hF hA; intro w1 hA; (try simp only [uA] at hA); have hF := hA.facts; (try simp only [fA, facts_row, and_true, true_and] at hF)) | ((with_reducible refine gbx ?_); refine wB hA ?_; clear hF hA; intro b1 w1 hA hb1; (try simp only [uA] at hA); have hF := hA.facts; (try simp only [fA, facts_row, and_true, true_and] at hF)))
              go_roundg (gk - 1)
              case measure => omega
              case rel =>
                have hC := hA.row_shut (e := 38) (size := 2) (g := gl) (n := lack.length) (cap := capl) (xs := flatI lack) (by repeat (first | exact Sel.here | apply Sel.there)) hll hcpl hlm hlt'.out
                exact ⟨j + 1 + 1, by simp, by omega, hC.pick (by repeat (first | exact Picks.nil | refine Picks.cons (by repeat (first | exact Sel.here | apply Sel.there)) ?_))⟩
          · have hiI : ¬ (i : Int) < lack.length := by omega
            have hF := hA.facts
            (try simp only [uA] at hA); have hF := hA.facts; (try simp only [fA, facts_row, and_true, true_and] at hF)
            go_wp2_with (first | ((with_reducible refine gst ?_); refine wS hA ?_; clear hF hA; intro w1 hA; (try simp only [uA] at hA); have hF := hA.facts; (try simp only [fA, facts_row, and_true, true_and] at hF)) | ((with_reducible refine gbx ?_); refine wB hA ?_; clear hF hA; intro b1 w1 hA hb1; (try simp only [uA] at hA); have hF := hA.facts; (try simp only [fA, facts_row, and_true, true_and] at hF)))
            refine (needs2_any (hA.sep1 (A := GrP p m es) (by repeat (first | exact Sel.here | apply Sel.there))) f (r0, t0) hx'.out hown.out.deps (by omega)).mono ?_
            rintro e w6 ⟨nv, rd, rfl, ⟨nr, hnd, hrd⟩, hT⟩
            have hB := hA.call1 (A := GrP p m es) (by repeat (first | exact Sel.here | apply Sel.there)) hT
            clear hT
            clear hF hA
            have hA := hB
            clear hB
            try simp only [List.cons_append, List.nil_append] at hA
            have hF := hA.facts
            (try simp only [uA] at hA); have hF := hA.facts; (try simp only [fA, facts_row, and_true, true_and] at hF)
            have hrl := ready_lack hnd hmi'.out
            rw [← hrd] at hrl
            have hrl' := Lib.hid hrl
            clear hrl hrd hnd
            clear hik
            go_upto_region 16 with (first | ((with_reducible refine gst ?_); refine wS hA ?_; clear hF hA; intro w1 hA; (try simp only [uA] at hA); have hF := hA.facts; (try simp only [fA, facts_row, and_true, true_and] at hF)) | ((with_reducible refine gbx ?_); refine wB hA ?_; clear hF hA; intro b1 w1 hA hb1; (try simp only [uA] at hA); have hF := hA.facts; (try simp only [fA, facts_row, and_true, true_and] at hF)))
            go_cut [91] from 81 to 90 (CutF w p m b4 b5 es f r0 t0 (.slice axx xs.length capx) (.slice axl lack.length capl) xs lack)
            case first =>
              by_cases hl0 : lack.length = 0
              · have hl1 : lack = [] := List.eq_nil_of_length_eq_zero hl0
                subst hl1
                have hb1 : (rd != !behind f (r0, t0)) = false := by rw [hrl'.out]; simp
                go_wp2_with (first | ((with_reducible refine gst ?_); refine wS hA ?_; clear hF hA; intro w1 hA; (try simp only [uA] at hA); have hF := hA.facts; (try simp only [fA, facts_row, and_true, true_and] at hF)) | ((with_reducible refine gbx ?_); refine wB hA ?_; clear hF hA; intro b1 w1 hA hb1; (try simp only [uA] at hA); have hF := hA.facts; (try simp only [fA, facts_row, and_true, true_and] at hF)))
                refine (fhas_any f (r0, t0) _).mono ?_
                rintro e w7 ⟨rfl, hxx⟩
                have hB := hA.ext hxx
                clear hxx
                clear hF hA
                have hA := hB
                clear hB
                try simp only [List.cons_append, List.nil_append] at hA
                have hF := hA.facts
                (try simp only [uA] at hA); have hF := hA.facts; (try simp only [fA, facts_row, and_true, true_and] at hF)
                generalize behind f (r0, t0) = bh at *
                have hrb : rd = !bh := by have := hrl'.out; simpa using this
                subst hrb
                go_wp2_with (first | ((with_reducible refine gst ?_); refine wS hA ?_; clear hF hA; intro w1 hA; (try simp only [uA] at hA); have hF := hA.facts; (try simp only [fA, facts_row, and_true, true_and] at hF)) | ((with_reducible refine gbx ?_); refine wB hA ?_; clear hF hA; intro b1 w1 hA hb1; (try simp only [uA] at hA); have hF := hA.facts; (try simp only [fA, facts_row, and_true, true_and] at hF)))
                go_meet
                case rel => exact ⟨by simp, hA.pick (by repeat (first | exact Picks.nil | refine Picks.cons (by repeat (first | exact Sel.here | apply Sel.there)) ?_))⟩
              · have hb1 : rd = false := by rw [hrl'.out, decide_eq_false hl0]; rfl
                have hl2 : ((lack.length : Int) == 0) = false := by simpa using (show lack ≠ [] from fun e => hl0 (by rw [e]; rfl))
                have hl3 : ¬ (lack.length : Int) = 0 := by omega
                clear hrl'
                subst hb1
                go_wp2_with (first | ((with_reducible refine gst ?_); refine wS hA ?_; clear hF hA; intro w1 hA; (try simp only [uA] at hA); have hF := hA.facts; (try simp only [fA, facts_row, and_true, true_and] at hF)) | ((with_reducible refine gbx ?_); refine wB hA ?_; clear hF hA; intro b1 w1 hA hb1; (try simp only [uA] at hA); have hF := hA.facts; (try simp only [fA, facts_row, and_true, true_and] at hF)))
                go_meet
                case rel => exact ⟨rfl, hA.pick (by repeat (first | exact Picks.nil | refine Picks.cons (by repeat (first | exact Sel.here | apply Sel.there)) ?_))⟩
            case rest =>
              obtain ⟨rfl, hB⟩ := hcut
              clear hF hA hrl'
              have hA := hB
              clear hB
              have hF := hA.facts
              (try simp only [uA] at hA); have hF := hA.facts; (try simp only [fA, facts_row, and_true, true_and] at hF)
              go_wp2_with (first | ((with_reducible show wpList _ _ _ ({ dst := _, op := Op.buildSlice _ _ _, type := _, pos := _, after := _, guard := _ } :: _) _ _); refine wpList_one_at (e := 45) (vs := idL (r0, t0)) rfl rfl (by (try simp only [Act.eval, eV]) <;> exact rfl) (fun _ => by kernel_rfl) hA ?_; intro b93 w1 hB hb93; clear hF hA; have hA := hB; clear hB; (try simp only [uA] at hA); have hF := hA.facts; (try simp only [fA, facts_row, and_true, true_and] at hF)) | ((with_reducible refine gst ?_); refine wS hA ?_; clear hF hA; intro w1 hA; (try simp only [uA] at hA); have hF := hA.facts; (try simp only [fA, facts_row, and_true, true_and] at hF)) | ((with_reducible refine gbx ?_); refine wB hA ?_; clear hF hA; intro b1 w1 hA hb1; (try simp only [uA] at hA); have hF := hA.facts; (try simp only [fA, facts_row, and_true, true_and] at hF)))
              try go_frame
              have hB := hA.row_shut (e := 45) (size := 2) (g := b93) (n := 1) (cap := 1) (xs := flatI [(r0, t0)]) (by repeat (first | exact Sel.here | apply Sel.there)) rfl (Nat.le_refl _) (by decide) rfl
              clear hF hA
              have hA := hB
              clear hB
              have hms := Lib.hid (ms_start es f (r0, t0))
              go_loopg [17, 16, 15] (1 + 7 * es.length) (MwRel w b4 es f (r0, t0) (.slice axx xs.length capx) xs)
              case atStart => exact ⟨0, [(r0, t0)], [], [], rfl, rfl, by simp, by omega, hms.out, hA.pick (by repeat (first | exact Picks.nil | refine Picks.cons (by repeat (first | exact Sel.here | apply Sel.there)) ?_))⟩
              case round =>
                obtain ⟨i, todo, ms, ks, rfl, rfl, hit, hik, hmw, hB⟩ := hrel
                have hmw' := Lib.hid hmw
                have hmx := hmw.max
                have hml := hmw.msl
                clear hA hmw
                have hA := hB
                clear hB
                obtain ⟨axt, capt, hvt, _, hcpt, _⟩ := hA.row_form (e := 45) (size := 2) (n := todo.length) (v := u15) (xs := flatI todo) .here
                subst hvt
                by_cases hi : i < todo.length
                · skip
                  obtain ⟨y, hy⟩ : ∃ y, todo[i]? = some y := ⟨_, List.getElem?_eq_getElem hi⟩
                  have hiI : (i : Int) < todo.length := by omega
                  have hyk := (hmw'.out.reach y (List.mem_of_getElem? hy)).ok hown.out.deps hx'.out
                  obtain ⟨gt, ct, hgt2, _, htm, htl, htt, hB⟩ := hA.row_open (e := 45) (size := 2) (ax := axt) (cap := capt) (n := todo.length) (xs := flatI todo) (by repeat (first | exact Sel.here | apply Sel.there)) (by omega)
                  subst hgt2
                  clear hA
                  have hA := hB
                  clear hB
                  have hey := elem2 htt hy
                  have htt' := Lib.hid htt
                  have hy' := Lib.hid hy
                  clear hy
                  obtain ⟨ry, ty⟩ := y
                  simp only [idL] at hey
                  have hey' := Lib.hid (show (ct.drop (i * 2)).take (List.length (α := Value) [.int .i64 ry, .int .i64 ty]) = [.int .i64 ry, .int .i64 ty] from hey)
                  have hikG : i + 1 + (gk - 1) = 1 + 7 * es.length ∧ gk - 1 < gk := by omega
                  obtain ⟨G, hG⟩ : ∃ G, gk - 1 = G := ⟨_, rfl⟩
                  rw [hG] at hikG
                  have hGk := Lib.hid hikG
                  clear hG hik hikG
                  have hF := hA.facts
                  (try simp only [uA] at hA); have hF := hA.facts; (try simp only [fA, facts_row, and_true, true_and] at hF)
                  go_wp2_with (first | ((with_reducible show wpList _ _ _ ({ dst := some 102, op := Op.slice _ _ _ _ _, type := _, pos := _, after := _, guard := _ } :: _) _ _); refine wpList_slice_pre (k := i) rfl rfl Try.underlying48 hi0 (by (try simp only [Act.eval, eV]) <;> exact rfl) (by (try simp only [Act.eval, eV]) <;> exact rfl) (by omega) ?_) | ((with_reducible refine gst ?_); refine wS hA ?_; clear hF hA; intro w1 hA; (try simp only [uA] at hA); have hF := hA.facts; (try simp only [fA, facts_row, and_true, true_and] at hF)) | ((with_reducible refine gbx ?_); refine wB hA ?_; clear hF hA; intro b1 w1 hA hb1; (try simp only [uA] at hA); have hF := hA.facts; (try simp only [fA, facts_row, and_true, true_and] at hF)))
                  try go_frame
                  clear hF
                  go_loopg [104, 18] i (KnRel w b4 gt ct f todo (ry, ty) (.slice axx xs.length capx) xs i)
                  case atStart => exact ⟨0, rfl, by omega, by simp, hA.pick (by repeat (first | exact Picks.nil | refine Picks.cons (by repeat (first | exact Sel.here | apply Sel.there)) ?_))⟩
                  case round =>
                    obtain ⟨j, rfl, hjk, rfl, hB⟩ := hrel
                    clear hA
                    have hA := hB
                    clear hB
                    by_cases hj : j < i
                    · skip
                      obtain ⟨z, hz⟩ : ∃ z, todo[j]? = some z := ⟨_, List.getElem?_eq_getElem (by omega)⟩
                      have hez := elem2 htt'.out hz
                      have hmn := Lib.hid (mem_next (y := (ry, ty)) hz)
                      obtain ⟨rz, tz⟩ := z
                      simp only [idL] at hez
                      have hez' := Lib.hid (show (ct.drop (j * 2)).take (List.length (α := Value) [.int .i64 rz, .int .i64 tz]) = [.int .i64 rz, .int .i64 tz] from hez)
                      obtain ⟨kb, hkb⟩ : ∃ b, decide ((ry, ty) ∈ todo.take j) = b := ⟨_, rfl⟩
                      have hkb' := Lib.hid hkb
                      rw [hkb]
                      have hjI : (j : Int) < i := by omega
                      clear hz hkb hez
                      have hF := hA.facts
                      (try simp only [uA] at hA); have hF := hA.facts; (try simp only [fA, facts_row, and_true, true_and] at hF)
                      cases kb
                      · obtain ⟨d, hd⟩ : ∃ d, (decide (rz = ry) && decide (tz = ty)) = d := ⟨_, rfl⟩
                        have hd' := Lib.hid hd
                        have hd2 : decide ((rz, tz) = (ry, ty)) = d := by rw [← hd, Bool.eq_iff_iff]; simp
                        go_wp2_with (first | ((with_reducible refine gal ?_); refine wA 45 (.agg #[.int .i64 0, .int .i64 0]) [.int .i64 0, .int .i64 0] hA ?_; clear hF hA; intro b20 w1 hA hb20; (try simp only [uA] at hA); have hF := hA.facts; (try simp only [fA, facts_row, and_true, true_and] at hF)) | ((with_reducible show wpList _ _ _ ({ dst := some 107, op := Op.load _ _, type := _, pos := _, after := _, guard := _ } :: _) _ _); refine wpList_loadCut_at (b := gt) (vs := [.int .i64 rz, .int .i64 tz]) rfl rfl (by (try simp only [Act.eval, eV]) <;> exact rfl) hA (by repeat (first | exact Sel.here | apply Sel.there)) hez'.out (by kernel_rfl) (by kernel_rfl) ?_) | ((with_reducible refine gst ?_); refine wS hA ?_; clear hF hA; intro w1 hA; (try simp only [uA] at hA); have hF := hA.facts; (try simp only [fA, facts_row, and_true, true_and] at hF)) | ((with_reducible refine gbx ?_); refine wB hA ?_; clear hF hA; intro b1 w1 hA hb1; (try simp only [uA] at hA); have hF := hA.facts; (try simp only [fA, facts_row, and_true, true_and] at hF)))
                        try go_frame
                        cases d
                        · (refine wp_region_all (Cl _ _ _) (by kernel_rfl) (by kernel_rfl) (Cl.drew hA) ?_); (have hn1 := Cl.none hA); (have hn2 := Cl.none2 hA); (repeat (first | go_big_quiet_skip | (go_big_quiet_want; (first | (refine quiet_loads_at (ty := 45) (n := 2) rfl rfl (by with_reducible repeat (first | exact Sel.here | apply Sel.there)) (by kernel_rfl) (by kernel_rfl) (by first | assumption | ((try simp only [List.drop_succ_cons, List.drop_zero, List.take_succ_cons, List.take_zero]) <;> exact rfl)) (by exact rfl) ?_; go_frame; go_big_quiet_on) | (refine quiet_load_at rfl rfl (by with_reducible repeat (first | exact Sel.here | apply Sel.there)) (by kernel_rfl) (by first | assumption | exact rfl) ?_; go_frame; go_big_quiet_on) | (go_big_quiet_op; (first | go_big_quiet_on | ((apply Exists.intro); (refine ⟨fun w1 hw => ?_, ?_⟩); (focus ((have hw := Cl.out hw); (fail))); (go_big_quiet_on))))))))
                          (refine wpQuiet_nil ?_); (intro w1 hB); (clear hF hA hn1 hn2); (have hA := Cl.out hB); (clear hB); (try simp only [uA] at hA); have hF := hA.facts; (try simp only [fA, facts_row, and_true, true_and] at hF)
                          go_wp2_with (first | ((with_reducible refine gst ?_); refine wS hA ?_; clear hF hA; intro w1 hA; (try simp only [uA] at hA); have hF := hA.facts; (try simp only [fA, facts_row, and_true, true_and] at hF)) | ((with_reducible refine gbx ?_); refine wB hA ?_; clear hF hA; intro b1 w1 hA hb1; (try simp only [uA] at hA); have hF := hA.facts; (try simp only [fA, facts_row, and_true, true_and] at hF)))
                          go_roundg (gk - 1)
                          case measure => omega
                          case rel => exact ⟨j + 1, by simp, by omega, by rw [hmn.out, hkb'.out, hd'.out]; rfl, hA.pick (by repeat (first | exact Picks.nil | refine Picks.cons (by repeat (first | exact Sel.here | apply Sel.there)) ?_))⟩
                        · (refine wp_region_all (Cl _ _ _) (by kernel_rfl) (by kernel_rfl) (Cl.drew hA) ?_); (have hn1 := Cl.none hA); (have hn2 := Cl.none2 hA); (repeat (first | go_big_quiet_skip | (go_big_quiet_want; (first | (refine quiet_loads_at (ty := 45) (n := 2) rfl rfl (by with_reducible repeat (first | exact Sel.here | apply Sel.there)) (by kernel_rfl) (by kernel_rfl) (by first | assumption | ((try simp only [List.drop_succ_cons, List.drop_zero, List.take_succ_cons, List.take_zero]) <;> exact rfl)) (by exact rfl) ?_; go_frame; go_big_quiet_on) | (refine quiet_load_at rfl rfl (by with_reducible repeat (first | exact Sel.here | apply Sel.there)) (by kernel_rfl) (by first | assumption | exact rfl) ?_; go_frame; go_big_quiet_on) | (go_big_quiet_op; (first | go_big_quiet_on | ((apply Exists.intro); (refine ⟨fun w1 hw => ?_, ?_⟩); (focus ((have hw := Cl.out hw); (fail))); (go_big_quiet_on))))))))
                          (refine wpQuiet_nil ?_); (intro w1 hB); (clear hF hA hn1 hn2); (have hA := Cl.out hB); (clear hB); (try simp only [uA] at hA); have hF := hA.facts; (try simp only [fA, facts_row, and_true, true_and] at hF)
                          go_wp2_with (first | ((with_reducible refine gst ?_); refine wS hA ?_; clear hF hA; intro w1 hA; (try simp only [uA] at hA); have hF := hA.facts; (try simp only [fA, facts_row, and_true, true_and] at hF)) | ((with_reducible refine gbx ?_); refine wB hA ?_; clear hF hA; intro b1 w1 hA hb1; (try simp only [uA] at hA); have hF := hA.facts; (try simp only [fA, facts_row, and_true, true_and] at hF)))
                          go_roundg (gk - 1)
                          case measure => omega
                          case rel => exact ⟨j + 1, by simp, by omega, by rw [hmn.out, hkb'.out, hd'.out]; rfl, hA.pick (by repeat (first | exact Picks.nil | refine Picks.cons (by repeat (first | exact Sel.here | apply Sel.there)) ?_))⟩
                      · go_wp2_with (first | ((with_reducible refine gal ?_); refine wA 45 (.agg #[.int .i64 0, .int .i64 0]) [.int .i64 0, .int .i64 0] hA ?_; clear hF hA; intro b20 w1 hA hb20; (try simp only [uA] at hA); have hF := hA.facts; (try simp only [fA, facts_row, and_true, true_and] at hF)) | ((with_reducible show wpList _ _ _ ({ dst := some 107, op := Op.load _ _, type := _, pos := _, after := _, guard := _ } :: _) _ _); refine wpList_loadCut_at (b := gt) (vs := [.int .i64 rz, .int .i64 tz]) rfl rfl (by (try simp only [Act.eval, eV]) <;> exact rfl) hA (by repeat (first | exact Sel.here | apply Sel.there)) hez'.out (by kernel_rfl) (by kernel_rfl) ?_) | ((with_reducible refine gst ?_); refine wS hA ?_; clear hF hA; intro w1 hA; (try simp only [uA] at hA); have hF := hA.facts; (try simp only [fA, facts_row, and_true, true_and] at hF)) | ((with_reducible refine gbx ?_); refine wB hA ?_; clear hF hA; intro b1 w1 hA hb1; (try simp only [uA] at hA); have hF := hA.facts; (try simp only [fA, facts_row, and_true, true_and] at hF)))
                        try go_frame
                        (refine wp_region_all (Cl _ _ _) (by kernel_rfl) (by kernel_rfl) (Cl.drew hA) ?_); (have hn1 := Cl.none hA); (have hn2 := Cl.none2 hA); (repeat (first | go_big_quiet_skip | (go_big_quiet_want; (first | (refine quiet_loads_at (ty := 45) (n := 2) rfl rfl (by with_reducible repeat (first | exact Sel.here | apply Sel.there)) (by kernel_rfl) (by kernel_rfl) (by first | assumption | ((try simp only [List.drop_succ_cons, List.drop_zero, List.take_succ_cons, List.take_zero]) <;> exact rfl)) (by exact rfl) ?_; go_frame; go_big_quiet_on) | (refine quiet_load_at rfl rfl (by with_reducible repeat (first | exact Sel.here | apply Sel.there)) (by kernel_rfl) (by first | assumption | exact rfl) ?_; go_frame; go_big_quiet_on) | (go_big_quiet_op; (first | go_big_quiet_on | ((apply Exists.intro); (refine ⟨fun w1 hw => ?_, ?_⟩); (focus ((have hw := Cl.out hw); (fail))); (go_big_quiet_on))))))))
                        (refine wpQuiet_nil ?_); (intro w1 hB); (clear hF hA hn1 hn2); (have hA := Cl.out hB); (clear hB); (try simp only [uA] at hA); have hF := hA.facts; (try simp only [fA, facts_row, and_true, true_and] at hF)
                        go_wp2_with (first | ((with_reducible refine gst ?_); refine wS hA ?_; clear hF hA; intro w1 hA; (try simp only [uA] at hA); have hF := hA.facts; (try simp only [fA, facts_row, and_true, true_and] at hF)) | ((with_reducible refine gbx ?_); refine wB hA ?_; clear hF hA; intro b1 w1 hA hb1; (try simp only [uA] at hA); have hF := hA.facts; (try simp only [fA, facts_row, and_true, true_and] at hF)))
                        go_roundg (gk - 1)
                        case measure => omega
                        case rel => exact ⟨j + 1, by simp, by omega, by rw [hmn.out, hkb'.out]; rfl, hA.pick (by repeat (first | exact Picks.nil | refine Picks.cons (by repeat (first | exact Sel.here | apply Sel.there)) ?_))⟩
                    · have hj2 : j = i := by omega
                      subst hj2
                      have hjI : ¬ (j : Int) < j := by omega
                      obtain ⟨kb, hkb⟩ : ∃ b, decide ((ry, ty) ∈ todo.take j) = b := ⟨_, rfl⟩
                      have hkb' := Lib.hid hkb
                      rw [hkb]
                      clear hkb
                      have hF := hA.facts
                      (try simp only [uA] at hA); have hF := hA.facts; (try simp only [fA, facts_row, and_true, true_and] at hF)
                      cases kb
                      · have hkn := of_decide_eq_false hkb'.out
                        have hgx := hxg.out (ry, ty)
                        cases hg : getA es (ry, ty) with
                        | none =>
                          rw [hg] at hgx
                          have hfk := find_none hgx
                          have hms2 := Lib.hid (hmw'.out.lack hy'.out hkn hg)
                          have hw1 : IntKind.i64.wrap (((ms.length : Nat) : Int) + 1) = ((ms.length + 1 : Nat) : Int) := by rw [IntKind.wrap_i64] <;> omega
                          have hmsl := Lib.hid (show (ms ++ [(ry, ty)]).length = ms.length + 1 from by simp)
                          clear hkn hg hgx
                          go_wp2_with (first | ((with_reducible show wpList _ _ _ ({ dst := some 123, op := Op.load _ _, type := _, pos := _, after := _, guard := _ } :: _) _ _); refine wpList_loadCut_at (b := gt) (vs := [.int .i64 ry, .int .i64 ty]) rfl rfl (by (try simp only [Act.eval, eV]) <;> exact rfl) hA (by repeat (first | exact Sel.here | apply Sel.there)) hey'.out (by kernel_rfl) (by kernel_rfl) ?_) | ((with_reducible refine gst ?_); refine wS hA ?_; clear hF hA; intro w1 hA; (try simp only [uA] at hA); have hF := hA.facts; (try simp only [fA, facts_row, and_true, true_and] at hF)) | ((with_reducible refine gbx ?_); refine wB hA ?_; clear hF hA; intro b1 w1 hA hb1; (try simp only [uA] at hA); have hF := hA.facts; (try simp only [fA, facts_row, and_true, true_and] at hF)))
                          refine (find_any (hA.sep1 (A := rowD (.slice axx xs.length capx) xs) (by repeat (first | exact Sel.here | apply Sel.there))) (ry, ty) (by omega)).mono ?_
                          rintro e w7 ⟨rfl, hT⟩
                          have hB := hA.call1 (A := rowD (.slice axx xs.length capx) xs) (by repeat (first | exact Sel.here | apply Sel.there)) hT
                          clear hT
                          clear hF hA
                          have hA := hB
                          clear hB
                          try simp only [List.cons_append, List.nil_append] at hA
                          have hF := hA.facts
                          (try simp only [uA] at hA); have hF := hA.facts; (try simp only [fA, facts_row, and_true, true_and] at hF)
                          rw [hfk]
                          go_wp2_with (first | ((with_reducible refine gst ?_); refine wS hA ?_; clear hF hA; intro w1 hA; (try simp only [uA] at hA); have hF := hA.facts; (try simp only [fA, facts_row, and_true, true_and] at hF)) | ((with_reducible refine gbx ?_); refine wB hA ?_; clear hF hA; intro b1 w1 hA hb1; (try simp only [uA] at hA); have hF := hA.facts; (try simp only [fA, facts_row, and_true, true_and] at hF)))
                          go_roundg G
                          case measure => exact hGk.out.2
                          case rel =>
                            have hC := hA.row_shut (e := 45) (size := 2) (g := gt) (n := todo.length) (cap := capt) (xs := flatI todo) (by repeat (first | exact Sel.here | apply Sel.there)) htl hcpt htm htt'.out
                            exact ⟨j + 1, todo, _, ks, by simp, by rw [hmsl.out]; simp, by omega, hGk.out.1, hms2.out, hC.pick (by repeat (first | exact Picks.nil | refine Picks.cons (by repeat (first | exact Sel.here | apply Sel.there)) ?_))⟩
                        | some b =>
                          rw [hg] at hgx
                          obtain ⟨k, hfk, hkl, hke⟩ := find_some hgx
                          have hms2 := Lib.hid (hmw'.out.more hy'.out hkn hg)
                          have hdep := Lib.hid (hown.out.deps _ _ hg)
                          have hll7 := leads_len f b
                          have hke' := Lib.hid hke
                          clear hkn hg hgx hke
                          go_wp2_with (first | ((with_reducible show wpList _ _ _ ({ dst := some 123, op := Op.load _ _, type := _, pos := _, after := _, guard := _ } :: _) _ _); refine wpList_loadCut_at (b := gt) (vs := [.int .i64 ry, .int .i64 ty]) rfl rfl (by (try simp only [Act.eval, eV]) <;> exact rfl) hA (by repeat (first | exact Sel.here | apply Sel.there)) hey'.out (by kernel_rfl) (by kernel_rfl) ?_) | ((with_reducible refine gst ?_); refine wS hA ?_; clear hF hA; intro w1 hA; (try simp only [uA] at hA); have hF := hA.facts; (try simp only [fA, facts_row, and_true, true_and] at hF)) | ((with_reducible refine gbx ?_); refine wB hA ?_; clear hF hA; intro b1 w1 hA hb1; (try simp only [uA] at hA); have hF := hA.facts; (try simp only [fA, facts_row, and_true, true_and] at hF)))
                          refine (find_any (hA.sep1 (A := rowD (.slice axx xs.length capx) xs) (by repeat (first | exact Sel.here | apply Sel.there))) (ry, ty) (by omega)).mono ?_
                          rintro e w7 ⟨rfl, hT⟩
                          have hB := hA.call1 (A := rowD (.slice axx xs.length capx) xs) (by repeat (first | exact Sel.here | apply Sel.there)) hT
                          clear hT
                          clear hF hA
                          have hA := hB
                          clear hB
                          try simp only [List.cons_append, List.nil_append] at hA
                          have hF := hA.facts
                          (try simp only [uA] at hA); have hF := hA.facts; (try simp only [fA, facts_row, and_true, true_and] at hF)
                          rw [hfk]
                          have hkI : (k : Int) < xs.length := by omega
                          have hk0 : ¬ (k : Int) < 0 := by omega
                          obtain ⟨gx, cx, hgx2, _, hxm, hxl, hxt, hB⟩ := hA.row_open (e := 52) (size := 10) (ax := axx) (cap := capx) (n := xs.length) (xs := flatD xs) (by repeat (first | exact Sel.here | apply Sel.there)) (by omega)
                          subst hgx2
                          have hx10 := cut_cells cellsD_len hxt hke'.out
                          have hxt' := Lib.hid hxt
                          have hC := hB.row_shut (e := 45) (size := 2) (g := gt) (n := todo.length) (cap := capt) (xs := flatI todo) (by repeat (first | exact Sel.here | apply Sel.there)) htl hcpt htm htt'.out
                          clear hA hB hxt
                          have hA := hC
                          clear hC
                          have hlds := fun w1 => leadsN_any w1 ((ry, ty), b) f hdep.out
                          obtain ⟨ss, d0, d1, d2, d3, d4, d5, d6⟩ := b
                          simp only [cellsD] at hx10 hlds
                          simp only [F7.val] at hlds
                          have hF := hA.facts
                          (try simp only [uA] at hA); have hF := hA.facts; (try simp only [fA, facts_row, and_true, true_and] at hF)
                          go_upto_region 33 with (first | ((with_reducible refine gst ?_); refine wS hA ?_; clear hF hA; intro w1 hA; (try simp only [uA] at hA); have hF := hA.facts; (try simp only [fA, facts_row, and_true, true_and] at hF)) | ((with_reducible refine gbx ?_); refine wB hA ?_; clear hF hA; intro b1 w1 hA hb1; (try simp only [uA] at hA); have hF := hA.facts; (try simp only [fA, facts_row, and_true, true_and] at hF)))
                          try go_frame
                          have hB := hA.drew
                          clear hF hA
                          have hA := hB
                          clear hB
                          refine wp_region_held (S := fun w' => BlockIs w' gx cx 52 ∧ BlockIs w' b4 [.int .i64 f.f0, .int .i64 f.f1, .int .i64 f.f2, .int .i64 f.f3, .int .i64 f.f4, .int .i64 f.f5, .int .i64 f.f6] 24) hm ?_
                          change wpAnyH _ _ _ _ _ 9 _ _ (World.drew _)
                          generalize World.drew _ = wd at *
                          have hS0 := (⟨hA.get (A := Part.cells gx cx 52) (by repeat (first | exact Sel.here | apply Sel.there)), hA.get (A := Part.cells b4 [.int .i64 f.f0, .int .i64 f.f1, .int .i64 f.f2, .int .i64 f.f3, .int .i64 f.f4, .int .i64 f.f5, .int .i64 f.f6] 24) (by repeat (first | exact Sel.here | apply Sel.there))⟩ : (fun w' => BlockIs w' gx cx 52 ∧ BlockIs w' b4 [.int .i64 f.f0, .int .i64 f.f1, .int .i64 f.f2, .int .i64 f.f3, .int .i64 f.f4, .int .i64 f.f5, .int .i64 f.f6] 24) wd)
                          refine wpAnyH_takeD (i := 0) (d := some 129) (v := .slice (some ⟨gt, 0, none⟩) todo.length capt) rfl rfl (by kernel_rfl) (by kernel_rfl) (by kernel_rfl) (fun _ _ _ h => h) rfl (fun w' hS => by first | (simp [execOp, go_sem, Act.eval, Act.put]; done) | kernel_rfl) hS0 ?_
                          try go_frame
                          refine wpAnyH_takeD (i := 1) (d := some 130) (v := .slice (some ⟨gx, 0, none⟩) xs.length capx) rfl rfl (by kernel_rfl) (by kernel_rfl) (by kernel_rfl) (fun _ _ _ h => h) rfl (fun w' hS => by first | (simp [execOp, go_sem, Act.eval, Act.put]; done) | kernel_rfl) hS0 ?_
                          try go_frame
                          refine wpAnyH_takeD (i := 2) (d := some 131) (v := .int .i64 (k : Int)) rfl rfl (by kernel_rfl) (by kernel_rfl) (by kernel_rfl) (fun _ _ _ h => h) rfl (fun w' hS => by first | (simp [execOp, go_sem, Act.eval, Act.put]; done) | kernel_rfl) hS0 ?_
                          try go_frame
                          refine wpAnyH_takeD (i := 3) (d := some 132) (v := .pointer (some ⟨gx, k * 10, none⟩)) rfl rfl (by kernel_rfl) (by kernel_rfl) (by kernel_rfl) (fun _ _ _ h => h) rfl (fun w' hS => by simp [execOp, go_sem, Act.eval, Act.put]; omega) hS0 ?_
                          try go_frame
                          refine wpAnyH_takeD (i := 4) (d := some 133) (v := .agg #[.int .i64 ry, .int .i64 ty, .int .i64 ss, .int .i64 d0, .int .i64 d1, .int .i64 d2, .int .i64 d3, .int .i64 d4, .int .i64 d5, .int .i64 d6]) rfl rfl (by kernel_rfl) (by kernel_rfl) (by kernel_rfl) (fun _ _ _ h => h) rfl (fun w' hS => run_load_row (ty := 52) (n := 10) (b := gx) (j := k * 10) rfl (by exact rfl) hS.1 (by kernel_rfl) (by kernel_rfl) hx10 rfl) hS0 ?_
                          try go_frame
                          refine wpAnyH_takeD (i := 5) (d := some 134) (v := .agg #[.int .i64 f.f0, .int .i64 f.f1, .int .i64 f.f2, .int .i64 f.f3, .int .i64 f.f4, .int .i64 f.f5, .int .i64 f.f6]) rfl rfl (by kernel_rfl) (by kernel_rfl) (by kernel_rfl) (fun _ _ _ h => h) rfl (fun w' hS => run_load_row (ty := 24) (n := 7) (b := b4) (j := 0) rfl (by exact rfl) hS.2 (by kernel_rfl) (by kernel_rfl) rfl rfl) hS0 ?_
                          try go_frame
                          refine wpAnyH_one (i := 6) (by kernel_rfl) ?_
                          refine opCall_at (i := 6) (d := some 135) (R := fun u w' => At [] wd [rowJ u (leads f ⟨ss, d0, d1, d2, d3, d4, d5, d6⟩)] w') rfl rfl (by kernel_rfl) (fn := 21) (args := #[.agg #[.int .i64 ry, .int .i64 ty, .int .i64 ss, .int .i64 d0, .int .i64 d1, .int .i64 d2, .int .i64 d3, .int .i64 d4, .int .i64 d5, .int .i64 d6], .agg #[.int .i64 f.f0, .int .i64 f.f1, .int .i64 f.f2, .int .i64 f.f3, .int .i64 f.f4, .int .i64 f.f5, .int .i64 f.f6]]) (by simp [execOp, go_sem, Act.eval, Act.put]) ((hlds wd).mono fun e w' ⟨v, he, hT⟩ => ⟨v, he, hT⟩) ?_
                          intro vq w3 hT
                          have hB := hA.call0 hT
                          clear hT
                          simp only [List.cons_append, List.nil_append] at hB
                          have hS0 := (⟨hB.get (A := Part.cells gx cx 52) (by repeat (first | exact Sel.here | apply Sel.there)), hB.get (A := Part.cells b4 [.int .i64 f.f0, .int .i64 f.f1, .int .i64 f.f2, .int .i64 f.f3, .int .i64 f.f4, .int .i64 f.f5, .int .i64 f.f6] 24) (by repeat (first | exact Sel.here | apply Sel.there))⟩ : (fun w' => BlockIs w' gx cx 52 ∧ BlockIs w' b4 [.int .i64 f.f0, .int .i64 f.f1, .int .i64 f.f2, .int .i64 f.f3, .int .i64 f.f4, .int .i64 f.f5, .int .i64 f.f6] 24) w3)
                          clear hA
                          have hA := hB
                          clear hB
                          refine ⟨hS0, ?_⟩
                          try go_frame
                          refine wpAnyH_one (i := 7) (by kernel_rfl) ?_
                          refine opAppend_at (k := 7) (d := some 136) (e := 45) (size := 2) (v := .slice (some ⟨gt, 0, none⟩) todo.length capt) (xs := flatI todo) (n := todo.length) (m := (leads f ⟨ss, d0, d1, d2, d3, d4, d5, d6⟩).length) (news := flatI (leads f ⟨ss, d0, d1, d2, d3, d4, d5, d6⟩)) rfl rfl rfl rfl _ _ 48 rfl Try.underlying48 hi0 hz0 hz1 hz2 rfl (by omega) hA (by repeat (first | exact Sel.here | apply Sel.there)) (by (try simp only [Act.eval, eV]) <;> exact rfl) (by (try simp only [Act.eval, eV]) <;> exact rfl) (flatI_len _) (hA.row_reads (v := vq) (n := (leads f ⟨ss, d0, d1, d2, d3, d4, d5, d6⟩).length) (xs := flatI (leads f ⟨ss, d0, d1, d2, d3, d4, d5, d6⟩)) (by repeat (first | exact Sel.here | apply Sel.there))) (flatI_one _) (by unfold maxLen; omega) (by omega) ?_
                          intro vp w3 hB
                          rw [rowJ_app] at hB
                          have hS0 := (⟨hB.get (A := Part.cells gx cx 52) (by repeat (first | exact Sel.here | apply Sel.there)), hB.get (A := Part.cells b4 [.int .i64 f.f0, .int .i64 f.f1, .int .i64 f.f2, .int .i64 f.f3, .int .i64 f.f4, .int .i64 f.f5, .int .i64 f.f6] 24) (by repeat (first | exact Sel.here | apply Sel.there))⟩ : (fun w' => BlockIs w' gx cx 52 ∧ BlockIs w' b4 [.int .i64 f.f0, .int .i64 f.f1, .int .i64 f.f2, .int .i64 f.f3, .int .i64 f.f4, .int .i64 f.f5, .int .i64 f.f6] 24) w3)
                          clear hA
                          have hA := hB
                          clear hB
                          refine ⟨hS0, ?_⟩
                          try go_frame
                          refine wpAnyH_takeD (i := 8) (d := some 15) (v := vp) rfl rfl (by kernel_rfl) (by kernel_rfl) (by kernel_rfl) (fun _ _ _ h => h) rfl (fun w' hS => by first | (simp [execOp, go_sem, Act.eval, Act.put]; done) | kernel_rfl) hS0 ?_
                          try go_frame
                          refine wpAnyH_done (by kernel_rfl) ?_ _
                          try go_frame
                          clear hS0
                          have hF := hA.facts
                          (try simp only [uA] at hA); have hF := hA.facts; (try simp only [fA, facts_row, and_true, true_and] at hF)
                          go_wp2_with (first | ((with_reducible refine gst ?_); refine wS hA ?_; clear hF hA; intro w1 hA; (try simp only [uA] at hA); have hF := hA.facts; (try simp only [fA, facts_row, and_true, true_and] at hF)) | ((with_reducible refine gbx ?_); refine wB hA ?_; clear hF hA; intro b1 w1 hA hb1; (try simp only [uA] at hA); have hF := hA.facts; (try simp only [fA, facts_row, and_true, true_and] at hF)))
                          go_roundg G
                          case measure => exact hGk.out.2
                          case rel =>
                            have hC := hA.row_shut (e := 52) (size := 10) (g := gx) (n := xs.length) (cap := capx) (xs := flatD xs) (by repeat (first | exact Sel.here | apply Sel.there)) hxl hcpx hxm hxt'.out
                            exact ⟨j + 1, todo ++ (leads f ⟨ss, d0, d1, d2, d3, d4, d5, d6⟩), ms, _, by simp, rfl, by rw [List.length_append]; omega, hGk.out.1, hms2.out, hC.pick (by repeat (first | exact Picks.nil | refine Picks.cons (by repeat (first | exact Sel.here | apply Sel.there)) ?_))⟩
                      · have hkn := of_decide_eq_true hkb'.out
                        have hms2 := Lib.hid (hmw'.out.known hy'.out hkn)
                        clear hkn
                        go_wp2_with (first | ((with_reducible refine gst ?_); refine wS hA ?_; clear hF hA; intro w1 hA; (try simp only [uA] at hA); have hF := hA.facts; (try simp only [fA, facts_row, and_true, true_and] at hF)) | ((with_reducible refine gbx ?_); refine wB hA ?_; clear hF hA; intro b1 w1 hA hb1; (try simp only [uA] at hA); have hF := hA.facts; (try simp only [fA, facts_row, and_true, true_and] at hF)))
                        go_roundg G
                        case measure => exact hGk.out.2
                        case rel =>
                          have hC := hA.row_shut (e := 45) (size := 2) (g := gt) (n := todo.length) (cap := capt) (xs := flatI todo) (by repeat (first | exact Sel.here | apply Sel.there)) htl hcpt htm htt'.out
                          exact ⟨j + 1, todo, ms, ks, by simp, rfl, by omega, hGk.out.1, hms2.out, hC.pick (by repeat (first | exact Picks.nil | refine Picks.cons (by repeat (first | exact Sel.here | apply Sel.there)) ?_))⟩
                · have hiI : ¬ (i : Int) < todo.length := by omega
                  have hme := hmw'.out.done (by omega) hmi'.out
                  have hF := hA.facts
                  (try simp only [uA] at hA); have hF := hA.facts; (try simp only [fA, facts_row, and_true, true_and] at hF)
                  rw [hme]
                  go_wp2_with (first | ((with_reducible refine gst ?_); refine wS hA ?_; clear hF hA; intro w1 hA; (try simp only [uA] at hA); have hF := hA.facts; (try simp only [fA, facts_row, and_true, true_and] at hF)) | ((with_reducible refine gbx ?_); refine wB hA ?_; clear hF hA; intro b1 w1 hA hb1; (try simp only [uA] at hA); have hF := hA.facts; (try simp only [fA, facts_row, and_true, true_and] at hF)))
                  go_ret
                  exact ⟨by simp, below_old hA (by repeat (first | exact Sel.here | apply Sel.there))⟩
  · have hgt : (20 : Int) < l.length := by omega
    go_wp2_with (first | ((with_reducible refine gst ?_); refine wS hA ?_; clear hF hA; intro w1 hA; (try simp only [uA] at hA); have hF := hA.facts; (try simp only [fA, facts_row, and_true, true_and] at hF)) | ((with_reducible refine gbx ?_); refine wB hA ?_; clear hF hA; intro b1 w1 hA hb1; (try simp only [uA] at hA); have hF := hA.facts; (try simp only [fA, facts_row, and_true, true_and] at hF)))
    go_ret
    exact ⟨rfl, below_old hA (by repeat (first | exact Sel.here | apply Sel.there))⟩
end Go.Proofs.Ytgicohkmfbbbdaa.Gr
end
