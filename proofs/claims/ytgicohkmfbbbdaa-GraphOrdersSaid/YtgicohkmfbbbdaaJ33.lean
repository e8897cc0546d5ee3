/- RefV, GrbL, joined. -/
import Derived.Test.YtgicohkmfbbbdaaJ31
import Derived.Test.YtgicohkmfbbbdaaJ20
import Derived.Deep.LoopGhost
import Derived.Test.YtgicohkmfbbbdaaJ28
import Derived.Test.YtgicohkmfbbbdaaJ16
section
namespace Go.Proofs.Ytgicohkmfbbbdaa.Ref
open _root_.Go.Proofs.Ytgicohkmfbbbdaa.Gr
open _root_.Go.Proofs.Ytgicohkmfbbbdaa.Mark (ltID)
open _root_.Go.Proofs.Ytgicohkmfbbbdaa.Attr (A8)
open Go.RowKit
open Tar (freeD)
set_option linter.unusedSimpArgs false
set_option linter.unusedVariables false
attribute [-go_sem] run_eql_struct run_neq_struct run_eqGuard_agg

section
variable {P : Program} {ops : Array Oper} {rest : List Oper} {o : Oper} {a : Act} {Q : Exit → Act → World → Prop} {L0 L F : List Part} {w0 w : World} {K : Act → Prop}
/-- a cell of a row of whatever elements -/
theorem quiet_rowN_at {ty e : TypeId} {x : Operand} {g n cap j size : Nat} {xs : List Value} {v : Value} (hop : o.op = .load ty x) (hx : a.eval x = .pointer (some ⟨g, j, none⟩)) (s : Sel (Part.row e size (.slice (some ⟨g, 0, none⟩) n cap) n xs) L F) (hu : (P.underlying ty).map (·.isRow) = some false) (hv : xs[j]? = some v)
    (hk : K (a.put o.dst v)) : o.quiet P a (Cl L0 w0 L) K := quiet_at v (fun w' hw => run_load_cell hop hx hu (reads_cell ((show At L0 w0 L w' from hw).row_reads s) hv)) hk
/-- an element of a row loaded -/
theorem wpList_rowN_at {ty e : TypeId} {x : Operand} {g n cap j size : Nat} {xs vs : List Value} (hg : o.guard = none) (hop : o.op = .load ty x) (hx : a.eval x = .pointer (some ⟨g, j, none⟩)) (h : At L0 w0 L w) (s : Sel (Part.row e size (.slice (some ⟨g, 0, none⟩) n cap) n xs) L F)
    (hv : (xs.drop j).take vs.length = vs) (hu : (P.underlying ty).map (·.isRow) = some true) (hi : (P.info? ty).map (·.size) = some vs.length)
    (hK : wpList P ops Q rest (a.put o.dst (.agg vs.toArray)) w) : wpList P ops Q (o :: rest) a w :=
  wpList_loadRow_at hg hop hx (fun k u hk => by
    have hl := (List.getElem?_eq_some_iff.1 hk).1
    refine reads_cell (h.row_reads s) ?_
    rw [← List.getElem?_drop, ← hk, ← hv, List.getElem?_take, if_pos hl]) hu hi hK
end
def cF (c : List Bool) (k : Nat) : Bool := c[k]?.getD false
theorem cF_get {c : List Bool} {k : Nat} {b : Bool} (h : c[k]? = some b) : cF c k = b := by unfold cF; rw [h]; rfl
theorem cF_at {c : List Bool} {k : Nat} (h : k < c.length) : c[k]? = some (cF c k) := by rw [List.getElem?_eq_getElem h, cF_get (List.getElem?_eq_getElem h)]
/-- free, as far as it was looked at -/
def frF (t : Nat → Nat → Bool) (come : Nat → Bool) (i q : Nat) : Bool := !come i && (List.range q).all fun k => come k || !t i k || t k i
theorem frF_next (t : Nat → Nat → Bool) (come : Nat → Bool) (i q : Nat) : frF t come i (q + 1) = (frF t come i q && (come q || !t i q || t q i)) := by
  unfold frF
  rw [List.range_succ, List.all_append, Bool.and_assoc]
  simp
def firstZ (n : Nat) (t : Nat → Nat → Bool) (come : Nat → Bool) : Int := match (List.range n).find? (freeD n t come) with
  | some i => i
  | none => -1
theorem firstZ_at {n i : Nat} {t : Nat → Nat → Bool} {come : Nat → Bool} (hi : i < n) (h : freeD n t come i = true) (hno : ∀ j, j < i → freeD n t come j = false) : firstZ n t come = i := by
  unfold firstZ
  rw [find_first hi h hno]
theorem firstZ_no {n : Nat} {t : Nat → Nat → Bool} {come : Nat → Bool} (hno : ∀ j, j < n → freeD n t come j = false) : firstZ n t come = -1 := by
  unfold firstZ
  have : (List.range n).find? (freeD n t come) = none := List.find?_eq_none.2 fun x hx => by rw [hno x (List.mem_range.1 hx)]; simp
  rw [this]
def FsRel (w : World) (tv cv : Value) (T : List Br) (c : List Bool) (n : Nat) (k : Nat) (u : Value) (wr : World) : Prop :=
  ∃ i : Nat, u = .int .i64 i ∧ i + k = n ∧ (∀ j, j < i → freeD n (tF T) (cF c) j = false) ∧ At [rowT tv T, restB T, rowB cv c] w [rowT tv T, restB T, rowB cv c] wr
def FtRel (w : World) (tv cv : Value) (T : List Br) (c : List Bool) (n i : Nat) (k : Nat) (u7 u6 : Value) (wr : World) : Prop :=
  ∃ q : Nat, u7 = .int .i64 q ∧ q + k = n ∧ u6 = .bool (frF (tF T) (cF c) i q) ∧ At [rowT tv T, restB T, rowB cv c] w [rowT tv T, restB T, rowB cv c] wr
def FirstPost (tv cv : Value) (T : List Br) (c : List Bool) (n : Nat) (w : World) (e : Ending) (w' : World) : Prop :=
  e = .returned (.int .i64 (firstZ n (tF T) (cF c))) ∧ At [rowT tv T, restB T, rowB cv c] w [rowT tv T, restB T, rowB cv c] w'
set_option maxRecDepth 100000 in
set_option maxHeartbeats 4000000 in
theorem first_any {w : World} {tv cv : Value} {T : List Br} {c : List Bool} {n : Nat} (h : Sep [rowT tv T, restB T, rowB cv c] w) (hs : Sq T n) (hc : c.length = n) (hn : n ≤ 1000) :
    Calls Try.prog 48 #[tv, cv] w (FirstPost tv cv T c n w) := by
  have hA := At.start h
  have hs' := Lib.hid hs
  have hc' := Lib.hid hc
  clear h
  obtain ⟨axT, capT, hvT, _, _, _⟩ := hA.row_form (e := 60) (size := 1) (n := T.length) (v := tv) (xs := flatB T) (by repeat (first | exact Sel.here | apply Sel.there))
  obtain ⟨axc, capc, hvc, _, _, _⟩ := hA.row_form (e := 4) (size := 1) (n := c.length) (v := cv) (xs := boolL c) (by repeat (first | exact Sel.here | apply Sel.there))
  subst hvT
  subst hvc
  have hT1 := Lib.hid hs.1
  clear hs
  have hF := hA.facts
  (try simp only [uA] at hA); have hF := hA.facts; (try simp only [fA, facts_row, and_true, true_and] at hF)
  go_enter Try.func48, Try.ntmps48
  go_wp2_with (first | ((with_reducible refine gst ?_); refine wS hA ?_; clear hF hA; intro w1 hA; (try simp only [uA] at hA); have hF := hA.facts; (try simp only [fA, facts_row, and_true, true_and] at hF)) | ((with_reducible refine gbx ?_); refine wB hA ?_; clear hF hA; intro b1 w1 hA hb1; (try simp only [uA] at hA); have hF := hA.facts; (try simp only [fA, facts_row, and_true, true_and] at hF)))
  try go_frame
  clear hF hc
  go_loopg [5] n (FsRel w (.slice axT T.length capT) (.slice axc c.length capc) T c n)
  case atStart => exact ⟨0, rfl, by omega, nofun, hA⟩
  case round =>
    obtain ⟨i, rfl, hik, hno, hB⟩ := hrel
    clear hA
    have hA := hB
    have hno' := Lib.hid hno
    clear hB hno
    by_cases hi : i < n
    · skip
      have hiI : (i : Int) < T.length := by have := hT1.out; omega
      have hcI : (i : Int) < c.length := by have := hc'.out; omega
      have hci := cF_at (c := c) (k := i) (by have := hc'.out; omega)
      obtain ⟨gc, cc, hgc, _, _, _, _, _⟩ := hA.row_open (e := 4) (size := 1) (ax := axc) (cap := capc) (n := c.length) (xs := boolL c) (by repeat (first | exact Sel.here | apply Sel.there)) (by omega)
      obtain ⟨gT, cT, hgT, _, _, _, _, _⟩ := hA.row_open (e := 60) (size := 1) (ax := axT) (cap := capT) (n := T.length) (xs := flatB T) (by repeat (first | exact Sel.here | apply Sel.there)) (by omega)
      subst hgc
      subst hgT
      have hcc : wr.cell? ⟨gc, i, none⟩ = some (.bool (cF c i)) := reads_cell (hA.row_reads (v := .slice (some ⟨gc, 0, none⟩) c.length capc) (n := c.length) (xs := boolL c) (by repeat (first | exact Sel.here | apply Sel.there))) (boolL_get hci)
      have hikG : i + 1 + (gk - 1) = n ∧ gk - 1 < gk := by omega
      obtain ⟨G, hG⟩ : ∃ G, gk - 1 = G := ⟨_, rfl⟩
      rw [hG] at hikG
      have hGk := Lib.hid hikG
      clear hG hik hikG
      have hf0 := Lib.hid (show frF (tF T) (cF c) i 0 = !cF c i from by simp [frF])
      generalize hcv : cF c i = b0 at hcc hf0
      clear hcv hci
      have hF := hA.facts
      (try simp only [uA] at hA); have hF := hA.facts; (try simp only [fA, facts_row, and_true, true_and] at hF)
      go_wp2_with (first | ((with_reducible refine gst ?_); refine wS hA ?_; clear hF hA; intro w1 hA; (try simp only [uA] at hA); have hF := hA.facts; (try simp only [fA, facts_row, and_true, true_and] at hF)) | ((with_reducible refine gbx ?_); refine wB hA ?_; clear hF hA; intro b1 w1 hA hb1; (try simp only [uA] at hA); have hF := hA.facts; (try simp only [fA, facts_row, and_true, true_and] at hF)))
      try go_frame
      clear hF hcc
      go_loopg [7, 6] n (FtRel w (.slice (some ⟨gT, 0, none⟩) T.length capT) (.slice (some ⟨gc, 0, none⟩) c.length capc) T c n i)
      case atStart => exact ⟨0, rfl, by omega, by rw [hf0.out], hA⟩
      case round =>
        obtain ⟨q, rfl, hqk, rfl, hB⟩ := hrel
        clear hA
        have hA := hB
        clear hB
        by_cases hq : q < n
        · skip
          have hqI : (q : Int) < T.length := by have := hT1.out; omega
          have hqC : (q : Int) < c.length := by have := hc'.out; omega
          have hcq := cF_at (c := c) (k := q) (by have := hc'.out; omega)
          obtain ⟨xi, hxi, hik2⟩ := hs'.out.cell hi hq
          obtain ⟨xq, hxq, hki2⟩ := hs'.out.cell hq hi
          have hli := hs'.out.2 i xi hxi
          have hlq := hs'.out.2 q xq hxq
          have d1 : wr.cell? ⟨gc, q, none⟩ = some (.bool (cF c q)) := reads_cell (hA.row_reads (v := .slice (some ⟨gc, 0, none⟩) c.length capc) (n := c.length) (xs := boolL c) (by repeat (first | exact Sel.here | apply Sel.there))) (boolL_get hcq)
          have d2 : wr.cell? ⟨gT, i, none⟩ = some xi.v := reads_cell (hA.row_reads (v := .slice (some ⟨gT, 0, none⟩) T.length capT) (n := T.length) (xs := flatB T) (by repeat (first | exact Sel.here | apply Sel.there))) (flatB_get hxi)
          have d3 : wr.cell? ⟨gT, q, none⟩ = some xq.v := reads_cell (hA.row_reads (v := .slice (some ⟨gT, 0, none⟩) T.length capT) (n := T.length) (xs := flatB T) (by repeat (first | exact Sel.here | apply Sel.there))) (flatB_get hxq)
          have d4 := pool_cell hA (by repeat (first | exact Sel.here | apply Sel.there)) hxi hik2
          have d5 := pool_cell hA (by repeat (first | exact Sel.here | apply Sel.there)) hxq hki2
          obtain ⟨gi, ci, bi⟩ := xi
          obtain ⟨gq, cq, bq⟩ := xq
          simp only [Br.v] at d2 d3 d4 d5 hli hlq
          have hl1 : (q : Int) < bi.length := by omega
          have hl2 : (i : Int) < bq.length := by omega
          have hnx := Lib.hid (frF_next (tF T) (cF c) i q)
          obtain ⟨v0, hv0⟩ : ∃ b, frF (tF T) (cF c) i q = b := ⟨_, rfl⟩
          obtain ⟨v1, hv1⟩ : ∃ b, cF c q = b := ⟨_, rfl⟩
          obtain ⟨v2, hv2⟩ : ∃ b, tF T i q = b := ⟨_, rfl⟩
          obtain ⟨v3, hv3⟩ : ∃ b, tF T q i = b := ⟨_, rfl⟩
          rw [hv0]
          rw [hv1] at d1
          rw [hv2] at d4
          rw [hv3] at d5
          have hv' := Lib.hid (show frF (tF T) (cF c) i (q + 1) = (v0 && (v1 || !v2 || v3)) from by rw [hnx.out, hv0, hv1, hv2, hv3])
          clear hv0 hv1 hv2 hv3 hxi hxq hik2 hki2 hli hlq hcq hnx
          have hF := hA.facts
          (try simp only [uA] at hA); have hF := hA.facts; (try simp only [fA, facts_row, and_true, true_and] at hF)
          cases v0
          · go_wp2_with (first | ((with_reducible refine gst ?_); refine wS hA ?_; clear hF hA; intro w1 hA; (try simp only [uA] at hA); have hF := hA.facts; (try simp only [fA, facts_row, and_true, true_and] at hF)) | ((with_reducible refine gbx ?_); refine wB hA ?_; clear hF hA; intro b1 w1 hA hb1; (try simp only [uA] at hA); have hF := hA.facts; (try simp only [fA, facts_row, and_true, true_and] at hF)))
            go_roundg (gk - 1)
            case measure => omega
            case rel => exact ⟨q + 1, by simp, by omega, by rw [hv'.out]; simp, hA⟩
          · cases v1
            · cases v2
              · go_wp2_with (first | ((with_reducible refine gst ?_); refine wS hA ?_; clear hF hA; intro w1 hA; (try simp only [uA] at hA); have hF := hA.facts; (try simp only [fA, facts_row, and_true, true_and] at hF)) | ((with_reducible refine gbx ?_); refine wB hA ?_; clear hF hA; intro b1 w1 hA hb1; (try simp only [uA] at hA); have hF := hA.facts; (try simp only [fA, facts_row, and_true, true_and] at hF)))
                go_roundg (gk - 1)
                case measure => omega
                case rel => exact ⟨q + 1, by simp, by omega, by rw [hv'.out]; simp, hA⟩
              · go_wp2_with (first | ((with_reducible refine gst ?_); refine wS hA ?_; clear hF hA; intro w1 hA; (try simp only [uA] at hA); have hF := hA.facts; (try simp only [fA, facts_row, and_true, true_and] at hF)) | ((with_reducible refine gbx ?_); refine wB hA ?_; clear hF hA; intro b1 w1 hA hb1; (try simp only [uA] at hA); have hF := hA.facts; (try simp only [fA, facts_row, and_true, true_and] at hF)))
                go_roundg (gk - 1)
                case measure => omega
                case rel => exact ⟨q + 1, by simp, by omega, by rw [hv'.out]; simp, hA⟩
            · go_wp2_with (first | ((with_reducible refine gst ?_); refine wS hA ?_; clear hF hA; intro w1 hA; (try simp only [uA] at hA); have hF := hA.facts; (try simp only [fA, facts_row, and_true, true_and] at hF)) | ((with_reducible refine gbx ?_); refine wB hA ?_; clear hF hA; intro b1 w1 hA hb1; (try simp only [uA] at hA); have hF := hA.facts; (try simp only [fA, facts_row, and_true, true_and] at hF)))
              go_roundg (gk - 1)
              case measure => omega
              case rel => exact ⟨q + 1, by simp, by omega, by rw [hv'.out]; simp, hA⟩
        · have hqI : ¬ (q : Int) < T.length := by have := hT1.out; omega
          have hq2 : q = n := by omega
          subst hq2
          have hfd : frF (tF T) (cF c) i q = freeD q (tF T) (cF c) i := rfl
          rw [hfd]
          obtain ⟨v0, hv0⟩ : ∃ b, freeD q (tF T) (cF c) i = b := ⟨_, rfl⟩
          rw [hv0]
          have hv0' := Lib.hid hv0
          clear hv0 hfd
          have hF := hA.facts
          (try simp only [uA] at hA); have hF := hA.facts; (try simp only [fA, facts_row, and_true, true_and] at hF)
          cases v0
          · go_wp2_with (first | ((with_reducible refine gst ?_); refine wS hA ?_; clear hF hA; intro w1 hA; (try simp only [uA] at hA); have hF := hA.facts; (try simp only [fA, facts_row, and_true, true_and] at hF)) | ((with_reducible refine gbx ?_); refine wB hA ?_; clear hF hA; intro b1 w1 hA hb1; (try simp only [uA] at hA); have hF := hA.facts; (try simp only [fA, facts_row, and_true, true_and] at hF)))
            go_roundg G
            case measure => exact hGk.out.2
            case rel => exact ⟨i + 1, by simp, hGk.out.1, fun j hj => if e : j = i then by rw [e]; exact hv0'.out else hno'.out j (by omega), hA⟩
          · go_wp2_with (first | ((with_reducible refine gst ?_); refine wS hA ?_; clear hF hA; intro w1 hA; (try simp only [uA] at hA); have hF := hA.facts; (try simp only [fA, facts_row, and_true, true_and] at hF)) | ((with_reducible refine gbx ?_); refine wB hA ?_; clear hF hA; intro b1 w1 hA hb1; (try simp only [uA] at hA); have hF := hA.facts; (try simp only [fA, facts_row, and_true, true_and] at hF)))
            go_ret
            exact ⟨by rw [firstZ_at hi hv0'.out hno'.out]; rfl, hA⟩
    · have hiI : ¬ (i : Int) < T.length := by have := hT1.out; omega
      have hF := hA.facts
      (try simp only [uA] at hA); have hF := hA.facts; (try simp only [fA, facts_row, and_true, true_and] at hF)
      go_wp2_with (first | ((with_reducible refine gst ?_); refine wS hA ?_; clear hF hA; intro w1 hA; (try simp only [uA] at hA); have hF := hA.facts; (try simp only [fA, facts_row, and_true, true_and] at hF)) | ((with_reducible refine gbx ?_); refine wB hA ?_; clear hF hA; intro b1 w1 hA hb1; (try simp only [uA] at hA); have hF := hA.facts; (try simp only [fA, facts_row, and_true, true_and] at hF)))
      go_ret
      exact ⟨by rw [firstZ_no fun j hj => hno'.out j (by omega)]; rfl, hA⟩
end Go.Proofs.Ytgicohkmfbbbdaa.Ref
end

section
namespace Go.Proofs.Ytgicohkmfbbbdaa.Gr
open _root_.Go.Proofs.Ytgicohkmfbbbdaa.Mark (ltID sortID cmpID)
open _root_.Go.Proofs.Ytgicohkmfbbbdaa.Ref (rowD flatD cellsD cellsD_len IA rowJ rowJ_snoc infoJ)
open Go.RowKit
open Attr (A8 thro)
set_option linter.unusedSimpArgs false
set_option linter.unusedVariables false

theorem ext_cmp (x y : I2) {w : World} {v : Int} (hv : cmpID x y = v) : Calls Try.prog 26 #[.agg #[.int .i64 x.1, .int .i64 x.2], .agg #[.int .i64 y.1, .int .i64 y.2]] w fun e w' => e = .returned (.int .i64 v) ∧ Ext w w' := by
  subst hv
  exact (Mark.compare_exact x y w).mono fun e w' ⟨h1, q, os, h2⟩ => ⟨h1, by rw [h2]; exact grow_ext w q os⟩
theorem cmp_neg {x y : I2} (h : ltID x y) : decide ((0 : Int) ≤ cmpID x y) = false := by
  have h1 := Mark.cmpID_lt x y
  rw [decide_eq_true h] at h1
  unfold ltOf at h1
  have h2 : cmpID x y < 0 := by simpa using h1
  exact decide_eq_false (by omega)
theorem cmp_neg2 {x y : I2} (h : ltID x y) : decide ((0 : Int) < cmpID x y) = false := by
  have h1 := cmp_neg h
  have h2 := of_decide_eq_false h1
  exact decide_eq_false (by omega)
theorem rowJ_app (v : Value) (l m : List I2) : Part.row 45 2 v (l.length + m.length) (flatI l ++ flatI m) = rowJ v (l ++ m) := by
  unfold rowJ
  rw [List.length_append]
  simp [flatI]
section
variable {P : Program} {ops : Array Oper} {rest : List Oper} {o : Oper} {a : Act} {Q : Exit → Act → World → Prop} {w : World}
/-- a beginning of a row -/
theorem wpList_slice_pre {t e : TypeId} {i : TypeInfo} {x hi' : Operand} {g n cap k : Nat} (hg : o.guard = none) (hop : o.op = .slice t x none (some hi') none) (ht : P.underlying t = some (.slice e)) (hi : P.info? e = some i) (hx : a.eval x = .slice (some ⟨g, 0, none⟩) n cap) (hh : a.eval hi' = .int .i64 (k : Int))
    (hk : k ≤ cap) (hK : wpList P ops Q rest (a.put o.dst (.slice (some ⟨g, 0, none⟩) k cap)) w) : wpList P ops Q (o :: rest) a w := by
  have hz : ∀ w, (sizeOf e).run P w = .ok i.size w := fun w => by simp [sizeOf, typeInfo, hi]
  refine wpList_val hg (w' := w) ?_ hK
  have hrun : (Instr.sliceAt t (.slice (some ⟨g, 0, none⟩) n cap) none (some (.int .i64 (k : Int))) none).run P w = .ok (.slice (some ⟨g, 0, none⟩) k cap) w := by
    simp [Instr.sliceAt, Instr.slice, run_underlying ht, Instr.sliceBounds, run_sliceBound, hz, Result.andThen, show (k : Int) ≤ cap by omega, Addr.add]
  simp [execOp, hop, hx, hh, hrun, Result.andThen]
end
end Go.Proofs.Ytgicohkmfbbbdaa.Gr
end
