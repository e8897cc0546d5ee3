/- RefV, RefW, joined. -/
import Derived.Test.YtgicohkmfbbbdaaK21
import Derived.Test.YtgicohkmfbbbdaaK20
import Derived.Deep.LoopGhost
section
namespace Go.Proofs.Ytgicohkmfbbbdaa.Ref
open _root_.Go.Proofs.Ytgicohkmfbbbdaa.Gr
open _root_.Go.Proofs.Ytgicohkmfbbbdaa.Mark (ltID)
open _root_.Go.Proofs.Ytgicohkmfbbbdaa.Attr (A8)
open Go.RowKit
open Tar (freeD)
set_option linter.unusedSimpArgs false
set_option linter.unusedVariables false
attribute [-go_sem] run_eql_struct run_neq_struct run_eqGuard_agg

section
variable {P : Program} {ops : Array Oper} {rest : List Oper} {o : Oper} {a : Act} {Q : Exit → Act → World → Prop} {L0 L F : List Part} {w0 w : World} {K : Act → Prop}
/-- a cell of a row of whatever elements -/
theorem quiet_rowN_at {ty e : TypeId} {x : Operand} {g n cap j size : Nat} {xs : List Value} {v : Value} (hop : o.op = .load ty x) (hx : a.eval x = .pointer (some ⟨g, j, none⟩)) (s : Sel (Part.row e size (.slice (some ⟨g, 0, none⟩) n cap) n xs) L F) (hu : (P.underlying ty).map (·.isRow) = some false) (hv : xs[j]? = some v)
    (hk : K (a.put o.dst v)) : o.quiet P a (Cl L0 w0 L) K := quiet_at v (fun w' hw => run_load_cell hop hx hu (reads_cell ((show At L0 w0 L w' from hw).row_reads s) hv)) hk
/-- an element of a row loaded -/
theorem wpList_rowN_at {ty e : TypeId} {x : Operand} {g n cap j size : Nat} {xs vs : List Value} (hg : o.guard = none) (hop : o.op = .load ty x) (hx : a.eval x = .pointer (some ⟨g, j, none⟩)) (h : At L0 w0 L w) (s : Sel (Part.row e size (.slice (some ⟨g, 0, none⟩) n cap) n xs) L F)
    (hv : (xs.drop j).take vs.length = vs) (hu : (P.underlying ty).map (·.isRow) = some true) (hi : (P.info? ty).map (·.size) = some vs.length)
    (hK : wpList P ops Q rest (a.put o.dst (.agg vs.toArray)) w) : wpList P ops Q (o :: rest) a w :=
  wpList_loadRow_at hg hop hx (fun k u hk => by
    have hl := (List.getElem?_eq_some_iff.1 hk).1
    refine reads_cell (h.row_reads s) ?_
    rw [← List.getElem?_drop, ← hk, ← hv, List.getElem?_take, if_pos hl]) hu hi hK
end
def cF (c : List Bool) (k : Nat) : Bool := c[k]?.getD false
theorem cF_get {c : List Bool} {k : Nat} {b : Bool} (h : c[k]? = some b) : cF c k = b := by unfold cF; rw [h]; rfl
theorem cF_at {c : List Bool} {k : Nat} (h : k < c.length) : c[k]? = some (cF c k) := by rw [List.getElem?_eq_getElem h, cF_get (List.getElem?_eq_getElem h)]
/-- free, as far as it was looked at -/
def frF (t : Nat → Nat → Bool) (come : Nat → Bool) (i q : Nat) : Bool := !come i && (List.range q).all fun k => come k || !t i k || t k i
theorem frF_next (t : Nat → Nat → Bool) (come : Nat → Bool) (i q : Nat) : frF t come i (q + 1) = (frF t come i q && (come q || !t i q || t q i)) := by
  unfold frF
  rw [List.range_succ, List.all_append, Bool.and_assoc]
  simp
def firstZ (n : Nat) (t : Nat → Nat → Bool) (come : Nat → Bool) : Int := match (List.range n).find? (freeD n t come) with
  | some i => i
  | none => -1
theorem firstZ_at {n i : Nat} {t : Nat → Nat → Bool} {come : Nat → Bool} (hi : i < n) (h : freeD n t come i = true) (hno : ∀ j, j < i → freeD n t come j = false) : firstZ n t come = i := by
  unfold firstZ
  rw [find_first hi h hno]
theorem firstZ_no {n : Nat} {t : Nat → Nat → Bool} {come : Nat → Bool} (hno : ∀ j, j < n → freeD n t come j = false) : firstZ n t come = -1 := by
  unfold firstZ
  have : (List.range n).find? (freeD n t come) = none := List.find?_eq_none.2 fun x hx => by rw [hno x (List.mem_range.1 hx)]; simp
  rw [this]
def FsRel (w : World) (tv cv : Value) (T : List Br) (c : List Bool) (n : Nat) (k : Nat) (u : Value) (wr : World) : Prop :=
  ∃ i : Nat, u = .int .i64 i ∧ i + k = n ∧ (∀ j, j < i → freeD n (tF T) (cF c) j = false) ∧ At [rowT tv T, restB T, rowB cv c] w [rowT tv T, restB T, rowB cv c] wr
def FtRel (w : World) (tv cv : Value) (T : List Br) (c : List Bool) (n i : Nat) (k : Nat) (u7 u6 : Value) (wr : World) : Prop :=
  ∃ q : Nat, u7 = .int .i64 q ∧ q + k = n ∧ u6 = .bool (frF (tF T) (cF c) i q) ∧ At [rowT tv T, restB T, rowB cv c] w [rowT tv T, restB T, rowB cv c] wr
def FirstPost (tv cv : Value) (T : List Br) (c : List Bool) (n : Nat) (w : World) (e : Ending) (w' : World) : Prop :=
  e = .returned (.int .i64 (firstZ n (tF T) (cF c))) ∧ At [rowT tv T, restB T, rowB cv c] w [rowT tv T, restB T, rowB cv c] w'
set_option maxRecDepth 100000 in
set_option maxHeartbeats 4000000 in
theorem first_any {w : World} {tv cv : Value} {T : List Br} {c : List Bool} {n : Nat} (h : Sep [rowT tv T, restB T, rowB cv c] w) (hs : Sq T n) (hc : c.length = n) (hn : n ≤ 1000) :
    Calls Try.prog 48 #[tv, cv] w (FirstPost tv cv T c n w) := by
  have hA := At.start h
  have hs' := Lib.hid hs
  have hc' := Lib.hid hc
  clear h
  obtain ⟨axT, capT, hvT, _, _, _⟩ := hA.row_form (e := 60) (size := 1) (n := T.length) (v := tv) (xs := flatB T) (by repeat (first | exact Sel.here | apply Sel.there))
  obtain ⟨axc, capc, hvc, _, _, _⟩ := hA.row_form (e := 4) (size := 1) (n := c.length) (v := cv) (xs := boolL c) (by repeat (first | exact Sel.here | apply Sel.there))
  subst hvT
  subst hvc
  have hT1 := Lib.hid hs.1
  clear hs
  (try simp only [uA] at hA); have hF := hA.facts; (try simp only [fZ] at hF)
  go_enter Try.func48, Try.ntmps48
  go_wp2_with (first | ((with_reducible refine gst ?_); refine wS hA ?_; clear hF hA; intro w1 hA; (try simp only [uA] at hA); have hF := hA.facts; (try simp only [fZ] at hF)) | ((with_reducible refine gbx ?_); refine wB hA ?_; clear hF hA; intro b1 w1 hA hb1; (try simp only [uA] at hA); have hF := hA.facts; (try simp only [fZ] at hF)))
  try go_frame
  clear hF hc
  go_loopg [5] n (FsRel w (.slice axT T.length capT) (.slice axc c.length capc) T c n)
  case atStart => exact ⟨0, rfl, by omega, nofun, hA⟩
  case round =>
    obtain ⟨i, rfl, hik, hno, hB⟩ := hrel
    clear hA
    have hA := hB
    have hno' := Lib.hid hno
    clear hB hno
    by_cases hi : i < n
    · skip
      have hiI : (i : Int) < T.length := by have := hT1.out; omega
      have hcI : (i : Int) < c.length := by have := hc'.out; omega
      have hci := cF_at (c := c) (k := i) (by have := hc'.out; omega)
      obtain ⟨gc, cc, hgc, _, _, _, _, _⟩ := hA.row_open (e := 4) (size := 1) (ax := axc) (cap := capc) (n := c.length) (xs := boolL c) (by repeat (first | exact Sel.here | apply Sel.there)) (by omega)
      obtain ⟨gT, cT, hgT, _, _, _, _, _⟩ := hA.row_open (e := 60) (size := 1) (ax := axT) (cap := capT) (n := T.length) (xs := flatB T) (by repeat (first | exact Sel.here | apply Sel.there)) (by omega)
      subst hgc
      subst hgT
      have hcc : wr.cell? ⟨gc, i, none⟩ = some (.bool (cF c i)) := reads_cell (hA.row_reads (v := .slice (some ⟨gc, 0, none⟩) c.length capc) (n := c.length) (xs := boolL c) (by repeat (first | exact Sel.here | apply Sel.there))) (boolL_get hci)
      have hikG : i + 1 + (gk - 1) = n ∧ gk - 1 < gk := by omega
      obtain ⟨G, hG⟩ : ∃ G, gk - 1 = G := ⟨_, rfl⟩
      rw [hG] at hikG
      have hGk := Lib.hid hikG
      clear hG hik hikG
      have hf0 := Lib.hid (show frF (tF T) (cF c) i 0 = !cF c i from by simp [frF])
      generalize hcv : cF c i = b0 at hcc hf0
      clear hcv hci
      (try simp only [uA] at hA); have hF := hA.facts; (try simp only [fZ] at hF)
      go_wp2_with (first | ((with_reducible refine gst ?_); refine wS hA ?_; clear hF hA; intro w1 hA; (try simp only [uA] at hA); have hF := hA.facts; (try simp only [fZ] at hF)) | ((with_reducible refine gbx ?_); refine wB hA ?_; clear hF hA; intro b1 w1 hA hb1; (try simp only [uA] at hA); have hF := hA.facts; (try simp only [fZ] at hF)))
      try go_frame
      clear hF hcc
      go_loopg [7, 6] n (FtRel w (.slice (some ⟨gT, 0, none⟩) T.length capT) (.slice (some ⟨gc, 0, none⟩) c.length capc) T c n i)
      case atStart => exact ⟨0, rfl, by omega, by rw [hf0.out], hA⟩
      case round =>
        obtain ⟨q, rfl, hqk, rfl, hB⟩ := hrel
        clear hA; have hA := hB; clear hB
        by_cases hq : q < n
        · skip
          have hqI : (q : Int) < T.length := by have := hT1.out; omega
          have hqC : (q : Int) < c.length := by have := hc'.out; omega
          have hcq := cF_at (c := c) (k := q) (by have := hc'.out; omega)
          obtain ⟨xi, hxi, hik2⟩ := hs'.out.cell hi hq
          obtain ⟨xq, hxq, hki2⟩ := hs'.out.cell hq hi
          have hli := hs'.out.2 i xi hxi
          have hlq := hs'.out.2 q xq hxq
          have d1 : wr.cell? ⟨gc, q, none⟩ = some (.bool (cF c q)) := reads_cell (hA.row_reads (v := .slice (some ⟨gc, 0, none⟩) c.length capc) (n := c.length) (xs := boolL c) (by repeat (first | exact Sel.here | apply Sel.there))) (boolL_get hcq)
          have d2 : wr.cell? ⟨gT, i, none⟩ = some xi.v := reads_cell (hA.row_reads (v := .slice (some ⟨gT, 0, none⟩) T.length capT) (n := T.length) (xs := flatB T) (by repeat (first | exact Sel.here | apply Sel.there))) (flatB_get hxi)
          have d3 : wr.cell? ⟨gT, q, none⟩ = some xq.v := reads_cell (hA.row_reads (v := .slice (some ⟨gT, 0, none⟩) T.length capT) (n := T.length) (xs := flatB T) (by repeat (first | exact Sel.here | apply Sel.there))) (flatB_get hxq)
          have d4 := pool_cell hA (by repeat (first | exact Sel.here | apply Sel.there)) hxi hik2
          have d5 := pool_cell hA (by repeat (first | exact Sel.here | apply Sel.there)) hxq hki2
          obtain ⟨gi, ci, bi⟩ := xi
          obtain ⟨gq, cq, bq⟩ := xq
          simp only [Br.v] at d2 d3 d4 d5 hli hlq
          have hl1 : (q : Int) < bi.length := by omega
          have hl2 : (i : Int) < bq.length := by omega
          have hnx := Lib.hid (frF_next (tF T) (cF c) i q)
          obtain ⟨v0, hv0⟩ : ∃ b, frF (tF T) (cF c) i q = b := ⟨_, rfl⟩
          obtain ⟨v1, hv1⟩ : ∃ b, cF c q = b := ⟨_, rfl⟩
          obtain ⟨v2, hv2⟩ : ∃ b, tF T i q = b := ⟨_, rfl⟩
          obtain ⟨v3, hv3⟩ : ∃ b, tF T q i = b := ⟨_, rfl⟩
          rw [hv0]
          rw [hv1] at d1
          rw [hv2] at d4
          rw [hv3] at d5
          have hv' := Lib.hid (show frF (tF T) (cF c) i (q + 1) = (v0 && (v1 || !v2 || v3)) from by rw [hnx.out, hv0, hv1, hv2, hv3])
          clear hv0 hv1 hv2 hv3 hxi hxq hik2 hki2 hli hlq hcq hnx
          (try simp only [uA] at hA); have hF := hA.facts; (try simp only [fZ] at hF)
          cases v0
          · go_wp2_with (first | ((with_reducible refine gst ?_); refine wS hA ?_; clear hF hA; intro w1 hA; (try simp only [uA] at hA); have hF := hA.facts; (try simp only [fZ] at hF)) | ((with_reducible refine gbx ?_); refine wB hA ?_; clear hF hA; intro b1 w1 hA hb1; (try simp only [uA] at hA); have hF := hA.facts; (try simp only [fZ] at hF)))
            go_roundg (gk - 1)
            case measure => omega
            case rel => exact ⟨q + 1, by simp, by omega, by rw [hv'.out]; simp, hA⟩
          · cases v1
            · cases v2
              · go_wp2_with (first | ((with_reducible refine gst ?_); refine wS hA ?_; clear hF hA; intro w1 hA; (try simp only [uA] at hA); have hF := hA.facts; (try simp only [fZ] at hF)) | ((with_reducible refine gbx ?_); refine wB hA ?_; clear hF hA; intro b1 w1 hA hb1; (try simp only [uA] at hA); have hF := hA.facts; (try simp only [fZ] at hF)))
                go_roundg (gk - 1)
                case measure => omega
                case rel => exact ⟨q + 1, by simp, by omega, by rw [hv'.out]; simp, hA⟩
              · go_wp2_with (first | ((with_reducible refine gst ?_); refine wS hA ?_; clear hF hA; intro w1 hA; (try simp only [uA] at hA); have hF := hA.facts; (try simp only [fZ] at hF)) | ((with_reducible refine gbx ?_); refine wB hA ?_; clear hF hA; intro b1 w1 hA hb1; (try simp only [uA] at hA); have hF := hA.facts; (try simp only [fZ] at hF)))
                go_roundg (gk - 1)
                case measure => omega
                case rel => exact ⟨q + 1, by simp, by omega, by rw [hv'.out]; simp, hA⟩
            · go_wp2_with (first | ((with_reducible refine gst ?_); refine wS hA ?_; clear hF hA; intro w1 hA; (try simp only [uA] at hA); have hF := hA.facts; (try simp only [fZ] at hF)) | ((with_reducible refine gbx ?_); refine wB hA ?_; clear hF hA; intro b1 w1 hA hb1; (try simp only [uA] at hA); have hF := hA.facts; (try simp only [fZ] at hF)))
              go_roundg (gk - 1)
              case measure => omega
              case rel => exact ⟨q + 1, by simp, by omega, by rw [hv'.out]; simp, hA⟩
        · have hqI : ¬ (q : Int) < T.length := by have := hT1.out; omega
          have hq2 : q = n := by omega
          subst hq2
          have hfd : frF (tF T) (cF c) i q = freeD q (tF T) (cF c) i := rfl
          rw [hfd]
          obtain ⟨v0, hv0⟩ : ∃ b, freeD q (tF T) (cF c) i = b := ⟨_, rfl⟩
          rw [hv0]
          have hv0' := Lib.hid hv0
          clear hv0 hfd
          (try simp only [uA] at hA); have hF := hA.facts; (try simp only [fZ] at hF)
          cases v0
          · go_wp2_with (first | ((with_reducible refine gst ?_); refine wS hA ?_; clear hF hA; intro w1 hA; (try simp only [uA] at hA); have hF := hA.facts; (try simp only [fZ] at hF)) | ((with_reducible refine gbx ?_); refine wB hA ?_; clear hF hA; intro b1 w1 hA hb1; (try simp only [uA] at hA); have hF := hA.facts; (try simp only [fZ] at hF)))
            go_roundg G
            case measure => exact hGk.out.2
            case rel => exact ⟨i + 1, by simp, hGk.out.1, fun j hj => if e : j = i then by rw [e]; exact hv0'.out else hno'.out j (by omega), hA⟩
          · go_wp2_with (first | ((with_reducible refine gst ?_); refine wS hA ?_; clear hF hA; intro w1 hA; (try simp only [uA] at hA); have hF := hA.facts; (try simp only [fZ] at hF)) | ((with_reducible refine gbx ?_); refine wB hA ?_; clear hF hA; intro b1 w1 hA hb1; (try simp only [uA] at hA); have hF := hA.facts; (try simp only [fZ] at hF)))
            go_ret
            exact ⟨by rw [firstZ_at hi hv0'.out hno'.out]; rfl, hA⟩
    · have hiI : ¬ (i : Int) < T.length := by have := hT1.out; omega
      (try simp only [uA] at hA); have hF := hA.facts; (try simp only [fZ] at hF)
      go_wp2_with (first | ((with_reducible refine gst ?_); refine wS hA ?_; clear hF hA; intro w1 hA; (try simp only [uA] at hA); have hF := hA.facts; (try simp only [fZ] at hF)) | ((with_reducible refine gbx ?_); refine wB hA ?_; clear hF hA; intro b1 w1 hA hb1; (try simp only [uA] at hA); have hF := hA.facts; (try simp only [fZ] at hF)))
      go_ret
      exact ⟨by rw [firstZ_no fun j hj => hno'.out j (by omega)]; rfl, hA⟩
end Go.Proofs.Ytgicohkmfbbbdaa.Ref
end

section
namespace Go.Proofs.Ytgicohkmfbbbdaa.Tar
set_option linter.unusedVariables false
set_option linter.unusedSimpArgs false

theorem insS_at {sq : Nat → Int} {x : Nat} : ∀ {ks : List Nat} {i : Nat}, i ≤ ks.length → (∀ y ∈ ks.take i, sq y ≤ sq x) → (∀ y, ks[i]? = some y → ¬ sq y ≤ sq x) → insS sq x ks = ks.take i ++ [x] ++ ks.drop i
  | [], i, hi, _, _ => by simp at hi; subst hi; rfl
  | y :: ks, 0, _, _, hn => by
    unfold insS
    rw [if_neg (hn y rfl)]
    rfl
  | y :: ks, i + 1, hi, ha, hn => by
    unfold insS
    rw [if_pos (ha y (by simp)), insS_at (ks := ks) (i := i) (by simpa using hi) (fun z hz => ha z (by simp [hz])) (fun z hz => hn z (by simpa using hz))]
    rfl
theorem sortS_snoc (sq : Nat → Int) (l : List Nat) (x : Nat) : sortS sq (l ++ [x]) = insS sq x (sortS sq l) := by unfold sortS; rw [List.foldl_append]; rfl
theorem sortS_length (sq : Nat → Int) (l : List Nat) : (sortS sq l).length = l.length := by
  unfold sortS
  suffices H : ∀ (l out : List Nat), (l.foldl (fun out x => insS sq x out) out).length = out.length + l.length by simpa using H l []
  intro l
  induction l with
  | nil => simp
  | cons x l ih =>
    intro out
    rw [List.foldl_cons, ih, (insS_perm sq x out).length_eq, List.length_cons, List.length_cons]
    omega
theorem insS_mem {sq : Nat → Int} {x y : Nat} {l : List Nat} : y ∈ insS sq x l ↔ y = x ∨ y ∈ l := by rw [(insS_perm sq x l).mem_iff, List.mem_cons]
theorem sortS_mem {sq : Nat → Int} {y : Nat} {l : List Nat} : y ∈ sortS sq l ↔ y ∈ l := by
  unfold sortS
  suffices H : ∀ (l out : List Nat), y ∈ l.foldl (fun out x => insS sq x out) out ↔ y ∈ out ∨ y ∈ l by simpa using H l []
  intro l
  induction l with
  | nil => simp
  | cons x l ih =>
    intro out
    rw [List.foldl_cons, ih, insS_mem, List.mem_cons]
    constructor
    · rintro ((h | h) | h)
      · exact .inr (.inl h)
      · exact .inl h
      · exact .inr (.inr h)
    · rintro (h | h | h)
      · exact .inl (.inr h)
      · exact .inl (.inl h)
      · exact .inr h
/-- a node's knot, by the table, up to place q -/
def mutL (t : Nat → Nat → Bool) (i q : Nat) : List Nat := (List.range q).filter fun k => t i k && t k i
theorem mutL_next (t : Nat → Nat → Bool) (i q : Nat) : mutL t i (q + 1) = mutL t i q ++ (if t i q && t q i then [q] else []) := by
  unfold mutL
  rw [List.range_succ, List.filter_append]
  congr 1
  by_cases h : (t i q && t q i) = true <;> simp [h]
theorem mutL_len (t : Nat → Nat → Bool) (i q : Nat) : (mutL t i q).length ≤ q := Nat.le_trans (List.length_filter_le _ _) (by simp)
/-- the table is that of who leads to whom -/
def TabOk (nx : Nat → List Nat) (n : Nat) (t : Nat → Nat → Bool) : Prop := ∀ i k, i < n → k < n → (t i k = true ↔ R nx i k)
/-- what has come, and what is to come, by the table -/
structure DordS (nx : Nat → List Nat) (n : Nat) (t : Nat → Nat → Bool) (sq : Nat → Int) (come : Nat → Bool) (pre : List Nat) (k : Nat) : Prop where
  whole : pre ++ ordD n t sq k come = ordD n t sq n fun _ => false
  fuel : n ≤ k + pre.length
  perm : pre.Perm ((List.range n).filter come)
  cls : ∀ i q, i < n → q < n → come q = true → R nx i q → R nx q i → come i = true
section
variable {nx : Nat → List Nat} {n : Nat} {t : Nat → Nat → Bool} {sq : Nat → Int}
theorem DordS.start {come : Nat → Bool} (hc : ∀ q, q < n → come q = false) : DordS nx n t sq come [] n := by
  refine ⟨?_, by omega, ?_, fun i q _ hq h => by rw [hc q hq] at h; cases h⟩
  · rw [List.nil_append]
    suffices H : ∀ (f : Nat) (c c' : Nat → Bool), (∀ q, q < n → c q = c' q) → ordD n t sq f c = ordD n t sq f c' from H n _ _ hc
    intro f
    induction f with
    | zero => intro c c' _; rfl
    | succ f ih =>
      intro c c' h
      have he : (List.range n).find? (freeD n t c) = (List.range n).find? (freeD n t c') := find_congr fun x hx => by
        have hx := List.mem_range.1 hx
        rw [Bool.eq_iff_iff, freeD_iff, freeD_iff, h x hx]
        exact and_congr Iff.rfl (forall_congr' fun k => ⟨fun q hk => by rw [← h k hk]; exact q hk, fun q hk => by rw [h k hk]; exact q hk⟩)
      unfold ordD
      rw [he]
      split
      · rfl
      · rw [ih _ _ fun q hq => by rw [h q hq]]
  · have : (List.range n).filter come = [] := List.filter_eq_nil_iff.2 fun x hx => by rw [hc x (List.mem_range.1 hx)]; simp
    rw [this]
theorem DordS.le {come : Nat → Bool} {pre : List Nat} {k : Nat} (h : DordS nx n t sq come pre k) : pre.length ≤ n := by
  rw [h.perm.length_eq]
  exact Nat.le_trans (List.length_filter_le _ _) (by simp)
theorem DordS.done {come : Nat → Bool} {pre : List Nat} {k : Nat} (h : DordS nx n t sq come pre k) (hl : n ≤ pre.length) : pre = ordD n t sq n fun _ => false := by
  rw [← h.whole]
  suffices e : ordD n t sq k come = [] by rw [e, List.append_nil]
  cases k with
  | zero => rfl
  | succ f =>
    have h1 : ((List.range n).filter come) = List.range n := by
      refine List.Sublist.eq_of_length List.filter_sublist ?_
      have := h.perm.length_eq
      have h2 := List.length_filter_le come (List.range n)
      rw [List.length_range] at h2 ⊢
      omega
    have hall : ∀ i, i < n → come i = true := fun i hi => by
      have : i ∈ (List.range n).filter come := by rw [h1]; exact List.mem_range.2 hi
      exact (List.mem_filter.1 this).2
    unfold ordD
    have : (List.range n).find? (freeD n t come) = none := List.find?_eq_none.2 fun x hx hf => by
      have := (freeD_iff.1 hf).1
      rw [hall x (List.mem_range.1 hx)] at this
      cases this
    rw [this]
theorem DordS.stuck {come : Nat → Bool} {pre : List Nat} {k : Nat} (h : DordS nx n t sq come pre k) (hf : (List.range n).find? (freeD n t come) = none) : pre = ordD n t sq n fun _ => false := by
  rw [← h.whole]
  suffices e : ordD n t sq k come = [] by rw [e, List.append_nil]
  cases k with
  | zero => rfl
  | succ f => unfold ordD; rw [hf]
theorem DordS.step (ht : TabOk nx n t) {come come2 : Nat → Bool} {pre : List Nat} {k i : Nat} (h : DordS nx n t sq come pre k) (hl : pre.length < n) (hf : (List.range n).find? (freeD n t come) = some i) (hc : ∀ q, q < n → come2 q = (come q || (t i q && t q i))) :
    0 < k ∧ pre.length < (pre ++ sortS sq (mutL t i n)).length ∧ DordS nx n t sq come2 (pre ++ sortS sq (mutL t i n)) (k - 1) := by
  have hi : i < n := List.mem_range.1 (List.mem_of_find?_eq_some hf)
  have hfr := freeD_iff.1 (List.find?_some hf)
  have h0 : 0 < k := by have := h.fuel; omega
  obtain ⟨f, rfl⟩ : ∃ f, k = f + 1 := ⟨k - 1, by omega⟩
  have hii : t i i = true := (ht i i hi hi).2 (.refl _)
  have hm : i ∈ mutL t i n := List.mem_filter.2 ⟨List.mem_range.2 hi, by rw [hii]; rfl⟩
  have hne : 0 < (sortS sq (mutL t i n)).length := by rw [sortS_length]; exact List.length_pos_of_mem hm
  have hbk : ∀ q, q < n → (t i q && t q i) = true → come q = false := fun q hq hb => by
    have hb := Bool.and_eq_true_iff.1 hb
    cases hcq : come q with
    | false => rfl
    | true =>
      have := h.cls i q hi hq hcq ((ht i q hi hq).1 hb.1) ((ht q i hq hi).1 hb.2)
      rw [hfr.1] at this
      cases this
  refine ⟨h0, by rw [List.length_append]; omega, ?_, ?_, ?_, ?_⟩
  · rw [← h.whole]
    show _ = pre ++ ordD n t sq (f + 1) come
    rw [ordD, hf, List.append_assoc]
    show pre ++ (sortS sq (mutL t i n) ++ ordD n t sq f come2) = pre ++ (sortS sq (mutL t i n) ++ ordD n t sq f fun k => come k || (t i k && t k i))
    have e : ordD n t sq f come2 = ordD n t sq f fun k => come k || (t i k && t k i) := by
      suffices H : ∀ (f : Nat) (c c' : Nat → Bool), (∀ q, q < n → c q = c' q) → ordD n t sq f c = ordD n t sq f c' from H f _ _ hc
      intro f
      induction f with
      | zero => intro c c' _; rfl
      | succ f ih =>
        intro c c' h
        have he : (List.range n).find? (freeD n t c) = (List.range n).find? (freeD n t c') := find_congr fun x hx => by
          have hx := List.mem_range.1 hx
          rw [Bool.eq_iff_iff, freeD_iff, freeD_iff, h x hx]
          exact and_congr Iff.rfl (forall_congr' fun k => ⟨fun q hk => by rw [← h k hk]; exact q hk, fun q hk => by rw [h k hk]; exact q hk⟩)
        unfold ordD
        rw [he]
        split
        · rfl
        · rw [ih _ _ fun q hq => by rw [h q hq]]
    rw [e]
  · have := h.fuel
    rw [List.length_append]
    omega
  · have hp : (sortS sq (mutL t i n)).Perm (mutL t i n) := (sortS_spec (List.Pairwise.filter _ List.pairwise_lt_range)).2
    refine ((h.perm.append hp).trans ?_)
    have e1 : (List.range n).filter come2 = (List.range n).filter fun q => (t i q && t q i) || come q := List.filter_congr fun q hq => by rw [hc q (List.mem_range.1 hq), Bool.or_comm]
    have e2 : (List.range n).filter come = (List.range n).filter fun q => come q && !(t i q && t q i) := List.filter_congr fun q hq => by
      cases hb : (t i q && t q i) with
      | false => simp
      | true => rw [hbk q (List.mem_range.1 hq) hb]; rfl
    rw [e1, e2]
    refine .trans (filter_or (p := fun q => come q && !(t i q && t q i)) (q := fun q => t i q && t q i) (fun x hx => by
      have := (Bool.and_eq_true_iff.1 hx).2
      cases hb : (t i x && t x i) with
      | false => rfl
      | true => rw [hb] at this; cases this) (List.range n)).symm (.of_eq (List.filter_congr fun q _ => ?_))
    cases (t i q && t q i) <;> cases come q <;> rfl
  · intro p q hp hq hcq h1 h2
    rw [hc q hq, Bool.or_eq_true] at hcq
    rw [hc p hp, Bool.or_eq_true]
    rcases hcq with hcq | hcq
    · exact .inl (h.cls p q hp hq hcq h1 h2)
    · obtain ⟨a, b⟩ := Bool.and_eq_true_iff.1 hcq
      refine .inr (Bool.and_eq_true_iff.2 ⟨(ht i p hi hp).2 (((ht i q hi hq).1 a).trans h2), (ht p i hp hi).2 (h1.trans ((ht q i hq hi).1 b))⟩)
end
end Go.Proofs.Ytgicohkmfbbbdaa.Tar
end
