/- RefV, GrbV, GrbW, GrbX, GrbY, GrcA, joined. -/
import Derived.Test.YtgicohkmfbbbdaaK25
import Derived.Test.YtgicohkmfbbbdaaK18
import Derived.Deep.LoopGhost
import Derived.Test.YtgicohkmfbbbdaaK20
section
namespace Go.Proofs.Ytgicohkmfbbbdaa.Ref
open _root_.Go.Proofs.Ytgicohkmfbbbdaa.Gr
open _root_.Go.Proofs.Ytgicohkmfbbbdaa.Mark (ltID)
open _root_.Go.Proofs.Ytgicohkmfbbbdaa.Attr (A8)
open Go.RowKit
open Tar (freeD)
set_option linter.unusedSimpArgs false
set_option linter.unusedVariables false
attribute [-go_sem] run_eql_struct run_neq_struct run_eqGuard_agg

section
variable {P : Program} {ops : Array Oper} {rest : List Oper} {o : Oper} {a : Act} {Q : Exit → Act → World → Prop} {L0 L F : List Part} {w0 w : World} {K : Act → Prop}
/-- a cell of a row of whatever elements -/
theorem quiet_rowN_at {ty e : TypeId} {x : Operand} {g n cap j size : Nat} {xs : List Value} {v : Value} (hop : o.op = .load ty x) (hx : a.eval x = .pointer (some ⟨g, j, none⟩)) (s : Sel (Part.row e size (.slice (some ⟨g, 0, none⟩) n cap) n xs) L F) (hu : (P.underlying ty).map (·.isRow) = some false) (hv : xs[j]? = some v)
    (hk : K (a.put o.dst v)) : o.quiet P a (Cl L0 w0 L) K := quiet_at v (fun w' hw => run_load_cell hop hx hu (reads_cell ((show At L0 w0 L w' from hw).row_reads s) hv)) hk
/-- an element of a row loaded -/
theorem wpList_rowN_at {ty e : TypeId} {x : Operand} {g n cap j size : Nat} {xs vs : List Value} (hg : o.guard = none) (hop : o.op = .load ty x) (hx : a.eval x = .pointer (some ⟨g, j, none⟩)) (h : At L0 w0 L w) (s : Sel (Part.row e size (.slice (some ⟨g, 0, none⟩) n cap) n xs) L F)
    (hv : (xs.drop j).take vs.length = vs) (hu : (P.underlying ty).map (·.isRow) = some true) (hi : (P.info? ty).map (·.size) = some vs.length)
    (hK : wpList P ops Q rest (a.put o.dst (.agg vs.toArray)) w) : wpList P ops Q (o :: rest) a w :=
  wpList_loadRow_at hg hop hx (fun k u hk => by
    have hl := (List.getElem?_eq_some_iff.1 hk).1
    refine reads_cell (h.row_reads s) ?_
    rw [← List.getElem?_drop, ← hk, ← hv, List.getElem?_take, if_pos hl]) hu hi hK
end
def cF (c : List Bool) (k : Nat) : Bool := c[k]?.getD false
theorem cF_get {c : List Bool} {k : Nat} {b : Bool} (h : c[k]? = some b) : cF c k = b := by unfold cF; rw [h]; rfl
theorem cF_at {c : List Bool} {k : Nat} (h : k < c.length) : c[k]? = some (cF c k) := by rw [List.getElem?_eq_getElem h, cF_get (List.getElem?_eq_getElem h)]
/-- free, as far as it was looked at -/
def frF (t : Nat → Nat → Bool) (come : Nat → Bool) (i q : Nat) : Bool := !come i && (List.range q).all fun k => come k || !t i k || t k i
theorem frF_next (t : Nat → Nat → Bool) (come : Nat → Bool) (i q : Nat) : frF t come i (q + 1) = (frF t come i q && (come q || !t i q || t q i)) := by
  unfold frF
  rw [List.range_succ, List.all_append, Bool.and_assoc]
  simp
def firstZ (n : Nat) (t : Nat → Nat → Bool) (come : Nat → Bool) : Int := match (List.range n).find? (freeD n t come) with
  | some i => i
  | none => -1
theorem firstZ_at {n i : Nat} {t : Nat → Nat → Bool} {come : Nat → Bool} (hi : i < n) (h : freeD n t come i = true) (hno : ∀ j, j < i → freeD n t come j = false) : firstZ n t come = i := by
  unfold firstZ
  rw [find_first hi h hno]
theorem firstZ_no {n : Nat} {t : Nat → Nat → Bool} {come : Nat → Bool} (hno : ∀ j, j < n → freeD n t come j = false) : firstZ n t come = -1 := by
  unfold firstZ
  have : (List.range n).find? (freeD n t come) = none := List.find?_eq_none.2 fun x hx => by rw [hno x (List.mem_range.1 hx)]; simp
  rw [this]
def FsRel (w : World) (tv cv : Value) (T : List Br) (c : List Bool) (n : Nat) (k : Nat) (u : Value) (wr : World) : Prop :=
  ∃ i : Nat, u = .int .i64 i ∧ i + k = n ∧ (∀ j, j < i → freeD n (tF T) (cF c) j = false) ∧ At [rowT tv T, restB T, rowB cv c] w [rowT tv T, restB T, rowB cv c] wr
def FtRel (w : World) (tv cv : Value) (T : List Br) (c : List Bool) (n i : Nat) (k : Nat) (u7 u6 : Value) (wr : World) : Prop :=
  ∃ q : Nat, u7 = .int .i64 q ∧ q + k = n ∧ u6 = .bool (frF (tF T) (cF c) i q) ∧ At [rowT tv T, restB T, rowB cv c] w [rowT tv T, restB T, rowB cv c] wr
def FirstPost (tv cv : Value) (T : List Br) (c : List Bool) (n : Nat) (w : World) (e : Ending) (w' : World) : Prop :=
  e = .returned (.int .i64 (firstZ n (tF T) (cF c))) ∧ At [rowT tv T, restB T, rowB cv c] w [rowT tv T, restB T, rowB cv c] w'
set_option maxRecDepth 100000 in
set_option maxHeartbeats 4000000 in
theorem first_any {w : World} {tv cv : Value} {T : List Br} {c : List Bool} {n : Nat} (h : Sep [rowT tv T, restB T, rowB cv c] w) (hs : Sq T n) (hc : c.length = n) (hn : n ≤ 1000) :
    Calls Try.prog 48 #[tv, cv] w (FirstPost tv cv T c n w) := by
  have hA := At.start h
  have hs' := Lib.hid hs
  have hc' := Lib.hid hc
  clear h
  obtain ⟨axT, capT, hvT, _, _, _⟩ := hA.row_form (e := 60) (size := 1) (n := T.length) (v := tv) (xs := flatB T) sZ
  obtain ⟨axc, capc, hvc, _, _, _⟩ := hA.row_form (e := 4) (size := 1) (n := c.length) (v := cv) (xs := boolL c) sZ
  subst hvT
  subst hvc
  have hT1 := Lib.hid hs.1
  clear hs
  (try simp only [uA] at hA); have hF := hA.facts; (try simp only [fZ] at hF)
  go_enter Try.func48, Try.ntmps48
  go_wp2_with (first | ((with_reducible refine gst ?_); refine wS hA ?_; clear hF hA; intro w1 hA; (try simp only [uA] at hA); have hF := hA.facts; (try simp only [fZ] at hF)) | ((with_reducible refine gbx ?_); refine wB hA ?_; clear hF hA; intro b1 w1 hA hb1; (try simp only [uA] at hA); have hF := hA.facts; (try simp only [fZ] at hF)))
  try go_frame
  clear hF hc
  go_loopg [5] n (FsRel w (.slice axT T.length capT) (.slice axc c.length capc) T c n)
  case atStart => exact ⟨0, rfl, by omega, nofun, hA⟩
  case round =>
    obtain ⟨i, rfl, hik, hno, hB⟩ := hrel
    clear hA
    have hA := hB
    have hno' := Lib.hid hno
    clear hB hno
    by_cases hi : i < n
    · skip
      have hiI : (i : Int) < T.length := by have := hT1.out; omega
      have hcI : (i : Int) < c.length := by have := hc'.out; omega
      have hci := cF_at (c := c) (k := i) (by have := hc'.out; omega)
      obtain ⟨gc, cc, hgc, _, _, _, _, _⟩ := hA.row_open (e := 4) (size := 1) (ax := axc) (cap := capc) (n := c.length) (xs := boolL c) sZ (by omega)
      obtain ⟨gT, cT, hgT, _, _, _, _, _⟩ := hA.row_open (e := 60) (size := 1) (ax := axT) (cap := capT) (n := T.length) (xs := flatB T) sZ (by omega)
      subst hgc
      subst hgT
      have hcc : wr.cell? ⟨gc, i, none⟩ = some (.bool (cF c i)) := reads_cell (hA.row_reads (v := .slice (some ⟨gc, 0, none⟩) c.length capc) (n := c.length) (xs := boolL c) sZ) (boolL_get hci)
      have hikG : i + 1 + (gk - 1) = n ∧ gk - 1 < gk := by omega
      obtain ⟨G, hG⟩ : ∃ G, gk - 1 = G := ⟨_, rfl⟩
      rw [hG] at hikG
      have hGk := Lib.hid hikG
      clear hG hik hikG
      have hf0 := Lib.hid (show frF (tF T) (cF c) i 0 = !cF c i from by simp [frF])
      generalize hcv : cF c i = b0 at hcc hf0
      clear hcv hci
      (try simp only [uA] at hA); have hF := hA.facts; (try simp only [fZ] at hF)
      go_wp2_with (first | ((with_reducible refine gst ?_); refine wS hA ?_; clear hF hA; intro w1 hA; (try simp only [uA] at hA); have hF := hA.facts; (try simp only [fZ] at hF)) | ((with_reducible refine gbx ?_); refine wB hA ?_; clear hF hA; intro b1 w1 hA hb1; (try simp only [uA] at hA); have hF := hA.facts; (try simp only [fZ] at hF)))
      try go_frame
      clear hF hcc
      go_loopg [7, 6] n (FtRel w (.slice (some ⟨gT, 0, none⟩) T.length capT) (.slice (some ⟨gc, 0, none⟩) c.length capc) T c n i)
      case atStart => exact ⟨0, rfl, by omega, by rw [hf0.out], hA⟩
      case round =>
        obtain ⟨q, rfl, hqk, rfl, hB⟩ := hrel
        clear hA; have hA := hB; clear hB
        by_cases hq : q < n
        · skip
          have hqI : (q : Int) < T.length := by have := hT1.out; omega
          have hqC : (q : Int) < c.length := by have := hc'.out; omega
          have hcq := cF_at (c := c) (k := q) (by have := hc'.out; omega)
          obtain ⟨xi, hxi, hik2⟩ := hs'.out.cell hi hq
          obtain ⟨xq, hxq, hki2⟩ := hs'.out.cell hq hi
          have hli := hs'.out.2 i xi hxi
          have hlq := hs'.out.2 q xq hxq
          have d1 : wr.cell? ⟨gc, q, none⟩ = some (.bool (cF c q)) := reads_cell (hA.row_reads (v := .slice (some ⟨gc, 0, none⟩) c.length capc) (n := c.length) (xs := boolL c) sZ) (boolL_get hcq)
          have d2 : wr.cell? ⟨gT, i, none⟩ = some xi.v := reads_cell (hA.row_reads (v := .slice (some ⟨gT, 0, none⟩) T.length capT) (n := T.length) (xs := flatB T) sZ) (flatB_get hxi)
          have d3 : wr.cell? ⟨gT, q, none⟩ = some xq.v := reads_cell (hA.row_reads (v := .slice (some ⟨gT, 0, none⟩) T.length capT) (n := T.length) (xs := flatB T) sZ) (flatB_get hxq)
          have d4 := pool_cell hA sZ hxi hik2
          have d5 := pool_cell hA sZ hxq hki2
          obtain ⟨gi, ci, bi⟩ := xi
          obtain ⟨gq, cq, bq⟩ := xq
          simp only [Br.v] at d2 d3 d4 d5 hli hlq
          have hl1 : (q : Int) < bi.length := by omega
          have hl2 : (i : Int) < bq.length := by omega
          have hnx := Lib.hid (frF_next (tF T) (cF c) i q)
          obtain ⟨v0, hv0⟩ : ∃ b, frF (tF T) (cF c) i q = b := ⟨_, rfl⟩
          obtain ⟨v1, hv1⟩ : ∃ b, cF c q = b := ⟨_, rfl⟩
          obtain ⟨v2, hv2⟩ : ∃ b, tF T i q = b := ⟨_, rfl⟩
          obtain ⟨v3, hv3⟩ : ∃ b, tF T q i = b := ⟨_, rfl⟩
          rw [hv0]
          rw [hv1] at d1
          rw [hv2] at d4
          rw [hv3] at d5
          have hv' := Lib.hid (show frF (tF T) (cF c) i (q + 1) = (v0 && (v1 || !v2 || v3)) from by rw [hnx.out, hv0, hv1, hv2, hv3])
          clear hv0 hv1 hv2 hv3 hxi hxq hik2 hki2 hli hlq hcq hnx
          (try simp only [uA] at hA); have hF := hA.facts; (try simp only [fZ] at hF)
          cases v0
          · go_wp2_with (first | ((with_reducible refine gst ?_); refine wS hA ?_; clear hF hA; intro w1 hA; (try simp only [uA] at hA); have hF := hA.facts; (try simp only [fZ] at hF)) | ((with_reducible refine gbx ?_); refine wB hA ?_; clear hF hA; intro b1 w1 hA hb1; (try simp only [uA] at hA); have hF := hA.facts; (try simp only [fZ] at hF)))
            go_roundg (gk - 1)
            case measure => omega
            case rel => exact ⟨q + 1, by simp, by omega, by rw [hv'.out]; simp, hA⟩
          · cases v1
            · cases v2
              · go_wp2_with (first | ((with_reducible refine gst ?_); refine wS hA ?_; clear hF hA; intro w1 hA; (try simp only [uA] at hA); have hF := hA.facts; (try simp only [fZ] at hF)) | ((with_reducible refine gbx ?_); refine wB hA ?_; clear hF hA; intro b1 w1 hA hb1; (try simp only [uA] at hA); have hF := hA.facts; (try simp only [fZ] at hF)))
                go_roundg (gk - 1)
                case measure => omega
                case rel => exact ⟨q + 1, by simp, by omega, by rw [hv'.out]; simp, hA⟩
              · go_wp2_with (first | ((with_reducible refine gst ?_); refine wS hA ?_; clear hF hA; intro w1 hA; (try simp only [uA] at hA); have hF := hA.facts; (try simp only [fZ] at hF)) | ((with_reducible refine gbx ?_); refine wB hA ?_; clear hF hA; intro b1 w1 hA hb1; (try simp only [uA] at hA); have hF := hA.facts; (try simp only [fZ] at hF)))
                go_roundg (gk - 1)
                case measure => omega
                case rel => exact ⟨q + 1, by simp, by omega, by rw [hv'.out]; simp, hA⟩
            · go_wp2_with (first | ((with_reducible refine gst ?_); refine wS hA ?_; clear hF hA; intro w1 hA; (try simp only [uA] at hA); have hF := hA.facts; (try simp only [fZ] at hF)) | ((with_reducible refine gbx ?_); refine wB hA ?_; clear hF hA; intro b1 w1 hA hb1; (try simp only [uA] at hA); have hF := hA.facts; (try simp only [fZ] at hF)))
              go_roundg (gk - 1)
              case measure => omega
              case rel => exact ⟨q + 1, by simp, by omega, by rw [hv'.out]; simp, hA⟩
        · have hqI : ¬ (q : Int) < T.length := by have := hT1.out; omega
          have hq2 : q = n := by omega
          subst hq2
          have hfd : frF (tF T) (cF c) i q = freeD q (tF T) (cF c) i := rfl
          rw [hfd]
          obtain ⟨v0, hv0⟩ : ∃ b, freeD q (tF T) (cF c) i = b := ⟨_, rfl⟩
          rw [hv0]
          have hv0' := Lib.hid hv0
          clear hv0 hfd
          (try simp only [uA] at hA); have hF := hA.facts; (try simp only [fZ] at hF)
          cases v0
          · go_wp2_with (first | ((with_reducible refine gst ?_); refine wS hA ?_; clear hF hA; intro w1 hA; (try simp only [uA] at hA); have hF := hA.facts; (try simp only [fZ] at hF)) | ((with_reducible refine gbx ?_); refine wB hA ?_; clear hF hA; intro b1 w1 hA hb1; (try simp only [uA] at hA); have hF := hA.facts; (try simp only [fZ] at hF)))
            go_roundg G
            case measure => exact hGk.out.2
            case rel => exact ⟨i + 1, by simp, hGk.out.1, fun j hj => if e : j = i then by rw [e]; exact hv0'.out else hno'.out j (by omega), hA⟩
          · go_wp2_with (first | ((with_reducible refine gst ?_); refine wS hA ?_; clear hF hA; intro w1 hA; (try simp only [uA] at hA); have hF := hA.facts; (try simp only [fZ] at hF)) | ((with_reducible refine gbx ?_); refine wB hA ?_; clear hF hA; intro b1 w1 hA hb1; (try simp only [uA] at hA); have hF := hA.facts; (try simp only [fZ] at hF)))
            go_ret
            exact ⟨by rw [firstZ_at hi hv0'.out hno'.out]; rfl, hA⟩
    · have hiI : ¬ (i : Int) < T.length := by have := hT1.out; omega
      (try simp only [uA] at hA); have hF := hA.facts; (try simp only [fZ] at hF)
      go_wp2_with (first | ((with_reducible refine gst ?_); refine wS hA ?_; clear hF hA; intro w1 hA; (try simp only [uA] at hA); have hF := hA.facts; (try simp only [fZ] at hF)) | ((with_reducible refine gbx ?_); refine wB hA ?_; clear hF hA; intro b1 w1 hA hb1; (try simp only [uA] at hA); have hF := hA.facts; (try simp only [fZ] at hF)))
      go_ret
      exact ⟨by rw [firstZ_no fun j hj => hno'.out j (by omega)]; rfl, hA⟩
end Go.Proofs.Ytgicohkmfbbbdaa.Ref
end

section
namespace Go.Proofs.Ytgicohkmfbbbdaa.Tar
/-- what comes next joins the last group, or begins one: `last` is the number of the last group -/
def cutK (kn : Nat → Nat) : List Nat → List (List Nat) × Nat := fun l => l.foldl (fun g x => if kn x = g.2 then (g.1.dropLast ++ [(g.1.getLast?.getD []) ++ [x]], kn x) else (g.1 ++ [[x]], kn x)) ([], 0)
theorem cutK_snoc (kn : Nat → Nat) (l : List Nat) (x : Nat) : cutK kn (l ++ [x]) = if kn x = (cutK kn l).2 then ((cutK kn l).1.dropLast ++ [((cutK kn l).1.getLast?.getD []) ++ [x]], kn x) else ((cutK kn l).1 ++ [[x]], kn x) := by
  unfold cutK
  rw [List.foldl_append]
  rfl
/-- the groups, one after the other, are the order; none is empty; the number kept is the last group's -/
theorem cutK_spec (kn : Nat → Nat) : ∀ l : List Nat, (∀ x ∈ l, kn x ≠ 0) → (cutK kn l).1.flatten = l ∧ (∀ g ∈ (cutK kn l).1, g ≠ []) ∧ ((cutK kn l).1 = [] → (cutK kn l).2 = 0) := by
  intro l
  suffices H : ∀ (r : List Nat), (∀ x ∈ r.reverse, kn x ≠ 0) → (cutK kn r.reverse).1.flatten = r.reverse ∧ (∀ g ∈ (cutK kn r.reverse).1, g ≠ []) ∧ ((cutK kn r.reverse).1 = [] → (cutK kn r.reverse).2 = 0) by
    have := H l.reverse
    rwa [List.reverse_reverse] at this
  intro r
  induction r with
  | nil => exact fun _ => ⟨rfl, nofun, fun _ => rfl⟩
  | cons x r ih =>
    rw [List.reverse_cons]
    generalize r.reverse = l at *
    intro h
    obtain ⟨h1, h2, h3⟩ := ih fun y hy => h y (by simp [hy])
    have hx := h x (by simp)
    rw [cutK_snoc]
    split
    · rename_i e
      have hne : (cutK kn l).1 ≠ [] := fun q => hx (by rw [e, h3 q])
      have hg : (cutK kn l).1.getLast?.getD [] = (cutK kn l).1.getLast hne := by rw [List.getLast?_eq_some_getLast hne]; rfl
      refine ⟨?_, fun g hg2 => ?_, fun q => ?_⟩
      · simp only [List.flatten_append, List.flatten_cons, List.flatten_nil, List.append_nil]
        rw [hg, ← List.append_assoc]
        congr 1
        have := congrArg List.flatten (List.dropLast_concat_getLast hne)
        simp only [List.flatten_append, List.flatten_cons, List.flatten_nil, List.append_nil] at this
        rw [this, h1]
      · rcases List.mem_append.1 hg2 with q | q
        · exact h2 g ((List.dropLast_sublist _).subset q)
        · rw [List.mem_singleton.1 q]; simp
      · simp at q
    · refine ⟨by simp [h1], fun g hg => ?_, fun q => ?_⟩
      · rcases List.mem_append.1 hg with q | q
        · exact h2 g q
        · rw [List.mem_singleton.1 q]; simp
      · simp at q
end Go.Proofs.Ytgicohkmfbbbdaa.Tar
end

section
namespace Go.Proofs.Ytgicohkmfbbbdaa.Tar
/-- leads on, and not back -/
def Dn (t : Nat → Nat → Bool) (i k : Nat) : Prop := t i k = true ∧ t k i = false
instance (t : Nat → Nat → Bool) (i k : Nat) : Decidable (Dn t i k) := by unfold Dn; infer_instance
/-- how many are below one -/
def mD (n : Nat) (t : Nat → Nat → Bool) (i : Nat) : Nat := ((List.range n).filter fun k => decide (Dn t i k)).length
theorem filter_lt {α : Type} {p q : α → Bool} : ∀ {l : List α}, (∀ x ∈ l, p x = true → q x = true) → ∀ {y : α}, y ∈ l → p y = false → q y = true → (l.filter p).length < (l.filter q).length
  | x :: l, h, y, hy, hp, hq => by
    have hle : (l.filter p).length ≤ (l.filter q).length := by
      have h' := fun z hz => h z (List.mem_cons_of_mem _ hz)
      clear hy h
      induction l with
      | nil => simp
      | cons z l ih =>
        have ih := ih fun u hu => h' u (List.mem_cons_of_mem _ hu)
        have hz := h' z (by simp)
        simp only [List.filter_cons]
        cases hpz : p z <;> cases hqz : q z <;> simp_all <;> omega
    rcases List.mem_cons.1 hy with rfl | hy
    · simp only [List.filter_cons, hp, hq]
      simp
      omega
    · have ih := filter_lt (fun z hz => h z (List.mem_cons_of_mem _ hz)) hy hp hq
      have hx := h x (by simp)
      simp only [List.filter_cons]
      cases hpx : p x <;> cases hqx : q x <;> simp_all <;> omega
theorem mD_lt {n : Nat} {t : Nat → Nat → Bool} (ht : ∀ i j k, i < n → j < n → k < n → t i j = true → t j k = true → t i k = true) {i k : Nat} (hi : i < n) (hk : k < n) (h : Dn t i k) : mD n t k < mD n t i := by
  refine filter_lt (y := k) (fun x hx hd => ?_) (List.mem_range.2 hk) ?_ (by simpa using h)
  · have hx := List.mem_range.1 hx
    have hd : Dn t k x := by simpa using hd
    refine decide_eq_true ⟨ht i k x hi hk hx h.1 hd.1, ?_⟩
    cases q : t x i with
    | false => rfl
    | true =>
      have := ht x i k hx hi hk q h.1
      rw [hd.2] at this
      cases this
  · refine decide_eq_false fun hd => ?_
    have h1 := hd.1
    rw [hd.2] at h1
    cases h1
theorem mD_le (n : Nat) (t : Nat → Nat → Bool) {i : Nat} (hi : i < n) : mD n t i < n := by
  have h := filter_lt (p := fun k => decide (Dn t i k)) (q := fun _ => true) (l := List.range n) (fun _ _ _ => rfl) (List.mem_range.2 hi) (decide_eq_false fun hd => by have h1 := hd.1; rw [hd.2] at h1; cases h1) rfl
  unfold mD
  have h2 : ((List.range n).filter fun _ => true).length ≤ n := by simpa using List.length_filter_le (fun _ => true) (List.range n)
  omega
end Go.Proofs.Ytgicohkmfbbbdaa.Tar
end

section
namespace Go.Proofs.Ytgicohkmfbbbdaa.Tar
/-- the most of some -/
def mostL (l : List Nat) : Nat := l.foldl max 0
theorem most_ge {l : List Nat} : ∀ {x : Nat}, x ∈ l → x ≤ mostL l := by
  suffices H : ∀ (l : List Nat) (a : Nat), a ≤ l.foldl max a ∧ ∀ x ∈ l, x ≤ l.foldl max a from fun {x} hx => (H l 0).2 x hx
  intro l
  induction l with
  | nil => exact fun a => ⟨Nat.le_refl _, nofun⟩
  | cons y l ih =>
    intro a
    obtain ⟨h1, h2⟩ := ih (max a y)
    refine ⟨Nat.le_trans (Nat.le_max_left _ _) h1, fun x hx => ?_⟩
    rcases List.mem_cons.1 hx with rfl | hx
    · exact Nat.le_trans (Nat.le_max_right _ _) h1
    · exact h2 x hx
theorem most_le {l : List Nat} {b : Nat} (h : ∀ x ∈ l, x ≤ b) : mostL l ≤ b := by
  suffices H : ∀ (l : List Nat) (a : Nat), a ≤ b → (∀ x ∈ l, x ≤ b) → l.foldl max a ≤ b from H l 0 (Nat.zero_le _) h
  intro l
  induction l with
  | nil => exact fun a ha _ => ha
  | cons y l ih => exact fun a ha h => ih _ (Nat.max_le.2 ⟨ha, h y (by simp)⟩) fun x hx => h x (by simp [hx])
/-- the depth, by fuel -/
def dpF (n : Nat) (t : Nat → Nat → Bool) : Nat → Nat → Nat
  | 0, _ => 0
  | f + 1, i => 1 + mostL (((List.range n).filter fun k => decide (Dn t i k)).map (dpF n t f))
theorem dpF_enough {n : Nat} {t : Nat → Nat → Bool} (ht : ∀ i j k, i < n → j < n → k < n → t i j = true → t j k = true → t i k = true) : ∀ (f g i : Nat), i < n → mD n t i < f → mD n t i < g → dpF n t f i = dpF n t g i
  | 0, _, _, _, h, _ => absurd h (by omega)
  | _, 0, _, _, _, h => absurd h (by omega)
  | f + 1, g + 1, i, hi, hf, hg => by
    unfold dpF
    congr 2
    refine List.map_congr_left fun k hk => ?_
    obtain ⟨h1, h2⟩ := List.mem_filter.1 hk
    have h1 := List.mem_range.1 h1
    have h3 := mD_lt ht hi h1 (by simpa using h2)
    exact dpF_enough ht f g k h1 (by omega) (by omega)
/-- the depth -/
def dpt (n : Nat) (t : Nat → Nat → Bool) (i : Nat) : Nat := dpF n t n i
theorem dpt_eq {n : Nat} {t : Nat → Nat → Bool} (ht : ∀ i j k, i < n → j < n → k < n → t i j = true → t j k = true → t i k = true) {i : Nat} (hi : i < n) : dpt n t i = 1 + mostL (((List.range n).filter fun k => decide (Dn t i k)).map (dpt n t)) := by
  unfold dpt
  rw [dpF_enough ht n (n + 1) i hi (mD_le n t hi) (by have := mD_le n t hi; omega)]
  rfl
theorem most_mem (l : List Nat) : mostL l = 0 ∨ mostL l ∈ l := by
  suffices H : ∀ (l : List Nat) (a : Nat), l.foldl max a = a ∨ l.foldl max a ∈ l from H l 0
  intro l
  induction l with
  | nil => exact fun a => .inl rfl
  | cons y l ih =>
    intro a
    rcases ih (max a y) with h | h
    · rw [List.foldl_cons, h]
      rcases Nat.le_total a y with q | q
      · rw [Nat.max_eq_right q]; exact .inr (by simp)
      · rw [Nat.max_eq_left q]; exact .inl rfl
    · exact .inr (List.mem_cons_of_mem _ h)
section
variable {n : Nat} {t : Nat → Nat → Bool} (ht : ∀ i j k, i < n → j < n → k < n → t i j = true → t j k = true → t i k = true)
include ht
theorem dpt_pos {i : Nat} (hi : i < n) : 1 ≤ dpt n t i := by rw [dpt_eq ht hi]; omega
theorem dpt_down {i k : Nat} (hi : i < n) (hk : k < n) (h : Dn t i k) : dpt n t k + 1 ≤ dpt n t i := by
  rw [dpt_eq ht hi]
  have := most_ge (l := ((List.range n).filter fun k => decide (Dn t i k)).map (dpt n t)) (List.mem_map.2 ⟨k, List.mem_filter.2 ⟨List.mem_range.2 hk, decide_eq_true h⟩, rfl⟩)
  omega
/-- a round brings each one further -/
theorem round_up {i r x : Nat} (hi : i < n) (h1 : 1 ≤ x) (hx : ∀ k, k < n → Dn t i k → min r (dpt n t k) + 1 ≤ x) : min (r + 1) (dpt n t i) ≤ x := by
  rw [dpt_eq ht hi]
  rcases most_mem (((List.range n).filter fun k => decide (Dn t i k)).map (dpt n t)) with e | e
  · rw [e]; omega
  · obtain ⟨k, hk, e2⟩ := List.mem_map.1 e
    obtain ⟨h2, h3⟩ := List.mem_filter.1 hk
    have := hx k (List.mem_range.1 h2) (by simpa using h3)
    rw [← e2]
    omega
/-- no deeper than there are some below -/
theorem dpt_le : ∀ (f i : Nat), i < n → mD n t i < f → dpt n t i ≤ mD n t i + 1
  | 0, _, _, h => absurd h (by omega)
  | f + 1, i, hi, hf => by
    rw [dpt_eq ht hi]
    have : mostL (((List.range n).filter fun k => decide (Dn t i k)).map (dpt n t)) ≤ mD n t i := most_le fun x hx => by
      obtain ⟨k, hk, rfl⟩ := List.mem_map.1 hx
      obtain ⟨h2, h3⟩ := List.mem_filter.1 hk
      have h2 := List.mem_range.1 h2
      have h4 := mD_lt ht hi h2 (by simpa using h3)
      have := dpt_le f k h2 (by omega)
      omega
    omega
theorem dpt_n {i : Nat} (hi : i < n) : dpt n t i ≤ n := by
  have := dpt_le ht n i hi (mD_le n t hi)
  have := mD_le n t hi
  omega
end
end Go.Proofs.Ytgicohkmfbbbdaa.Tar
end

section
namespace Go.Proofs.Ytgicohkmfbbbdaa.Tar
/-- the knots in their order -/
def grpP (nx : Nat → List Nat) (n : Nat) (kn : Nat → Nat) (sq : Nat → Int) : Nat → List Nat → List (List Nat)
  | 0, _ => []
  | f + 1, gone => match (List.range n).find? (freeP nx n kn gone) with
    | none => []
    | some i => sortS sq (knotL n kn (kn i)) :: grpP nx n kn sq f (kn i :: gone)
/-- what is so of the knots -/
structure Grp (nx : Nat → List Nat) (n : Nat) (kn : Nat → Nat) (gone : List Nat) (G : List (List Nat)) : Prop where
  one : ∀ g ∈ G, g ≠ [] ∧ ∃ k, k ∉ gone ∧ ∀ x, x ∈ g ↔ x < n ∧ kn x = k
  apart : G.Pairwise fun g h => ∀ x ∈ g, ∀ y ∈ h, kn x ≠ kn y
  edge : ∀ pre g rest, G = pre ++ g :: rest → ∀ x ∈ g, ∀ y ∈ nx x, kn y = kn x ∨ kn y ∈ gone ∨ ∃ h ∈ pre, y ∈ h
section
variable {nx : Nat → List Nat} {n : Nat} {kn : Nat → Nat} {found : Nat} {sq : Nat → Int}
theorem grpP_flat : ∀ (f : Nat) (gone : List Nat), (grpP nx n kn sq f gone).flatten = ordP nx n kn sq f gone
  | 0, _ => rfl
  | f + 1, gone => by
    rw [grpP, ordP]
    cases (List.range n).find? (freeP nx n kn gone) with
    | none => rfl
    | some i => simp only [List.flatten_cons, grpP_flat f]
theorem grpP_is (hk : Kn nx n kn found) : ∀ (f : Nat) (gone : List Nat), Grp nx n kn gone (grpP nx n kn sq f gone)
  | 0, _ => ⟨nofun, .nil, fun pre _ _ e => by cases pre <;> cases e⟩
  | f + 1, gone => by
    unfold grpP
    split
    · exact ⟨nofun, .nil, fun pre _ _ e => by cases pre <;> cases e⟩
    · rename_i i hi
      have hf := freeP_iff.1 (List.find?_some hi)
      have hin : i < n := List.mem_range.1 (List.mem_of_find?_eq_some hi)
      have ih := grpP_is hk f (kn i :: gone)
      have hsp := (sortS_spec (sq := sq) (knotL_inc n kn (kn i))).2
      have hm : ∀ x, x ∈ sortS sq (knotL n kn (kn i)) ↔ x < n ∧ kn x = kn i := fun x => by rw [hsp.mem_iff, knotL_mem]
      refine ⟨fun g hg => ?_, List.pairwise_cons.2 ⟨fun h hh x hx y hy e => ?_, ih.apart⟩, fun pre g rest e x hx y hy => ?_⟩
      · rcases List.mem_cons.1 hg with rfl | hg
        · exact ⟨List.ne_nil_of_mem ((hm i).2 ⟨hin, rfl⟩), kn i, hf.1, hm⟩
        · obtain ⟨h1, k, h2, h3⟩ := ih.one g hg
          exact ⟨h1, k, fun q => h2 (List.mem_cons_of_mem _ q), h3⟩
      · obtain ⟨_, k, h2, h3⟩ := ih.one h hh
        exact h2 (by rw [← ((h3 y).1 hy).2, ← e, ((hm x).1 hx).2]; simp)
      · cases pre with
        | nil =>
          rw [List.nil_append] at e
          injection e with e1 e2
          subst e1
          obtain ⟨h1, h2⟩ := (hm x).1 hx
          rcases hf.2 x h1 h2 y hy with q | q
          · exact .inl (q.trans h2.symm)
          · exact .inr (.inl q)
        | cons p pre =>
          rw [List.cons_append] at e
          injection e with e1 e2
          subst e1
          have hxn : x < n := by
            obtain ⟨_, k, _, h3⟩ := ih.one g (by rw [e2]; simp)
            exact ((h3 x).1 hx).1
          rcases ih.edge pre g rest e2 x hx y hy with q | q | ⟨h, h1, h2⟩
          · exact .inl q
          · rcases List.mem_cons.1 q with q | q
            · exact .inr (.inr ⟨_, by simp, (hm y).2 ⟨hk.hn x hxn y hy, q⟩⟩)
            · exact .inr (.inl q)
          · exact .inr (.inr ⟨h, List.mem_cons_of_mem _ h1, h2⟩)
-- cut out of the order
theorem cut_join (kn : Nat → Nat) {k : Nat} (A : List (List Nat)) : ∀ (g h : List Nat), (∀ x ∈ g, kn x = k) →
    g.foldl (fun g x => if kn x = g.2 then (g.1.dropLast ++ [(g.1.getLast?.getD []) ++ [x]], kn x) else (g.1 ++ [[x]], kn x)) (A ++ [h], k) = (A ++ [h ++ g], k)
  | [], h, _ => by simp
  | x :: g, h, hx => by
    have h1 := hx x (by simp)
    rw [List.foldl_cons, if_pos h1, h1]
    have h2 := cut_join kn A g (h ++ [x]) fun y hy => hx y (by simp [hy])
    simpa using h2
theorem cut_all (kn : Nat → Nat) : ∀ (G A : List (List Nat)) (k0 : Nat), (∀ g ∈ G, g ≠ [] ∧ ∃ k, ∀ x ∈ g, kn x = k) → (G.Pairwise fun g h => ∀ x ∈ g, ∀ y ∈ h, kn x ≠ kn y) → (∀ g ∈ G, ∀ x ∈ g, G.head? = some g → kn x ≠ k0) →
    (G.flatten.foldl (fun g x => if kn x = g.2 then (g.1.dropLast ++ [(g.1.getLast?.getD []) ++ [x]], kn x) else (g.1 ++ [[x]], kn x)) (A, k0)).1 = A ++ G
  | [], A, k0, _, _, _ => by simp
  | g :: G, A, k0, h1, h2, h3 => by
    obtain ⟨q1, k, q2⟩ := h1 g (by simp)
    obtain ⟨x, g, rfl⟩ := List.exists_cons_of_ne_nil q1
    have hx := q2 x (by simp)
    have hn := h3 _ (by simp) x (by simp) rfl
    obtain ⟨p1, p2⟩ := List.pairwise_cons.1 h2
    rw [List.flatten_cons, List.foldl_append, List.foldl_cons, if_neg hn, hx, cut_join kn A g [x] fun y hy => q2 y (by simp [hy])]
    rw [cut_all kn G _ k (fun h hh => h1 h (by simp [hh])) p2 fun h hh y hy _ e => p1 h hh x (by simp) y hy (by rw [hx, e])]
    simp
theorem cut_grp (hk : Kn nx n kn found) : (cutK kn (ordP nx n kn sq n [])).1 = grpP nx n kn sq n [] := by
  have h := grpP_is (sq := sq) hk n []
  rw [← grpP_flat]
  unfold cutK
  rw [cut_all kn _ [] 0 (fun g hg => ?_) h.apart fun g hg x hx _ => ?_]
  · rfl
  · obtain ⟨h1, k, _, h3⟩ := h.one g hg
    exact ⟨h1, k, fun x hx => ((h3 x).1 hx).2⟩
  · obtain ⟨h1, k, _, h3⟩ := h.one g hg
    exact hk.pos x ((h3 x).1 hx).1
theorem cut_last (kn : Nat → Nat) (l : List Nat) : (cutK kn l).2 = 0 ∨ ∃ y ∈ l, (cutK kn l).2 = kn y := by
  rcases List.eq_nil_or_concat l with rfl | ⟨m, x, rfl⟩
  · exact .inl rfl
  · right
    refine ⟨x, by simp, ?_⟩
    rw [List.concat_eq_append, cutK_snoc]
    split <;> rfl
theorem flat_ge {α : Type} : ∀ {G : List (List α)}, (∀ g ∈ G, g ≠ []) → G.length ≤ G.flatten.length
  | [], _ => Nat.le_refl _
  | g :: G, h => by
    have h1 := flat_ge (G := G) fun x hx => h x (by simp [hx])
    have h2 := List.length_pos_iff.2 (h g (by simp))
    simp only [List.flatten_cons, List.length_append, List.length_cons]
    omega
-- the depth
theorem dpF_congr {n : Nat} {t s : Nat → Nat → Bool} (h : ∀ i k, i < n → k < n → t i k = s i k) : ∀ (f i : Nat), i < n → dpF n t f i = dpF n s f i
  | 0, _, _ => rfl
  | f + 1, i, hi => by
    unfold dpF
    have e : ((List.range n).filter fun k => decide (Dn t i k)) = (List.range n).filter fun k => decide (Dn s i k) := List.filter_congr fun k hk => by
      have hk := List.mem_range.1 hk
      rw [decide_eq_decide]
      unfold Dn
      rw [h i k hi hk, h k i hk hi]
    rw [e]
    congr 2
    exact List.map_congr_left fun k hk => dpF_congr h f k (List.mem_range.1 (List.mem_filter.1 hk).1)
theorem dpt_congr {n : Nat} {t s : Nat → Nat → Bool} (h : ∀ i k, i < n → k < n → t i k = s i k) {i : Nat} (hi : i < n) : dpt n t i = dpt n s i := dpF_congr h n i hi
variable {t : Nat → Nat → Bool} (hk : Kn nx n kn found) (ht : ∀ i k, i < n → k < n → (t i k = true ↔ R nx i k))
include hk ht
omit hk in
theorem tab_trans : ∀ i j k, i < n → j < n → k < n → t i j = true → t j k = true → t i k = true := fun i j k hi hj hk' h1 h2 => (ht i k hi hk').2 (((ht i j hi hj).1 h1).trans ((ht j k hj hk').1 h2))
theorem dn_iff {i k : Nat} (hi : i < n) (hk' : k < n) : Dn t i k ↔ R nx i k ∧ kn i ≠ kn k := by
  have e : t k i = false ↔ ¬ R nx k i := by rw [← ht k i hk' hi]; cases t k i <;> simp
  unfold Dn
  rw [ht i k hi hk', e]
  refine and_congr_right fun h => not_congr ⟨fun q => (hk.both hi hk').2 ⟨h, q⟩, fun q => ((hk.both hi hk').1 q).2⟩
theorem dpt_knot {i k : Nat} (hi : i < n) (hk' : k < n) (e : kn i = kn k) : dpt n t i = dpt n t k := by
  rw [dpt_eq (tab_trans ht) hi, dpt_eq (tab_trans ht) hk']
  have h := (hk.both hi hk').1 e
  have e2 : ((List.range n).filter fun x => decide (Dn t i x)) = (List.range n).filter fun x => decide (Dn t k x) := List.filter_congr fun x hx => by
    have hx := List.mem_range.1 hx
    rw [decide_eq_decide, dn_iff hk ht hi hx, dn_iff hk ht hk' hx, e]
    exact and_congr_left fun _ => ⟨fun q => h.2.trans q, fun q => h.1.trans q⟩
  rw [e2]
theorem dpt_reach {i k : Nat} (hi : i < n) (hk' : k < n) (r : R nx i k) : dpt n t k ≤ dpt n t i := by
  by_cases e : kn i = kn k
  · rw [dpt_knot hk ht hi hk' e]; exact Nat.le_refl _
  · have := dpt_down (tab_trans ht) hi hk' ((dn_iff hk ht hi hk').2 ⟨r, e⟩)
    omega
omit ht in
/-- a way out of a knot -/
theorem way_out {i k : Nat} (r : R nx i k) : i < n → kn i ≠ kn k → ∃ x y, x < n ∧ kn x = kn i ∧ y ∈ nx x ∧ kn y ≠ kn i ∧ R nx y k := by
  induction r with
  | refl _ => exact fun _ q => absurd rfl q
  | step h r ih =>
    rename_i a b c
    intro ha hne
    have hb := hk.hn a ha b h
    by_cases e : kn b = kn a
    · obtain ⟨x, y, h1, h2, h3, h4, h5⟩ := ih hb (by rw [e]; exact hne)
      exact ⟨x, y, h1, h2.trans e, h3, by rw [← e]; exact h4, h5⟩
    · exact ⟨a, b, ha, rfl, h, e, r⟩
/-- a knot is one deeper than what it leads to -/
theorem knot_depth {g : List Nat} {k : Nat} (hg : ∀ x, x ∈ g ↔ x < n ∧ kn x = k) {x : Nat} (hx : x ∈ g) : dpt n t x = mostL (g.flatMap fun z => (nx z).map fun y => if y ∈ g then 0 else dpt n t y) + 1 := by
  obtain ⟨hxn, hxk⟩ := (hg x).1 hx
  rw [dpt_eq (tab_trans ht) hxn, Nat.add_comm]
  congr 1
  refine Nat.le_antisymm (most_le fun d hd => ?_) (most_le fun d hd => ?_)
  · obtain ⟨c, hc, rfl⟩ := List.mem_map.1 hd
    obtain ⟨h1, h2⟩ := List.mem_filter.1 hc
    have h1 := List.mem_range.1 h1
    obtain ⟨h3, h4⟩ := (dn_iff hk ht hxn h1).1 (by simpa using h2)
    obtain ⟨a, b, p1, p2, p3, p4, p5⟩ := way_out hk h3 hxn h4
    have hb := hk.hn a p1 b p3
    refine Nat.le_trans (dpt_reach hk ht hb h1 p5) (most_ge ?_)
    refine List.mem_flatMap.2 ⟨a, (hg a).2 ⟨p1, p2.trans hxk⟩, List.mem_map.2 ⟨b, p3, ?_⟩⟩
    rw [if_neg]
    exact fun q => p4 (((hg b).1 q).2.trans hxk.symm)
  · obtain ⟨a, ha, h1⟩ := List.mem_flatMap.1 hd
    obtain ⟨b, hb, rfl⟩ := List.mem_map.1 h1
    obtain ⟨q1, q2⟩ := (hg a).1 ha
    have hbn := hk.hn a q1 b hb
    by_cases hbg : b ∈ g
    · rw [if_pos hbg]; exact Nat.zero_le _
    · rw [if_neg hbg]
      refine most_ge (List.mem_map.2 ⟨b, List.mem_filter.2 ⟨List.mem_range.2 hbn, decide_eq_true ?_⟩, rfl⟩)
      refine (dn_iff hk ht hxn hbn).2 ⟨(hk.same x a hxn (hxk.trans q2.symm)).trans (.one hb), fun e => hbg ((hg b).2 ⟨hbn, e.symm.trans hxk⟩)⟩
end
-- rounds over the table
/-- what is so while depths are found -/
structure DpS (n : Nat) (t : Nat → Nat → Bool) (r i : Nat) (D : Nat → Nat) : Prop where
  le : ∀ j, j < n → D j ≤ dpt n t j
  ge : ∀ j, j < n → min r (dpt n t j) ≤ D j
  upto : ∀ j, j < i → min (r + 1) (dpt n t j) ≤ D j
structure DpI (n : Nat) (t : Nat → Nat → Bool) (r i k : Nat) (D : Nat → Nat) : Prop extends DpS n t r i D where
  pos : 1 ≤ D i
  down : ∀ j, j < k → Dn t i j → min r (dpt n t j) + 1 ≤ D i
section
variable {n : Nat} {t : Nat → Nat → Bool} (ht : ∀ i j k, i < n → j < n → k < n → t i j = true → t j k = true → t i k = true) {r i k : Nat} {D : Nat → Nat}
theorem DpS.start : DpS n t 0 0 fun _ => 0 := ⟨fun _ _ => Nat.zero_le _, fun _ _ => by omega, nofun⟩
theorem DpS.set {v : Nat} (h : DpS n t r i D) (hv : D i ≤ v) (hl : i < n → v ≤ dpt n t i) : DpS n t r i (up D i v) := by
  refine ⟨fun j hj => ?_, fun j hj => ?_, fun j hj => ?_⟩
  · by_cases e : j = i
    · subst e; rw [up_same]; exact hl hj
    · rw [up_other _ _ e]; exact h.le j hj
  · by_cases e : j = i
    · subst e; rw [up_same]; exact Nat.le_trans (h.ge j hj) hv
    · rw [up_other _ _ e]; exact h.ge j hj
  · rw [up_other _ _ (by omega)]; exact h.upto j hj
include ht
theorem DpS.enter (h : DpS n t r i D) (hi : i < n) : DpI n t r i 0 (up D i (max (D i) 1)) := by
  refine { h.set (Nat.le_max_left _ _) fun _ => Nat.max_le.2 ⟨h.le i hi, dpt_pos ht hi⟩ with pos := ?_, down := nofun }
  rw [up_same]; exact Nat.le_max_right _ _
theorem DpI.cell (h : DpI n t r i k D) (hi : i < n) (hk : k < n) (hd : Dn t i k) : DpI n t r i (k + 1) (up D i (max (D i) (D k + 1))) := by
  refine { h.toDpS.set (Nat.le_max_left _ _) fun _ => Nat.max_le.2 ⟨h.le i hi, Nat.le_trans (Nat.succ_le_succ (h.le k hk)) (dpt_down ht hi hk hd)⟩ with pos := ?_, down := fun j hj hdj => ?_ }
  · rw [up_same]; have := h.pos; omega
  · rw [up_same]
    by_cases e : j = k
    · subst e; have := h.ge j hk; omega
    · have := h.down j (by omega) hdj; omega
omit ht in
theorem DpI.skip (h : DpI n t r i k D) (hd : ¬ Dn t i k) : DpI n t r i (k + 1) D :=
  { h with down := fun j hj hdj => if e : j = k then absurd (e ▸ hdj) hd else h.down j (by omega) hdj }
theorem DpI.row (h : DpI n t r i n D) (hi : i < n) : DpS n t r (i + 1) D :=
  ⟨h.le, h.ge, fun j hj => if e : j = i then by subst e; exact round_up ht hi h.pos fun k hk hd => h.down k hk hd else h.upto j (by omega)⟩
omit ht in
theorem DpS.round (h : DpS n t r n D) : DpS n t (r + 1) 0 D := ⟨h.le, fun j hj => h.upto j hj, nofun⟩
theorem DpS.done (h : DpS n t n 0 D) {j : Nat} (hj : j < n) : D j = dpt n t j := by
  have h1 := h.le j hj
  have h2 := h.ge j hj
  have h3 := dpt_n ht hj
  omega
end
theorem most_snoc (l : List Nat) (x : Nat) : mostL (l ++ [x]) = max (mostL l) x := by unfold mostL; rw [List.foldl_append]; rfl
theorem most_const {l m : List Nat} {c : Nat} (hne : m ≠ []) (h : ∀ x ∈ m, x = c) : mostL (l ++ m) = max (mostL l) c := by
  refine Nat.le_antisymm (most_le fun x hx => ?_) (Nat.max_le.2 ⟨most_le fun x hx => most_ge (List.mem_append_left _ hx), ?_⟩)
  · rcases List.mem_append.1 hx with q | q
    · exact Nat.le_trans (most_ge q) (Nat.le_max_left _ _)
    · rw [h x q]; exact Nat.le_max_right _ _
  · obtain ⟨x, m, rfl⟩ := List.exists_cons_of_ne_nil hne
    rw [← h x (by simp)]
    exact most_ge (by simp)
/-- the most of all knots is the most of all -/
theorem most_same {α : Type} {l : List α} {m : List Nat} {f : α → Nat} (h1 : ∀ x ∈ l, f x ∈ m) (h2 : ∀ d ∈ m, ∃ x ∈ l, f x = d) : mostL (l.map f) = mostL m := by
  refine Nat.le_antisymm (most_le fun d hd => ?_) (most_le fun d hd => ?_)
  · obtain ⟨x, hx, rfl⟩ := List.mem_map.1 hd
    exact most_ge (h1 x hx)
  · obtain ⟨x, hx, rfl⟩ := h2 d hd
    exact most_ge (List.mem_map.2 ⟨x, hx, rfl⟩)
end Go.Proofs.Ytgicohkmfbbbdaa.Tar
end

section
namespace Go.Proofs.Ytgicohkmfbbbdaa.Gr
open _root_.Go.Proofs.Ytgicohkmfbbbdaa.Mark (ltID sortID)
open Attr (A8)
open Tar (mostL most_le most_ge dpt tR tR_iff grpP)
/-- what one that is led to brings -/
def valK (dd : I2 → Nat) (pre gs : List I2) (y : I2) : Nat := if y ∈ gs then 0 else if y ∈ pre then dd y else 0
def needK (es : List (I2 × A8)) (f : F7) (dd : I2 → Nat) (pre gs l : List I2) : List Nat := l.flatMap fun x => (leadsG es f x).map (valK dd pre gs)
theorem needK_snoc (es : List (I2 × A8)) (f : F7) (dd : I2 → Nat) (pre gs l : List I2) (x : I2) : needK es f dd pre gs (l ++ [x]) = needK es f dd pre gs l ++ (leadsG es f x).map (valK dd pre gs) := by simp [needK]
noncomputable def ddK (es : List (I2 × A8)) (f : F7) (Lk : List I2) (x : I2) : Nat := dpt Lk.length (tR (nxL es f Lk)) (Lk.idxOf x)
noncomputable def deepG (es : List (I2 × A8)) (f : F7) (Lk : List I2) : Nat := mostL ((List.range Lk.length).map (dpt Lk.length (tR (nxL es f Lk))))
def idsG (es : List (I2 × A8)) (Lk : List I2) : Nat → I2 := idK (enL es Lk)
theorem idsG_at {es : List (I2 × A8)} {Lk : List I2} {i : Nat} (h : i < Lk.length) : Lk[i]? = some (idsG es Lk i) := by
  obtain ⟨x, hx⟩ : ∃ x, Lk[i]? = some x := ⟨_, List.getElem?_eq_getElem h⟩
  rw [hx, show idsG es Lk i = x from enL_id hx]
section
variable {es : List (I2 × A8)} {f : F7} {Lk : List I2} {kn : Nat → Nat} {found : Nat} (hs : Lk.Pairwise ltID) (hk : Tar.Kn (nxL es f Lk) Lk.length kn found)
include hs
theorem nodupL : Lk.Nodup := hs.imp fun q e => by rw [e] at q; exact lt_irr q
theorem ids_idx {i : Nat} (h : i < Lk.length) : Lk.idxOf (idsG es Lk i) = i := by
  have h1 := idsG_at (es := es) h
  obtain ⟨_, h2⟩ := List.getElem?_eq_some_iff.1 h1
  rw [← h2, List.Nodup.idxOf_getElem (nodupL hs)]
theorem ids_inj {i j : Nat} (hi : i < Lk.length) (hj : j < Lk.length) (e : idsG es Lk i = idsG es Lk j) : i = j := by rw [← ids_idx hs (es := es) hi, e, ids_idx hs hj]
theorem ddK_at {i : Nat} (h : i < Lk.length) : ddK es f Lk (idsG es Lk i) = dpt Lk.length (tR (nxL es f Lk)) i := by unfold ddK; rw [ids_idx hs h]
include hk
omit hs in
theorem knots_flat : (((grpP (nxL es f Lk) Lk.length kn (sqE (enL es Lk)) Lk.length []).map (List.map (idsG es Lk)))).flatten = ordG es f Lk := by
  rw [← List.map_flatten, Tar.grpP_flat, Tar.ordP_R hk]
  rfl
theorem deep_step {pre : List (List Nat)} {g0 : List Nat} {rest : List (List Nat)} (e : grpP (nxL es f Lk) Lk.length kn (sqE (enL es Lk)) Lk.length [] = pre ++ g0 :: rest) {x : I2} (hx : x ∈ g0.map (idsG es Lk)) :
    mostL (needK es f (ddK es f Lk) (pre.map (List.map (idsG es Lk))).flatten (g0.map (idsG es Lk)) (g0.map (idsG es Lk))) + 1 = ddK es f Lk x := by
  have hG := Tar.grpP_is (sq := sqE (enL es Lk)) hk Lk.length []
  rw [e] at hG
  obtain ⟨_, kk, _, hg⟩ := hG.one g0 (by simp)
  have hp : ∀ h ∈ pre, ∀ y ∈ h, y < Lk.length := fun h hh y hy => by
    obtain ⟨_, k2, _, h3⟩ := hG.one h (List.mem_append_left _ hh)
    exact ((h3 y).1 hy).1
  have hd : ∀ h ∈ pre, ∀ y ∈ h, y ∉ g0 := fun h hh y hy q => (List.pairwise_append.1 hG.apart).2.2 h hh g0 (by simp) y hy y q rfl
  obtain ⟨i, hi, rfl⟩ := List.mem_map.1 hx
  have hin := ((hg i).1 hi).1
  rw [ddK_at hs hin, Tar.knot_depth hk (fun _ _ _ _ => tR_iff) hg hi]
  congr 1
  have hmg : ∀ y, y < Lk.length → (idsG es Lk y ∈ g0.map (idsG es Lk) ↔ y ∈ g0) := fun y hy => ⟨fun q => by
    obtain ⟨z, hz, e⟩ := List.mem_map.1 q
    rwa [← ids_inj hs ((hg z).1 hz).1 hy e], fun q => List.mem_map.2 ⟨y, q, rfl⟩⟩
  have hmp : ∀ y, (idsG es Lk y ∈ (pre.map (List.map (idsG es Lk))).flatten) ↔ ∃ h ∈ pre, ∃ z ∈ h, idsG es Lk z = idsG es Lk y := fun y => by
    simp only [List.mem_flatten, List.mem_map]
    constructor
    · rintro ⟨_, ⟨h, hh, rfl⟩, hy⟩
      obtain ⟨z, hz, e⟩ := List.mem_map.1 hy
      exact ⟨h, hh, z, hz, e⟩
    · rintro ⟨h, hh, z, hz, e⟩
      exact ⟨_, ⟨h, hh, rfl⟩, List.mem_map.2 ⟨z, hz, e⟩⟩
  refine Nat.le_antisymm (most_le fun d hd2 => ?_) (most_le fun d hd2 => ?_)
  · obtain ⟨x, hx, h1⟩ := List.mem_flatMap.1 hd2
    obtain ⟨y, hy, rfl⟩ := List.mem_map.1 h1
    obtain ⟨z, hz, rfl⟩ := List.mem_map.1 hx
    have hzn := ((hg z).1 hz).1
    unfold valK
    split
    · exact Nat.zero_le _
    · rename_i hyg
      split
      · rename_i hyp
        obtain ⟨h, hh, hy2⟩ := List.mem_flatten.1 hyp
        obtain ⟨h, hh3, rfl⟩ := List.mem_map.1 hh
        obtain ⟨u, hu, rfl⟩ := List.mem_map.1 hy2
        clear hh
        have hh := hh3
        have hun := hp h hh u hu
        rw [ddK_at hs hun]
        refine most_ge (List.mem_flatMap.2 ⟨z, hz, List.mem_map.2 ⟨u, place_edge (idsG_at hzn) hy (idsG_at hun) (nodupL hs), if_neg (hd h hh u hu)⟩⟩)
      · exact Nat.zero_le _
  · obtain ⟨z, hz, h1⟩ := List.mem_flatMap.1 hd2
    obtain ⟨y, hy, rfl⟩ := List.mem_map.1 h1
    obtain ⟨hzn, hzk⟩ := (hg z).1 hz
    have hyn := hk.hn z hzn y hy
    split
    · exact Nat.zero_le _
    · rename_i hyg
      obtain ⟨x1, y1, e1, e2, e3⟩ := edge_place hy
      rw [idsG_at (es := es) hzn] at e1
      rw [idsG_at (es := es) hyn] at e2
      cases e1
      cases e2
      refine most_ge (List.mem_flatMap.2 ⟨_, List.mem_map.2 ⟨z, hz, rfl⟩, List.mem_map.2 ⟨_, e3, ?_⟩⟩)
      unfold valK
      rw [if_neg fun q => hyg ((hmg y hyn).1 q), if_pos, ddK_at hs hyn]
      rcases hG.edge pre g0 rest rfl z hz y hy with q | q | ⟨h, h1, h2⟩
      · exact absurd ((hg y).2 ⟨hyn, q.trans hzk⟩) hyg
      · cases q
      · exact (hmp y).2 ⟨h, h1, y, h2, rfl⟩
end
/-- what Deep needs to know of the knots -/
structure DpF (es : List (I2 × A8)) (f : F7) (dd : I2 → Nat) (most n : Nat) (KG : List (List I2)) : Prop where
  nodup : KG.flatten.Nodup
  ne : ∀ g ∈ KG, g ≠ []
  len : KG.flatten.length ≤ n
  le : ∀ x ∈ KG.flatten, dd x ≤ n
  step : ∀ j g, KG[j]? = some g → ∀ x ∈ g, mostL (needK es f dd (KG.take j).flatten g g) + 1 = dd x
  all : mostL (KG.flatten.map dd) = most
theorem dpF_of {es : List (I2 × A8)} {f : F7} {Lk : List I2} {kn : Nat → Nat} {found : Nat} (hs : Lk.Pairwise ltID) (hk : Tar.Kn (nxL es f Lk) Lk.length kn found) {KG : List (List I2)} (hK : KG = (grpP (nxL es f Lk) Lk.length kn (sqE (enL es Lk)) Lk.length []).map (List.map (idsG es Lk))) :
    DpF es f (ddK es f Lk) (deepG es f Lk) Lk.length KG := by
  have hfl := knots_flat hk
  rw [← hK] at hfl
  have hp := ordG_perm es f Lk
  have hm : ∀ x ∈ KG.flatten, ∃ i, i < Lk.length ∧ idsG es Lk i = x := fun x hx => by
    rw [hfl, hp.mem_iff] at hx
    obtain ⟨i, hi, e⟩ := List.mem_iff_getElem.1 hx
    exact ⟨i, hi, Option.some.inj (by rw [← idsG_at hi, List.getElem?_eq_getElem hi, e])⟩
  have hG := Tar.grpP_is (sq := sqE (enL es Lk)) hk Lk.length []
  refine ⟨by rw [hfl]; exact hp.nodup_iff.2 (nodupL hs), fun g hg q => ?_, by rw [hfl, hp.length_eq]; exact Nat.le_refl _, fun x hx => ?_, fun j g hj x hx => ?_, ?_⟩
  · rw [hK] at hg
    obtain ⟨g0, h0, rfl⟩ := List.mem_map.1 hg
    exact (hG.one g0 h0).1 (List.map_eq_nil_iff.1 q)
  · obtain ⟨i, hi, rfl⟩ := hm x hx
    rw [ddK_at hs hi]
    exact Tar.dpt_n (Tar.tab_trans fun _ _ _ _ => tR_iff) hi
  · rw [hK, List.getElem?_map] at hj
    obtain ⟨g0, h0, rfl⟩ := Option.map_eq_some_iff.1 hj
    obtain ⟨hl, e⟩ := List.getElem?_eq_some_iff.1 h0
    have e2 := deep_step hs hk (pre := (grpP (nxL es f Lk) Lk.length kn (sqE (enL es Lk)) Lk.length []).take j) (g0 := g0) (rest := (grpP (nxL es f Lk) Lk.length kn (sqE (enL es Lk)) Lk.length []).drop (j + 1)) (by rw [← e, ← List.drop_eq_getElem_cons hl, List.take_append_drop]) hx
    rw [hK, ← List.map_take]
    exact e2
  · unfold deepG
    refine Tar.most_same (fun x hx => ?_) fun d hd => ?_
    · obtain ⟨i, hi, rfl⟩ := hm x hx
      rw [ddK_at hs hi]
      exact List.mem_map.2 ⟨i, List.mem_range.2 hi, rfl⟩
    · obtain ⟨i, hi, rfl⟩ := List.mem_map.1 hd
      have hi := List.mem_range.1 hi
      exact ⟨idsG es Lk i, by rw [hfl, hp.mem_iff]; exact List.mem_of_getElem? (idsG_at hi), ddK_at hs hi⟩
end Go.Proofs.Ytgicohkmfbbbdaa.Gr
end
