/- GraV, joined. -/
import Derived.Test.YtgicohkmfbbbdaaK16
import Derived.Deep.CutBlock
import Derived.Deep.CutRange
section
namespace Go
open _root_.Go.Proofs.Ytgicohkmfbbbdaa
open Go.RowKit
section
variable {P : Program} {ops : Array Oper} {Q : Exit → Act → World → Prop} {L0 L F : List Part} {w0 w : World}
theorem opMakeRow_at {j : Nat} {d : Option Tmp} {o : Oper} {a : Act} {K : Act → World → Prop} {t e : TypeId} {i : TypeInfo} {z : Value} {size : Nat} {kl kc : IntKind} (ho : ops[j]? = some o) (hd : o.dst = d) (hw : Region.wanted o (yielded ops a.tmps) = true) (l c : Operand) (hop : o.op = .makeSlice t l c) (ht : P.underlying t = some (.slice e)) (hi : P.info? e = some i) (hz : i.zero = some z) (hsize : i.size = size)
    (n : Nat) (hl : a.eval l = .int kl (n : Int)) (hc : a.eval c = .int kc (n : Int)) (hbytes : i.bytes * n ≤ 281474976710656) (h63 : n ≤ maxLen) (h : At L0 w0 L w)
    (hK : ∀ b w', At L0 w0 (Part.row e size (.slice (some ⟨b, 0, none⟩) n n) n (madeCells z.cells (n * size)).toList :: L) w' → K (a.put d (.slice (some ⟨b, 0, none⟩) n n)) w') : wpOp P ops Q j K a w := by
  subst hd
  obtain ⟨w', h1, h2, h3⟩ := run_make_full (P := P) w w.heap.size t e i z size ht hi hz hsize kl kc n hbytes h63 (Nat.le_refl _)
  exact wpOp_val ho hw (v := .slice (some ⟨w.heap.size, 0, none⟩) n n) (w' := w') (by simp [execOp, hop, hl, hc, h1, Result.andThen]) (hK _ w' (h.row_new (ext_grown h3) h2))
end
end Go
namespace Go.Proofs.Ytgicohkmfbbbdaa.Gr
open Go.RowKit
open Attr (A8 thro)
set_option linter.unusedSimpArgs false
set_option linter.unusedVariables false
attribute [-go_sem] run_eql_struct run_neq_struct run_eqGuard_agg

theorem infoM : (Try.prog.info? 101).map (fun i => (i.zero, i.size, i.bytes)) = some (some (.map none), 1, 8) := by kernel_rfl
theorem infoS : (Try.prog.info? 63).map (fun i => (i.zero, i.size, i.bytes)) = some (some (.slice none 0 0), 1, 24) := by kernel_rfl
def zeroO : Wt := ⟨none, []⟩
def zeroH : Hs := ⟨none, 0, []⟩
theorem nilO {L0 L : List Part} {w0 w : World} (h : At L0 w0 L w) : ∀ n, At L0 w0 (restO (List.replicate n zeroO) :: L) w
  | 0 => h.to (Eqv.all [] L).symm
  | n + 1 => by
    have h1 := nilO h n
    have h2 : At L0 w0 (zeroO.part :: restO (List.replicate n zeroO) :: L) w := h1.to (Eqv.all [] _).symm
    rw [List.replicate_succ]
    exact h2.to (eqvO [] (List.replicate n zeroO) zeroO L).symm
theorem nilH {L0 L : List Part} {w0 w : World} (h : At L0 w0 L w) : ∀ n, At L0 w0 (restH (List.replicate n zeroH) :: L) w
  | 0 => h.to (Eqv.all [] L).symm
  | n + 1 => by
    have h1 := nilH h n
    have h2 : At L0 w0 (rowX zeroH.v zeroH.hs :: restH (List.replicate n zeroH) :: L) w := h1.row_nil 3 1
    rw [List.replicate_succ]
    exact h2.to (eqvH [] (List.replicate n zeroH) zeroH L).symm
theorem madeO {L0 F : List Part} {w0 w : World} {v : Value} {n : Nat} (h : At L0 w0 (Part.row 101 1 v n (madeCells (Value.cells (.map none)) (n * 1)).toList :: F) w) : At L0 w0 (rowO v (List.replicate n zeroO) :: restO (List.replicate n zeroO) :: F) w := by
  rw [made_flat Wt.cells 1 (fun _ => rfl) zeroO (Value.cells (.map none)) rfl n] at h
  have h1 := nilO h n
  have e : rowO v (List.replicate n zeroO) = Part.row 101 1 v n ((List.replicate n zeroO).flatMap Wt.cells) := by unfold rowO; rw [List.length_replicate]; rfl
  rw [e]
  exact h1.perm (List.Perm.swap _ _ _)
theorem madeH {L0 F : List Part} {w0 w : World} {v : Value} {n : Nat} (h : At L0 w0 (Part.row 63 1 v n (madeCells (Value.cells (.slice none 0 0)) (n * 1)).toList :: F) w) : At L0 w0 (rowH v (List.replicate n zeroH) :: restH (List.replicate n zeroH) :: F) w := by
  rw [made_flat Hs.cells 1 (fun _ => rfl) zeroH (Value.cells (.slice none 0 0)) rfl n] at h
  have h1 := nilH h n
  have e : rowH v (List.replicate n zeroH) = Part.row 63 1 v n ((List.replicate n zeroH).flatMap Hs.cells) := by unfold rowH; rw [List.length_replicate]; rfl
  rw [e]
  exact h1.perm (List.Perm.swap _ _ _)
theorem nil_eqM (a : Option Nat) (w : World) : (binOp .eql 101 (.map a) (.map none)).run Try.prog w = .ok (.bool a.isNone) w := run_eql_map_nil w _ _ _ _ Try.underlying101
def CutW (w : World) (nv : Value) (N : List Nd) (n : Nat) (u4 u5 : Value) (wc : World) : Prop :=
  ∃ bO bH : Nat, u4 = .slice (some ⟨bO, 0, none⟩) (n + 1) (n + 1) ∧ u5 = .slice (some ⟨bH, 0, none⟩) (n + 1) (n + 1) ∧ At [rowNd nv N, restX N] w [rowO u4 (List.replicate (n + 1) zeroO), rowH u5 (List.replicate (n + 1) zeroH), restO (List.replicate (n + 1) zeroO), restH (List.replicate (n + 1) zeroH), rowNd nv N, restX N] wc
def CutH (w : World) (nv ov hv : Value) (N : List Nd) (n b7 i : Nat) (d : Nd) (O : List Wt) (H : List Hs) (hs : List Nat) (wc : World) : Prop :=
  ∃ (ha2 : Option Addr) (kc2 : Nat) (H1 : List Hs), ha2 ≠ none ∧ H.set d.knot ⟨ha2, kc2, hs ++ [i]⟩ = H1 ∧ At [rowNd nv N, restX N] w [restH H1, Part.row 63 1 hv (n + 1) (flatH H1), Part.cells b7 [.int .i64 d.id.1, .int .i64 d.id.2, .slice d.na d.nx.length d.nc, .int .i64 d.low, .int .i64 d.num, .bool d.on, .int .i64 d.knot] 100, Part.row 101 1 ov (n + 1) (flatO O), restO O, rowNd nv N, restX N] wc
def CutO (w : World) (nv ov hv : Value) (N : List Nd) (n b7 : Nat) (d : Nd) (O : List Wt) (H1 : List Hs) (ws : List Nat) (wc : World) : Prop :=
  ∃ (mm : Nat) (O1 : List Wt), O.set d.knot ⟨some mm, ws⟩ = O1 ∧ At [rowNd nv N, restX N] w [restO O1, Part.row 101 1 ov (n + 1) (flatO O1), restH H1, Part.row 63 1 hv (n + 1) (flatH H1), Part.cells b7 [.int .i64 d.id.1, .int .i64 d.id.2, .slice d.na d.nx.length d.nc, .int .i64 d.low, .int .i64 d.num, .bool d.on, .int .i64 d.knot] 100, rowNd nv N, restX N] wc
theorem lawN : Go.Maps.Keyed Try.prog 3 := Go.Maps.int_keyed Try.underlying3
/-- a node's knot -/
def knF (N : List Nd) (i : Nat) : Nat := match N[i]? with
  | some d => d.knot
  | none => 0
/-- what a knot waits for, by the first i nodes -/
def WaitOf (N : List Nd) (i k z : Nat) : Prop := ∃ j, j < i ∧ knF N j = k ∧ ∃ y ∈ nxF N j, knF N y = z ∧ z ≠ k
structure WtIn (N : List Nd) (n i : Nat) (O : List Wt) (H : List Hs) : Prop where
  lo : O.length = n + 1
  lh : H.length = n + 1
  has : ∀ k x, H[k]? = some x → x.hs = (List.range i).filter (fun j => knF N j == k) ∧ (x.ha = none ↔ x.hs = [])
  open_ : ∀ k o, O[k]? = some o → (∀ z, z ∈ o.ws ↔ WaitOf N i k z) ∧ (o.mb = none → o.ws = [])
def WtRel (w : World) (nv : Value) (N : List Nd) (n : Nat) (ov hv : Value) (k : Nat) (u : Value) (wr : World) : Prop :=
  ∃ (i : Nat) (O : List Wt) (H : List Hs), u = .int .i64 i ∧ i + k = N.length ∧ WtIn N n i O H ∧ At [rowNd nv N, restX N] w [rowO ov O, rowH hv H, restO O, restH H, rowNd nv N, restX N] wr
def WtPost (w : World) (nv : Value) (N : List Nd) (n : Nat) (e : Ending) (w' : World) : Prop :=
  ∃ (ov hv : Value) (O : List Wt) (H : List Hs), e = .returned (.tuple #[ov, hv]) ∧ WtIn N n N.length O H ∧ At [rowNd nv N, restX N] w [rowO ov O, rowH hv H, restO O, restH H, rowNd nv N, restX N] w'
theorem rep_get {α : Type} {n k : Nat} {x y : α} (h : (List.replicate n x)[k]? = some y) : y = x := by
  rw [List.getElem?_replicate] at h
  split at h
  · exact (Option.some.inj h).symm
  · cases h
theorem wt_start (N : List Nd) (n : Nat) : WtIn N n 0 (List.replicate (n + 1) zeroO) (List.replicate (n + 1) zeroH) := by
  refine ⟨by simp, by simp, fun k x h => ?_, fun k o h => ?_⟩
  · cases rep_get h
    exact ⟨rfl, ⟨fun _ => rfl, fun _ => rfl⟩⟩
  · cases rep_get h
    refine ⟨fun z => ⟨nofun, ?_⟩, fun _ => rfl⟩
    rintro ⟨j, hj, _⟩
    omega
theorem flatO_map (O : List Wt) : flatO O = (O.map Wt.mb).map Value.map := by
  unfold flatO
  induction O with
  | nil => rfl
  | cons x l ih => rw [List.flatMap_cons, ih]; rfl
theorem flatO_set {O : List Wt} {k : Nat} {o : Wt} (h : O[k]? = some o) (ws1 : List Nat) : flatO (O.set k ⟨o.mb, ws1⟩) = flatO O := by
  rw [flatO_map, flatO_map, List.map_set, set_same (by rw [List.getElem?_map, h]; rfl)]
theorem keyN {k : Nat} (h : k ≤ 100000) : ∃ l, keyOf Try.prog 3 (.int .i64 (k : Int)) = some l :=
  ⟨_, Go.Maps.keyOf_int_mk Try.underlying3 (by simp [Lit.wf, IntKind.min, IntKind.max, IntKind.signed, IntKind.bits]; omega)⟩
theorem wsE_snoc (l : List Nat) (k : Nat) : wsE l ++ [(.int .i64 (k : Int), .int .i64 1)] = wsE (l ++ [k]) := by simp [wsE]
theorem wsE_no {l : List Nat} {k : Nat} (h : k ∉ l) : ∀ p ∈ wsE l, p.1 ≠ .int .i64 (k : Int) := by
  intro p hp e
  obtain ⟨z, hz, rfl⟩ := List.mem_map.1 hp
  injection e with _ e2
  exact h (by rw [← Int.ofNat.inj e2]; exact hz)
theorem wsE_yes {l : List Nat} {k : Nat} (h : k ∈ l) : ∃ l1 l2, wsE l = l1 ++ (.int .i64 (k : Int), .int .i64 1) :: l2 := by
  obtain ⟨a, b, e⟩ := List.append_of_mem h
  exact ⟨wsE a, wsE b, by rw [e]; simp [wsE]⟩
def WsIn (N : List Nd) (d : Nd) (ws ws1 : List Nat) (j : Nat) : Prop := ∀ z, z ∈ ws1 ↔ z ∈ ws ∨ ∃ y ∈ d.nx.take j, knF N y = z ∧ z ≠ d.knot
def WiRel (w : World) (nv ov hv : Value) (N : List Nd) (n b7 : Nat) (d : Nd) (O1 : List Wt) (H1 : List Hs) (mm : Nat) (ws : List Nat) (k : Nat) (u : Value) (wr : World) : Prop :=
  ∃ (j : Nat) (ws1 : List Nat), u = .int .i64 j ∧ j + k = d.nx.length ∧ WsIn N d ws ws1 j ∧ At [rowNd nv N, restX N] w [restO (O1.set d.knot ⟨some mm, ws1⟩), Part.row 101 1 ov (n + 1) (flatO O1), restH H1, Part.row 63 1 hv (n + 1) (flatH H1), Part.cells b7 [.int .i64 d.id.1, .int .i64 d.id.2, .slice d.na d.nx.length d.nc, .int .i64 d.low, .int .i64 d.num, .bool d.on, .int .i64 d.knot] 100, rowNd nv N, restX N] wr
theorem wt_step {N : List Nd} {n i : Nat} {O : List Wt} {H : List Hs} (h : WtIn N n i O H) {d : Nd} {x : Hs} {mb : Option Nat} {ws ws1 : List Nat} {ha2 : Option Addr} {kc2 mm : Nat} (hd : N[i]? = some d) (hx : H[d.knot]? = some x) (ho : O[d.knot]? = some ⟨mb, ws⟩)
    (hws : ∀ z, z ∈ ws1 ↔ z ∈ ws ∨ ∃ y ∈ d.nx, knF N y = z ∧ z ≠ d.knot) (hh : ha2 ≠ none) : WtIn N n (i + 1) (O.set d.knot ⟨some mm, ws1⟩) (H.set d.knot ⟨ha2, kc2, x.hs ++ [i]⟩) := by
  have hkn : knF N i = d.knot := by unfold knF; rw [hd]
  have hnx : nxF N i = d.nx := by unfold nxF; rw [hd]
  refine ⟨by rw [List.length_set, h.lo], by rw [List.length_set, h.lh], fun k x' hx' => ?_, fun k o' ho' => ?_⟩
  · rw [List.range_succ, List.filter_append]
    by_cases hk : d.knot = k
    · subst hk
      rw [List.getElem?_set_self (List.getElem?_eq_some_iff.1 hx).1] at hx'
      cases hx'
      refine ⟨?_, ⟨fun e => absurd e hh, fun e => by simp at e⟩⟩
      rw [(h.has _ _ hx).1]
      simp [hkn]
    · rw [List.getElem?_set_ne hk] at hx'
      have := h.has _ _ hx'
      refine ⟨?_, this.2⟩
      rw [this.1]
      simp [hkn, hk]
  · by_cases hk : d.knot = k
    · subst hk
      rw [List.getElem?_set_self (List.getElem?_eq_some_iff.1 ho).1] at ho'
      cases ho'
      refine ⟨fun z => ?_, nofun⟩
      rw [hws z, (h.open_ _ _ ho).1 z]
      constructor
      · rintro (⟨j, hj, h1, h2⟩ | ⟨y, hy, h1, h2⟩)
        · exact ⟨j, by omega, h1, h2⟩
        · exact ⟨i, by omega, hkn, y, by rw [hnx]; exact hy, h1, h2⟩
      · rintro ⟨j, hj, h1, y, hy, h2, h3⟩
        by_cases e : j = i
        · subst e
          exact .inr ⟨y, by rw [hnx] at hy; exact hy, h2, h3⟩
        · exact .inl ⟨j, by omega, h1, y, hy, h2, h3⟩
    · rw [List.getElem?_set_ne hk] at ho'
      have := h.open_ _ _ ho'
      refine ⟨fun z => ?_, this.2⟩
      rw [this.1 z]
      constructor
      · rintro ⟨j, hj, h1, h2⟩
        exact ⟨j, by omega, h1, h2⟩
      · rintro ⟨j, hj, h1, h2⟩
        by_cases e : j = i
        · subst e
          exact absurd (hkn.symm.trans h1) hk
        · exact ⟨j, by omega, h1, h2⟩
set_option maxRecDepth 100000 in
set_option maxHeartbeats 4000000 in
theorem waits_any {w : World} {nv : Value} {N : List Nd} (h : Sep [rowNd nv N, restX N] w) (n : Nat) (hk : ∀ (i : Nat) (d : Nd), N[i]? = some d → d.knot ≤ n) (hn : ∀ i, i < N.length → ∀ y ∈ nxF N i, y < N.length) (hnx : ∀ (i : Nat) (d : Nd), N[i]? = some d → d.nx.length ≤ 7) (hl : N.length ≤ 1000) (hn9 : n ≤ 9000) :
    Calls Try.prog 44 #[nv, .int .i64 n] w (WtPost w nv N n) := by
  have hm : Try.prog.follows .mixedOrders = true := by kernel_rfl
  obtain ⟨i0, hi0, hz0, hz1, hz2⟩ := info_parts infoM
  obtain ⟨i1, hi1, hz3, hz4, hz5⟩ := info_parts infoS
  obtain ⟨i2, hi2, hz6, hz7, hz8⟩ := info_parts infoX
  have hA := At.start h
  have hk0 := Lib.hid hk
  have hn0 := Lib.hid hn
  have hnx0 := Lib.hid hnx
  clear h hk hn hnx
  obtain ⟨axn, capn, hnv, haxn, hcpn, _⟩ := hA.row_form (e := 100) (size := 7) (n := N.length) (v := nv) (xs := flatN N) sZ
  have haxn' := Lib.hid haxn
  subst hnv
  clear haxn
  have hw1 : IntKind.i64.wrap ((n : Int) + 1) = ((n + 1 : Nat) : Int) := by rw [IntKind.wrap_i64] <;> omega
  (try simp only [uA] at hA); have hF := hA.facts; (try simp only [fZ] at hF)
  go_enter Try.func44, Try.ntmps44
  go_upto_region 1 with (first | ((with_reducible refine gst ?_); refine wS hA ?_; clear hF hA; intro w1 hA; (try simp only [uA] at hA); have hF := hA.facts; (try simp only [fZ] at hF)) | ((with_reducible refine gbx ?_); refine wB hA ?_; clear hF hA; intro b1 w1 hA hb1; (try simp only [uA] at hA); have hF := hA.facts; (try simp only [fZ] at hF)))
  go_cut [4, 5] from 10 to 15 (CutW w (.slice axn N.length capn) N n)
  case first =>
    try go_frame
    have hB := hA.drew
    clear hF hA; have hA := hB; clear hB
    refine wp_region_held (S := fun _ => True) hm ?_
    change wpAnyH _ _ _ _ _ 8 _ _ (World.drew _)
    generalize World.drew _ = wd at *
    refine tP 0 10 (.int .i64 n) (s := trivial) (h := ?_)
    go_frame
    refine tZ 1 11 (.int .i64 ((n + 1 : Nat) : Int)) (r := (fun w' hS => by simp [execOp, go_sem, Act.eval, Act.put, hw1])) (s := trivial) (h := ?_)
    go_frame
    refine tP 3 13 (.int .i64 n) (s := trivial) (h := ?_)
    go_frame
    refine tZ 4 14 (.int .i64 ((n + 1 : Nat) : Int)) (r := (fun w' hS => by simp [execOp, go_sem, Act.eval, Act.put, hw1])) (s := trivial) (h := ?_)
    go_frame
    refine wpAnyH_two (i := 2) (j := 5) (by kernel_rfl) ?_ ?_
    · skip
      refine opMakeRow_at (j := 2) (d := some 12) (t := 94) (e := 101) rfl rfl (by kernel_rfl) _ _ rfl Try.underlying94 hi0 hz0 hz1 (n + 1) rfl rfl (by rw [hz2]; omega) (by unfold maxLen; omega) hA ?_
      intro bO w1 hB
      have hC := madeO hB
      clear hA hB
      have hA := hC
      clear hC
      refine ⟨trivial, ?_⟩
      try go_frame
      refine tP 6 4 (.slice (some ⟨bO, 0, none⟩) (n + 1) (n + 1)) (s := trivial) (h := ?_)
      go_frame
      refine wpAnyH_one (i := 5) (by kernel_rfl) ?_
      refine opMakeRow_at (j := 5) (d := some 15) (t := 95) (e := 63) rfl rfl (by kernel_rfl) _ _ rfl Try.underlying95 hi1 hz3 hz4 (n + 1) rfl rfl (by rw [hz5]; omega) (by unfold maxLen; omega) hA ?_
      intro bH w1 hB
      have hC := madeH hB
      clear hA hB
      have hA := hC
      clear hC
      refine ⟨trivial, ?_⟩
      try go_frame
      refine tP 7 5 (.slice (some ⟨bH, 0, none⟩) (n + 1) (n + 1)) (s := trivial) (h := ?_)
      go_frame
      refine wpAnyH_done (by kernel_rfl) ?_ _
      go_wp2_with fail
      go_meet
      case rel => exact ⟨bO, bH, rfl, rfl, hA.pick pZ⟩
    · skip
      refine opMakeRow_at (j := 5) (d := some 15) (t := 95) (e := 63) rfl rfl (by kernel_rfl) _ _ rfl Try.underlying95 hi1 hz3 hz4 (n + 1) rfl rfl (by rw [hz5]; omega) (by unfold maxLen; omega) hA ?_
      intro bH w1 hB
      have hC := madeH hB
      clear hA hB
      have hA := hC
      clear hC
      refine ⟨trivial, ?_⟩
      try go_frame
      refine wpAnyH_one (i := 2) (by kernel_rfl) ?_
      refine opMakeRow_at (j := 2) (d := some 12) (t := 94) (e := 101) rfl rfl (by kernel_rfl) _ _ rfl Try.underlying94 hi0 hz0 hz1 (n + 1) rfl rfl (by rw [hz2]; omega) (by unfold maxLen; omega) hA ?_
      intro bO w1 hB
      have hC := madeO hB
      clear hA hB
      have hA := hC
      clear hC
      refine ⟨trivial, ?_⟩
      try go_frame
      refine tP 6 4 (.slice (some ⟨bO, 0, none⟩) (n + 1) (n + 1)) (s := trivial) (h := ?_)
      go_frame
      refine tP 7 5 (.slice (some ⟨bH, 0, none⟩) (n + 1) (n + 1)) (s := trivial) (h := ?_)
      go_frame
      refine wpAnyH_done (by kernel_rfl) ?_ _
      go_wp2_with fail
      go_meet
      case rel => exact ⟨bO, bH, rfl, rfl, hA.pick pZ⟩
  case rest =>
    obtain ⟨bO, bH, rfl, rfl, hB⟩ := hcut
    clear hF hA; have hA := hB; clear hB
    (try simp only [uA] at hA); have hF := hA.facts; (try simp only [fZ] at hF)
    go_wp2_with (first | ((with_reducible refine gst ?_); refine wS hA ?_; clear hF hA; intro w1 hA; (try simp only [uA] at hA); have hF := hA.facts; (try simp only [fZ] at hF)) | ((with_reducible refine gbx ?_); refine wB hA ?_; clear hF hA; intro b1 w1 hA hb1; (try simp only [uA] at hA); have hF := hA.facts; (try simp only [fZ] at hF)))
    try go_frame
    go_loopg [18] N.length (WtRel w (.slice axn N.length capn) N n (.slice (some ⟨bO, 0, none⟩) (n + 1) (n + 1)) (.slice (some ⟨bH, 0, none⟩) (n + 1) (n + 1)))
    case atStart => exact ⟨0, _, _, rfl, by omega, wt_start N n, hA.pick pZ⟩
    case round =>
      obtain ⟨i, O, H, rfl, hik, hwt, hB⟩ := hrel
      have hwt' := Lib.hid hwt
      have hlo := hwt.lo
      have hlh := hwt.lh
      clear hF hA hwt; have hA := hB; clear hB
      by_cases hi : i < N.length
      · skip
        obtain ⟨d, hd⟩ : ∃ d, N[i]? = some d := ⟨_, List.getElem?_eq_getElem hi⟩
        have hkn := hk0.out i d hd
        have hd7 := hnx0.out i d hd
        obtain ⟨x, hx⟩ : ∃ x, H[d.knot]? = some x := ⟨_, List.getElem?_eq_getElem (by omega)⟩
        obtain ⟨o, ho⟩ : ∃ o, O[d.knot]? = some o := ⟨_, List.getElem?_eq_getElem (by omega)⟩
        have hxl := Lib.hid (show x.hs.length ≤ 1000 from by rw [(hwt'.out.has _ _ hx).1]; have := List.length_filter_le (fun j => knF N j == d.knot) (List.range i); rw [List.length_range] at this; omega)
        have hkI : (d.knot : Int) < ((n + 1 : Nat) : Int) := by omega
        obtain ⟨bn, offn, hax2, hce2⟩ := row_elemG Nd.cells_len (by omega) (l := N) (x := d) (hA.row_reads (v := .slice axn N.length capn) (n := N.length) (xs := flatN N) sZ) hd
        subst hax2
        obtain rfl : offn = 0 := by obtain ⟨g0, c0, hg0, _⟩ := hA.row_open (e := 100) (size := 7) (ax := some ⟨bn, offn, none⟩) (cap := capn) (n := N.length) (xs := flatN N) sZ (by omega); cases hg0; rfl
        have hr2 := Lib.hid (show ∀ (k : Nat) u, ([.int .i64 d.id.1, .int .i64 d.id.2, .slice d.na d.nx.length d.nc, .int .i64 d.low, .int .i64 d.num, .bool d.on, .int .i64 d.knot] : List Value)[k]? = some u → wr.cell? ⟨bn, i * 7 + k, none⟩ = some u from fun k u hk => by have := hce2 k u hk; rw [Nat.zero_add] at this; exact this)
        clear hce2
        have hrh : rowH (.slice (some ⟨bH, 0, none⟩) (n + 1) (n + 1)) H = Part.row 63 1 (.slice (some ⟨bH, 0, none⟩) (n + 1) (n + 1)) (n + 1) (flatH H) := by unfold rowH; rw [hlh]
        have hro : rowO (.slice (some ⟨bO, 0, none⟩) (n + 1) (n + 1)) O = Part.row 101 1 (.slice (some ⟨bO, 0, none⟩) (n + 1) (n + 1)) (n + 1) (flatO O) := by unfold rowO; rw [hlo]
        rw [hrh, hro] at hA
        obtain ⟨gH, c, hg1, hc1, hc2, hc3, hc4, hB⟩ := hA.row_open (e := 63) (size := 1) (ax := some ⟨bH, 0, none⟩) (cap := n + 1) (n := n + 1) (xs := flatH H) sZ (by omega)
        cases hg1
        clear hA; have hA := hB; clear hB
        have hcx : c[d.knot]? = some (.slice x.ha x.hs.length x.hc) := by have := cells_at (enc := Hs.cells) (size := 1) (fun _ => rfl) (c := c) (l := H) (by rw [hlh]; exact hc4) hx 0 (by omega); simpa [Hs.cells] using this
        have hsp := Lib.hid (split_at hx)
        have hB := outH hsp.out hA sZ
        clear hA; have hA := hB; clear hB
        simp only [Hs.v] at hA
        have hd' := Lib.hid hd
        have hx' := Lib.hid hx
        have ho' := Lib.hid ho
        have hlo' := Lib.hid hlo
        have hlh' := Lib.hid hlh
        have hc4' := Lib.hid hc4
        clear hd hx ho hlo hlh hc4 hrh hro
        (try simp only [uA] at hA); have hF := hA.facts; (try simp only [fZ] at hF)
        go_upto_region 5 with (first | ((with_reducible refine gal ?_); refine wA 100 (.agg #[.int .i64 0, .int .i64 0, .slice none 0 0, .int .i64 0, .int .i64 0, .bool false, .int .i64 0]) [.int .i64 0, .int .i64 0, .slice none 0 0, .int .i64 0, .int .i64 0, .bool false, .int .i64 0] hA ?_; clear hF hA; intro b7 w1 hA hb7; (try simp only [uA] at hA); have hF := hA.facts; (try simp only [fZ] at hF)) | ((with_reducible show wpList _ _ _ ({ dst := some 22, op := Op.load _ _, type := _, pos := _, after := _, guard := _ } :: _) _ _); refine wpList_loadRow_at (vs := [.int .i64 d.id.1, .int .i64 d.id.2, .slice d.na d.nx.length d.nc, .int .i64 d.low, .int .i64 d.num, .bool d.on, .int .i64 d.knot]) rfl rfl (by (try simp only [Act.eval, eV]) <;> exact rfl) hr2.out (by kernel_rfl) (by kernel_rfl) ?_) | ((with_reducible refine gst ?_); refine wS hA ?_; clear hF hA; intro w1 hA; (try simp only [uA] at hA); have hF := hA.facts; (try simp only [fZ] at hF)) | ((with_reducible refine gbx ?_); refine wB hA ?_; clear hF hA; intro b1 w1 hA hb1; (try simp only [uA] at hA); have hF := hA.facts; (try simp only [fZ] at hF)))
        go_frame
        go_cut [] from 23 to 34 (CutH w (.slice (some ⟨bn, 0, none⟩) N.length capn) (.slice (some ⟨bO, 0, none⟩) (n + 1) (n + 1)) (.slice (some ⟨bH, 0, none⟩) (n + 1) (n + 1)) N n b7 i d O H x.hs)
        case first =>
          try go_frame
          have hB := hA.drew
          clear hF hA; have hA := hB; clear hB
          refine wp_region_held (S := fun w' => BlockIs w' b7 [.int .i64 d.id.1, .int .i64 d.id.2, .slice d.na d.nx.length d.nc, .int .i64 d.low, .int .i64 d.num, .bool d.on, .int .i64 d.knot] 100) hm ?_
          change wpAnyH _ _ _ _ _ 13 _ _ (World.drew _)
          generalize World.drew _ = w2 at *
          have hS0 : (fun w' => BlockIs w' b7 [.int .i64 d.id.1, .int .i64 d.id.2, .slice d.na d.nx.length d.nc, .int .i64 d.low, .int .i64 d.num, .bool d.on, .int .i64 d.knot] 100) w2 := hA.get (A := Part.cells b7 [.int .i64 d.id.1, .int .i64 d.id.2, .slice d.na d.nx.length d.nc, .int .i64 d.low, .int .i64 d.num, .bool d.on, .int .i64 d.knot] 100) sZ
          refine tP 0 23 (.slice (some ⟨bH, 0, none⟩) (n + 1) (n + 1)) (s := hS0) (h := ?_)
          go_frame
          refine tP 1 24 (.pointer (some ⟨b7, 6, none⟩)) (s := hS0) (h := ?_)
          go_frame
          refine tZ 2 25 (.int .i64 d.knot) (r := (fun w' hS => run_load_one (ty := 3) (b := b7) (j := 6) rfl (by exact rfl) hS (by kernel_rfl) rfl)) (s := hS0) (h := ?_)
          go_frame
          refine tP 3 26 (.slice (some ⟨bH, 0, none⟩) (n + 1) (n + 1)) (s := hS0) (h := ?_)
          go_frame
          refine tP 4 27 (.pointer (some ⟨b7, 6, none⟩)) (s := hS0) (h := ?_)
          go_frame
          refine tZ 5 28 (.int .i64 d.knot) (r := (fun w' hS => run_load_one (ty := 3) (b := b7) (j := 6) rfl (by exact rfl) hS (by kernel_rfl) rfl)) (s := hS0) (h := ?_)
          go_frame
          refine tZ 6 29 (.pointer (some ⟨bH, d.knot, none⟩)) (r := (fun w' hS => by simp [execOp, go_sem, Act.eval, Act.put]; omega)) (s := hS0) (h := ?_)
          go_frame
          refine tP 8 31 (.int .i64 i) (s := hS0) (h := ?_)
          go_frame
          refine wpAnyH_two (i := 7) (j := 9) (by kernel_rfl) ?_ ?_
          · skip
            refine opLoad1_at (i := 7) (d := some 30) (b := bH) (j := d.knot) rfl rfl (by kernel_rfl) rfl (by exact rfl) hA sZ (by kernel_rfl) hcx ?_
            refine ⟨hS0, ?_⟩
            try go_frame
            refine wpAnyH_one (i := 9) (by kernel_rfl) ?_
            refine opOne_at (i := 9) (d := some 32) (e := 3) rfl rfl rfl rfl (by (try simp only [Act.eval, eV]) <;> exact rfl) (vs := [.int .i64 i]) (fun _ => by kernel_rfl) hA ?_
            intro b32 w1 hB
            have hS0 : BlockIs w1 b7 [.int .i64 d.id.1, .int .i64 d.id.2, .slice d.na d.nx.length d.nc, .int .i64 d.low, .int .i64 d.num, .bool d.on, .int .i64 d.knot] 100 := hB.get (A := Part.cells b7 [.int .i64 d.id.1, .int .i64 d.id.2, .slice d.na d.nx.length d.nc, .int .i64 d.low, .int .i64 d.num, .bool d.on, .int .i64 d.knot] 100) sZ
            clear hA; have hA := hB; clear hB
            refine ⟨hS0, ?_⟩
            try go_frame
            refine wpAnyH_one (i := 10) (by kernel_rfl) ?_
            refine opAppend_at (k := 10) (d := some 33) (e := 3) (size := 1) (v := .slice x.ha x.hs.length x.hc) (xs := intL x.hs) (n := x.hs.length) (m := 1) (news := [.int .i64 i]) rfl rfl rfl rfl _ _ 63 rfl Try.underlying63 hi2 hz6 hz7 hz8 rfl (by omega) hA sR (by (try simp only [Act.eval, eV]) <;> exact rfl) (by (try simp only [Act.eval, eV]) <;> exact rfl) rfl (hA.cells_reads sR _ _) (fun u hu => by rw [List.mem_singleton.1 hu]; rfl) (by have := hxl.out; unfold maxLen; omega) (by have := hxl.out; omega) ?_
            intro v33 w1 hB
            rw [rowX_snoc] at hB
            obtain ⟨ha2, kc2, hv33, ha2n, _, _⟩ := hB.row_form .here
            subst hv33
            have hS0 : BlockIs w1 b7 [.int .i64 d.id.1, .int .i64 d.id.2, .slice d.na d.nx.length d.nc, .int .i64 d.low, .int .i64 d.num, .bool d.on, .int .i64 d.knot] 100 := hB.get (A := Part.cells b7 [.int .i64 d.id.1, .int .i64 d.id.2, .slice d.na d.nx.length d.nc, .int .i64 d.low, .int .i64 d.num, .bool d.on, .int .i64 d.knot] 100) sZ
            clear hA; have hA := hB; clear hB
            refine ⟨hS0, ?_⟩
            try go_frame
            refine tZ 11 34 (.pointer (some ⟨bH, d.knot, none⟩)) (r := (fun w' hS => by simp [execOp, go_sem, Act.eval, Act.put]; omega)) (s := hS0) (h := ?_)
            go_frame
            refine wpAnyH_one (i := 12) (by kernel_rfl) ?_
            refine opStore_at (b := bH) (j := d.knot) (vs := [.slice ha2 (x.hs ++ [i]).length kc2]) rfl rfl (by kernel_rfl) rfl (by exact rfl) (by exact rfl) rfl hA sZ (by kernel_rfl) rfl (by show d.knot + 1 ≤ c.length; omega) ?_
            intro w3 hB
            have hS0 : BlockIs w3 b7 [.int .i64 d.id.1, .int .i64 d.id.2, .slice d.na d.nx.length d.nc, .int .i64 d.low, .int .i64 d.num, .bool d.on, .int .i64 d.knot] 100 := hB.get (A := Part.cells b7 [.int .i64 d.id.1, .int .i64 d.id.2, .slice d.na d.nx.length d.nc, .int .i64 d.low, .int .i64 d.num, .bool d.on, .int .i64 d.knot] 100) sZ
            clear hA; have hA := hB; clear hB
            refine ⟨hS0, ?_⟩
            try go_frame
            refine wpAnyH_done (by kernel_rfl) ?_ _
            try go_frame
            clear hS0
            have hw5 := write_part (enc := Hs.cells) (size := 1) (fun _ => rfl) (c := c) (l := H) (by rw [hlh'.out]; exact hc4'.out) (o := 0) (x' := (⟨ha2, kc2, x.hs ++ [i]⟩ : Hs)) (vs := [.slice ha2 (x.hs ++ [i]).length kc2]) hx'.out rfl (by show 0 + 1 ≤ 1; omega)
            rw [show d.knot * 1 + 0 = d.knot from by omega] at hw5
            obtain ⟨H1, hH1⟩ : ∃ z, H.set d.knot (⟨ha2, kc2, x.hs ++ [i]⟩ : Hs) = z := ⟨_, rfl⟩
            have hl1 : H1.length = n + 1 := by rw [← hH1, List.length_set, hlh'.out]
            rw [hH1, hlh'.out] at hw5
            have hB := hA.row_shut (e := 63) (size := 1) (g := bH) (n := n + 1) (cap := n + 1) (xs := flatH H1) sZ (by rw [setL_length]; exact hc3) (Nat.le_refl _) hc2 hw5
            have hsp2 : H1 = H.take d.knot ++ ⟨ha2, kc2, x.hs ++ [i]⟩ :: H.drop (d.knot + 1) := by rw [← hH1, set_at hx'.out]
            have hC := inH (d := ⟨ha2, kc2, x.hs ++ [i]⟩) hsp2 hB sZ sZ
            have hH1' := Lib.hid hH1
            clear hA hB hw5 hH1 hsp2
            have hA := hC
            clear hC
            go_wp2_with fail
            go_meet
            case rel => exact ⟨ha2, kc2, H1, fun e => by have := ha2n e; simp at this, hH1'.out, hA.pick pZ⟩
          · skip
            refine opOne_at (i := 9) (d := some 32) (e := 3) rfl rfl rfl rfl (by (try simp only [Act.eval, eV]) <;> exact rfl) (vs := [.int .i64 i]) (fun _ => by kernel_rfl) hA ?_
            intro b32 w1 hB
            have hS0 : BlockIs w1 b7 [.int .i64 d.id.1, .int .i64 d.id.2, .slice d.na d.nx.length d.nc, .int .i64 d.low, .int .i64 d.num, .bool d.on, .int .i64 d.knot] 100 := hB.get (A := Part.cells b7 [.int .i64 d.id.1, .int .i64 d.id.2, .slice d.na d.nx.length d.nc, .int .i64 d.low, .int .i64 d.num, .bool d.on, .int .i64 d.knot] 100) sZ
            clear hA; have hA := hB; clear hB
            refine ⟨hS0, ?_⟩
            try go_frame
            refine wpAnyH_one (i := 7) (by kernel_rfl) ?_
            refine opLoad1_at (i := 7) (d := some 30) (b := bH) (j := d.knot) rfl rfl (by kernel_rfl) rfl (by exact rfl) hA sZ (by kernel_rfl) hcx ?_
            refine ⟨hS0, ?_⟩
            try go_frame
            refine wpAnyH_one (i := 10) (by kernel_rfl) ?_
            refine opAppend_at (k := 10) (d := some 33) (e := 3) (size := 1) (v := .slice x.ha x.hs.length x.hc) (xs := intL x.hs) (n := x.hs.length) (m := 1) (news := [.int .i64 i]) rfl rfl rfl rfl _ _ 63 rfl Try.underlying63 hi2 hz6 hz7 hz8 rfl (by omega) hA sR (by (try simp only [Act.eval, eV]) <;> exact rfl) (by (try simp only [Act.eval, eV]) <;> exact rfl) rfl (hA.cells_reads sR _ _) (fun u hu => by rw [List.mem_singleton.1 hu]; rfl) (by have := hxl.out; unfold maxLen; omega) (by have := hxl.out; omega) ?_
            intro v33 w1 hB
            rw [rowX_snoc] at hB
            obtain ⟨ha2, kc2, hv33, ha2n, _, _⟩ := hB.row_form .here
            subst hv33
            have hS0 : BlockIs w1 b7 [.int .i64 d.id.1, .int .i64 d.id.2, .slice d.na d.nx.length d.nc, .int .i64 d.low, .int .i64 d.num, .bool d.on, .int .i64 d.knot] 100 := hB.get (A := Part.cells b7 [.int .i64 d.id.1, .int .i64 d.id.2, .slice d.na d.nx.length d.nc, .int .i64 d.low, .int .i64 d.num, .bool d.on, .int .i64 d.knot] 100) sZ
            clear hA; have hA := hB; clear hB
            refine ⟨hS0, ?_⟩
            try go_frame
            refine tZ 11 34 (.pointer (some ⟨bH, d.knot, none⟩)) (r := (fun w' hS => by simp [execOp, go_sem, Act.eval, Act.put]; omega)) (s := hS0) (h := ?_)
            go_frame
            refine wpAnyH_one (i := 12) (by kernel_rfl) ?_
            refine opStore_at (b := bH) (j := d.knot) (vs := [.slice ha2 (x.hs ++ [i]).length kc2]) rfl rfl (by kernel_rfl) rfl (by exact rfl) (by exact rfl) rfl hA sZ (by kernel_rfl) rfl (by show d.knot + 1 ≤ c.length; omega) ?_
            intro w3 hB
            have hS0 : BlockIs w3 b7 [.int .i64 d.id.1, .int .i64 d.id.2, .slice d.na d.nx.length d.nc, .int .i64 d.low, .int .i64 d.num, .bool d.on, .int .i64 d.knot] 100 := hB.get (A := Part.cells b7 [.int .i64 d.id.1, .int .i64 d.id.2, .slice d.na d.nx.length d.nc, .int .i64 d.low, .int .i64 d.num, .bool d.on, .int .i64 d.knot] 100) sZ
            clear hA; have hA := hB; clear hB
            refine ⟨hS0, ?_⟩
            try go_frame
            refine wpAnyH_done (by kernel_rfl) ?_ _
            try go_frame
            clear hS0
            have hw5 := write_part (enc := Hs.cells) (size := 1) (fun _ => rfl) (c := c) (l := H) (by rw [hlh'.out]; exact hc4'.out) (o := 0) (x' := (⟨ha2, kc2, x.hs ++ [i]⟩ : Hs)) (vs := [.slice ha2 (x.hs ++ [i]).length kc2]) hx'.out rfl (by show 0 + 1 ≤ 1; omega)
            rw [show d.knot * 1 + 0 = d.knot from by omega] at hw5
            obtain ⟨H1, hH1⟩ : ∃ z, H.set d.knot (⟨ha2, kc2, x.hs ++ [i]⟩ : Hs) = z := ⟨_, rfl⟩
            have hl1 : H1.length = n + 1 := by rw [← hH1, List.length_set, hlh'.out]
            rw [hH1, hlh'.out] at hw5
            have hB := hA.row_shut (e := 63) (size := 1) (g := bH) (n := n + 1) (cap := n + 1) (xs := flatH H1) sZ (by rw [setL_length]; exact hc3) (Nat.le_refl _) hc2 hw5
            have hsp2 : H1 = H.take d.knot ++ ⟨ha2, kc2, x.hs ++ [i]⟩ :: H.drop (d.knot + 1) := by rw [← hH1, set_at hx'.out]
            have hC := inH (d := ⟨ha2, kc2, x.hs ++ [i]⟩) hsp2 hB sZ sZ
            have hH1' := Lib.hid hH1
            clear hA hB hw5 hH1 hsp2
            have hA := hC
            clear hC
            go_wp2_with fail
            go_meet
            case rel => exact ⟨ha2, kc2, H1, fun e => by have := ha2n e; simp at this, hH1'.out, hA.pick pZ⟩
        case rest =>
          obtain ⟨ha2, kc2, H1, hha2, hH1, hB⟩ := hcut
          clear hA; have hA := hB; clear hB
          have hH1' := Lib.hid hH1
          have hha2' := Lib.hid hha2
          clear hH1 hha2
          obtain ⟨gO, cO, hg1, ho1, ho2, ho3, ho4, hB⟩ := hA.row_open (e := 101) (size := 1) (ax := some ⟨bO, 0, none⟩) (cap := n + 1) (n := n + 1) (xs := flatO O) sZ (by omega)
          cases hg1
          clear hA; have hA := hB; clear hB
          have hco : cO[d.knot]? = some (.map o.mb) := by have := cells_at (enc := Wt.cells) (size := 1) (fun _ => rfl) (c := cO) (l := O) (by rw [hlo'.out]; exact ho4) ho'.out 0 (by omega); simpa [Wt.cells] using this
          have ho4' := Lib.hid ho4
          clear ho4
          have hempty := Lib.hid ((hwt'.out.open_ _ _ ho'.out).2)
          obtain ⟨mb, ws⟩ := o
          have hspO := Lib.hid (split_at ho'.out)
          have hB := outO hspO.out hA sZ
          clear hA; have hA := hB; clear hB
          have hnq : ∀ w, (binOp .eql 101 (.map mb) (.map none)).run Try.prog w = .ok (.bool mb.isNone) w := fun w => nil_eqM mb w
          have hkI2 : (d.knot : Int) < (n : Int) + 1 := by omega
          (try simp only [uA] at hA); have hF := hA.facts; (try simp only [fZ] at hF)
          go_upto_if 40 with (first | ((with_reducible refine gst ?_); refine wS hA ?_; clear hF hA; intro w1 hA; (try simp only [uA] at hA); have hF := hA.facts; (try simp only [fZ] at hF)) | ((with_reducible refine gbx ?_); refine wB hA ?_; clear hF hA; intro b1 w1 hA hb1; (try simp only [uA] at hA); have hF := hA.facts; (try simp only [fZ] at hF)))
          try go_frame
          go_cut [] from 41 to 45 (CutO w (.slice (some ⟨bn, 0, none⟩) N.length capn) (.slice (some ⟨bO, 0, none⟩) (n + 1) (n + 1)) (.slice (some ⟨bH, 0, none⟩) (n + 1) (n + 1)) N n b7 d O H1 ws)
          case first =>
            cases mb with
            | none =>
              go_wp2_with (first | ((with_reducible refine gmm ?_); refine wpList_makeMap_at Try.prog 3 rfl rfl hA ?_; intro ms w1 hB hms; clear hF hA; have hA := hB; clear hB; (try simp only [uA] at hA); have hF := hA.facts; (try simp only [fZ] at hF)) | ((with_reducible show wpList _ _ _ ({ dst := none, op := Op.store _ (Operand.tmp 45) _, type := _, pos := _, after := _, guard := _ } :: _) _ _); refine wpList_store_at (b := bO) (j := d.knot) (c := cO) (vs := [.map (some ms)]) rfl rfl rfl (by (try simp only [Act.eval, eV]) <;> exact rfl) (by exact rfl) hA sZ (by kernel_rfl) rfl (by show d.knot + 1 ≤ cO.length; omega) ?_; intro w1 hB; clear hF hA; have hA := hB; clear hB; (try simp only [uA] at hA); have hF := hA.facts; (try simp only [fZ] at hF)) | ((with_reducible refine gst ?_); refine wS hA ?_; clear hF hA; intro w1 hA; (try simp only [uA] at hA); have hF := hA.facts; (try simp only [fZ] at hF)) | ((with_reducible refine gbx ?_); refine wB hA ?_; clear hF hA; intro b1 w1 hA hb1; (try simp only [uA] at hA); have hF := hA.facts; (try simp only [fZ] at hF)))
              go_meet
              case rel =>
                obtain rfl : ws = [] := hempty.out (by trivial)
                have hw := write_part (enc := Wt.cells) (size := 1) (fun _ => rfl) (c := cO) (l := O) (by rw [hlo'.out]; exact ho4'.out) (o := 0) (x' := (⟨some ms, []⟩ : Wt)) (vs := [.map (some ms)]) ho'.out rfl (by show 0 + 1 ≤ 1; omega)
                rw [show d.knot * 1 + 0 = d.knot from by omega] at hw
                simp only [uA] at hw
                obtain ⟨O1, hO1⟩ : ∃ z, O.set d.knot (⟨some ms, []⟩ : Wt) = z := ⟨_, rfl⟩
                rw [hO1, hlo'.out] at hw
                have hB := hA.row_shut (e := 101) (size := 1) (g := bO) (n := n + 1) (cap := n + 1) (xs := flatO O1) sZ (by rw [List.length_set]; exact ho3) (Nat.le_refl _) ho2 hw
                have hsp2 : O1 = O.take d.knot ++ ⟨some ms, []⟩ :: O.drop (d.knot + 1) := by rw [← hO1, set_at ho'.out]
                have hD := hB.take (A := Part.map Try.prog 3 ms []) sZ
                have hC := inO (d := ⟨some ms, []⟩) hsp2 hD .here sZ
                exact ⟨ms, O1, hO1, hC.pick pZ⟩
            | some bM =>
              go_wp2_with (first | ((with_reducible refine gst ?_); refine wS hA ?_; clear hF hA; intro w1 hA; (try simp only [uA] at hA); have hF := hA.facts; (try simp only [fZ] at hF)) | ((with_reducible refine gbx ?_); refine wB hA ?_; clear hF hA; intro b1 w1 hA hb1; (try simp only [uA] at hA); have hF := hA.facts; (try simp only [fZ] at hF)))
              go_meet
              case rel =>
                have hB := hA.row_shut (e := 101) (size := 1) (g := bO) (n := n + 1) (cap := n + 1) (xs := flatO O) sZ ho3 (Nat.le_refl _) ho2 ho4'.out
                have hC := inO (d := ⟨some bM, ws⟩) hspO.out hB sZ sZ
                exact ⟨bM, O, set_same ho'.out, hC.pick pZ⟩
          case rest =>
            obtain ⟨mm, O1, hO1, hB⟩ := hcut
            clear hA hco hnq; have hA := hB; clear hB
            have hlO1 : O1.length = n + 1 := by rw [← hO1, List.length_set, hlo'.out]
            have hO1k : O1[d.knot]? = some ⟨some mm, ws⟩ := by rw [← hO1]; exact set_get ho'.out
            have hO1' := Lib.hid hO1
            have hO1k' := Lib.hid hO1k
            have hlO1' := Lib.hid hlO1
            clear hO1 hO1k hlO1
            (try simp only [uA] at hA); have hF := hA.facts; (try simp only [fZ] at hF)
            go_wp2_with (first | ((with_reducible refine gst ?_); refine wS hA ?_; clear hF hA; intro w1 hA; (try simp only [uA] at hA); have hF := hA.facts; (try simp only [fZ] at hF)) | ((with_reducible refine gbx ?_); refine wB hA ?_; clear hF hA; intro b1 w1 hA hb1; (try simp only [uA] at hA); have hF := hA.facts; (try simp only [fZ] at hF)))
            try go_frame
            have hik2 : i + 1 + (gk - 1) = N.length := by omega
            have hGk : gk - 1 < gk := by omega
            obtain ⟨G, hG⟩ : ∃ G, gk - 1 = G := ⟨_, rfl⟩
            rw [hG] at hik2 hGk
            have hGk' := Lib.hid hGk
            have hik2' := Lib.hid hik2
            clear hG hik2 hGk hik
            go_loopg [49] d.nx.length (WiRel w (.slice (some ⟨bn, 0, none⟩) N.length capn) (.slice (some ⟨bO, 0, none⟩) (n + 1) (n + 1)) (.slice (some ⟨bH, 0, none⟩) (n + 1) (n + 1)) N n b7 d O1 H1 mm ws)
            case atStart => exact ⟨0, ws, rfl, by omega, fun z => by simp, by rw [set_same hO1k'.out]; exact hA.pick pZ⟩
            case round =>
              obtain ⟨j, ws1, rfl, hjk, hws, hB⟩ := hrel
              have hws' := Lib.hid hws
              clear hF hA hws; have hA := hB; clear hB
              by_cases hj : j < d.nx.length
              · skip
                obtain ⟨y, hy⟩ : ∃ y, d.nx[j]? = some y := ⟨_, List.getElem?_eq_getElem hj⟩
                have hyN : y < N.length := hn0.out i hi y (by unfold nxF; rw [hd'.out]; exact List.mem_of_getElem? hy)
                have hyI : (y : Int) < N.length := by omega
                obtain ⟨e, he⟩ : ∃ e, N[y]? = some e := ⟨_, List.getElem?_eq_getElem hyN⟩
                have hke := hk0.out y e he
                have hkf : knF N y = e.knot := by unfold knF; rw [he]
                have htk : d.nx.take (j + 1) = d.nx.take j ++ [y] := by rw [List.take_add_one, hy]; rfl
                have hspN := Lib.hid (split_at hd'.out)
                have hB := outX hspN.out hA sZ
                clear hA; have hA := hB; clear hB
                simp only [Nd.nv] at hA
                obtain ⟨bx, offx, hna, hcx0⟩ := row_elemG (enc := fun (k : Nat) => [Value.int .i64 (k : Int)]) (size := 1) (fun _ => rfl) (by omega) (l := d.nx) (x := y) (by rw [← intL_flat]; exact hA.row_reads (v := .slice d.na d.nx.length d.nc) (n := d.nx.length) (xs := intL d.nx) sZ) hy
                have hcx : wr.cell? ⟨bx, offx + j, none⟩ = some (.int .i64 y) := by have := hcx0 0 _ rfl; simpa using this
                have hna' := Lib.hid hna
                clear hna hcx0 hy
                obtain ⟨gn, c7, hg7, _, hm7, hl7, ht7, hB⟩ := hA.row_open (e := 100) (size := 7) (ax := some ⟨bn, 0, none⟩) (cap := capn) (n := N.length) (xs := flatN N) sZ (by omega)
                cases hg7
                clear hA; have hA := hB; clear hB
                have hce : c7[y * 7 + 6]? = some (.int .i64 e.knot) := cells_at Nd.cells_len ht7 he 6 (by omega)
                obtain ⟨gO2, c2, hg2, hm2, hn2, hl2, ht2, hB⟩ := hA.row_open (e := 101) (size := 1) (ax := some ⟨bO, 0, none⟩) (cap := n + 1) (n := n + 1) (xs := flatO O1) sZ (by omega)
                cases hg2
                clear hA; have hA := hB; clear hB
                have hc2m : c2[d.knot]? = some (.map (some mm)) := by have := cells_at (enc := Wt.cells) (size := 1) (fun _ => rfl) (c := c2) (l := O1) (by rw [hlO1'.out]; exact ht2) hO1k'.out 0 (by omega); simpa [Wt.cells] using this
                have hO2 : (O1.set d.knot (⟨some mm, ws1⟩ : Wt))[d.knot]? = some ⟨some mm, ws1⟩ := set_get hO1k'.out
                have hspW := Lib.hid (split_at hO2)
                have hB := outO hspW.out hA sZ
                simp only [Wt.part] at hB
                clear hA hO2; have hA := hB; clear hB
                have ht2' := Lib.hid ht2
                have ht7' := Lib.hid ht7
                have he' := Lib.hid he
                have hkf' := Lib.hid hkf
                have htk' := Lib.hid htk
                clear ht2 ht7 he hkf htk
                (try simp only [uA] at hA); have hF := hA.facts; (try simp only [fZ] at hF)
                by_cases hne : (e.knot : Int) = d.knot
                · skip
                  go_wp2_with (first | ((with_reducible show wpList _ _ _ ({ dst := some 51, op := _, type := _, pos := _, after := _, guard := _ } :: _) _ _); refine wpList_val (v := .pointer (some ⟨bx, offx + j, none⟩)) rfl (w' := wr) (by simp [execOp, go_sem, Act.eval, Act.put, hna'.out] <;> omega) ?_) | ((with_reducible refine gst ?_); refine wS hA ?_; clear hF hA; intro w1 hA; (try simp only [uA] at hA); have hF := hA.facts; (try simp only [fZ] at hF)) | ((with_reducible refine gbx ?_); refine wB hA ?_; clear hF hA; intro b1 w1 hA hb1; (try simp only [uA] at hA); have hF := hA.facts; (try simp only [fZ] at hF)))
                  try go_frame
                  (refine wp_region_all (Cl _ _ _) (by kernel_rfl) (by kernel_rfl) (Cl.drew hA) ?_); (have hn1 := Cl.none hA); (have hn2 := Cl.none2 hA); (repeat (first | go_big_quiet_skip | (go_big_quiet_want; (first | (refine quiet_load_at rfl rfl sR (by kernel_rfl) (by first | assumption | exact rfl) ?_; go_frame; go_big_quiet_on) | (go_big_quiet_op; (first | go_big_quiet_on | ((apply Exists.intro); (refine ⟨fun w1 hw => ?_, ?_⟩); (focus ((have hw := Cl.out hw); (fail))); (go_big_quiet_on))))))))
                  (refine wpQuiet_nil ?_); (intro w1 hB); (clear hF hA hn1 hn2); (have hA := Cl.out hB); (clear hB); (try simp only [uA] at hA); have hF := hA.facts; (try simp only [fZ] at hF)
                  go_wp2_with (first | ((with_reducible refine gst ?_); refine wS hA ?_; clear hF hA; intro w1 hA; (try simp only [uA] at hA); have hF := hA.facts; (try simp only [fZ] at hF)) | ((with_reducible refine gbx ?_); refine wB hA ?_; clear hF hA; intro b1 w1 hA hb1; (try simp only [uA] at hA); have hF := hA.facts; (try simp only [fZ] at hF)))
                  go_roundg (gk - 1)
                  case measure => omega
                  case rel =>
                    have hsp2 : O1.set d.knot (⟨some mm, ws1⟩ : Wt) = (O1.set d.knot (⟨some mm, ws1⟩ : Wt)).take d.knot ++ ⟨some mm, ws1⟩ :: (O1.set d.knot (⟨some mm, ws1⟩ : Wt)).drop (d.knot + 1) := by rw [← set_at (set_get hO1k'.out), set_set]
                    have hB := hA.row_shut (e := 101) (size := 1) (g := bO) (n := n + 1) (cap := n + 1) (xs := flatO O1) sZ hl2 (Nat.le_refl _) hn2 ht2'.out
                    have hC := hB.row_shut (e := 100) (size := 7) (g := bn) (n := N.length) (cap := capn) (xs := flatN N) sZ hl7 hcpn hm7 ht7'.out
                    have hD := inX (d := d) hspN.out hC sZ sZ
                    have hE := hD.take (A := Part.map Try.prog 3 mm (wsE ws1)) sZ
                    have hG := inO (d := ⟨some mm, ws1⟩) hsp2 hE .here sZ
                    refine ⟨j + 1, ws1, by simp, by omega, fun z => ?_, hG.pick pZ⟩
                    rw [htk'.out]
                    have := hws'.out z
                    constructor
                    · intro h
                      rcases this.1 h with h | ⟨q, hq, h1, h2⟩
                      · exact .inl h
                      · exact .inr ⟨q, List.mem_append_left _ hq, h1, h2⟩
                    · rintro (h | ⟨q, hq, h1, h2⟩)
                      · exact this.2 (.inl h)
                      · rcases List.mem_append.1 hq with hq | hq
                        · exact this.2 (.inr ⟨q, hq, h1, h2⟩)
                        · rw [List.mem_singleton.1 hq, hkf'.out] at h1
                          exact absurd (by omega) h2
                · skip
                  go_wp2_with (first | ((with_reducible show wpList _ _ _ ({ dst := some 51, op := _, type := _, pos := _, after := _, guard := _ } :: _) _ _); refine wpList_val (v := .pointer (some ⟨bx, offx + j, none⟩)) rfl (w' := wr) (by simp [execOp, go_sem, Act.eval, Act.put, hna'.out] <;> omega) ?_) | ((with_reducible refine gst ?_); refine wS hA ?_; clear hF hA; intro w1 hA; (try simp only [uA] at hA); have hF := hA.facts; (try simp only [fZ] at hF)) | ((with_reducible refine gbx ?_); refine wB hA ?_; clear hF hA; intro b1 w1 hA hb1; (try simp only [uA] at hA); have hF := hA.facts; (try simp only [fZ] at hF)))
                  try go_frame
                  (refine wp_region_all (Cl _ _ _) (by kernel_rfl) (by kernel_rfl) (Cl.drew hA) ?_); (have hn1 := Cl.none hA); (have hn2 := Cl.none2 hA); (repeat (first | go_big_quiet_skip | (go_big_quiet_want; (first | (refine quiet_load_at rfl rfl sR (by kernel_rfl) (by first | assumption | exact rfl) ?_; go_frame; go_big_quiet_on) | (go_big_quiet_op; (first | go_big_quiet_on | ((apply Exists.intro); (refine ⟨fun w1 hw => ?_, ?_⟩); (focus ((have hw := Cl.out hw); (fail))); (go_big_quiet_on))))))))
                  (refine wpQuiet_nil ?_); (intro w1 hB); (clear hF hA hn1 hn2); (have hA := Cl.out hB); (clear hB); (try simp only [uA] at hA); have hF := hA.facts; (try simp only [fZ] at hF)
                  go_wp2_with (first | ((with_reducible refine gst ?_); refine wS hA ?_; clear hF hA; intro w1 hA; (try simp only [uA] at hA); have hF := hA.facts; (try simp only [fZ] at hF)) | ((with_reducible refine gbx ?_); refine wB hA ?_; clear hF hA; intro b1 w1 hA hb1; (try simp only [uA] at hA); have hF := hA.facts; (try simp only [fZ] at hF)))
                  try go_frame
                  (refine wp_region_head 10 (Cl _ _ _) (by kernel_rfl) (by kernel_rfl) (Cl.drew hA) ?_); (simp only [List.take_succ_cons, List.take_zero, List.drop_succ_cons, List.drop_zero]); (have hn1 := Cl.none hA); (have hn2 := Cl.none2 hA); (repeat (first | go_big_quiet_skip | (go_big_quiet_want; (first | (refine quiet_load_at rfl rfl sR (by kernel_rfl) (by first | assumption | exact rfl) ?_; go_frame; go_big_quiet_on) | (go_big_quiet_op; (first | go_big_quiet_on | ((apply Exists.intro); (refine ⟨fun w1 hw => ?_, ?_⟩); (focus ((have hw := Cl.out hw); (fail))); (go_big_quiet_on))))))))
                  (refine wpQuiet_nil ?_); (intro w1 hB); (clear hF hA hn1 hn2); (have hA := Cl.out hB); (clear hB); (try simp only [uA] at hA); have hF := hA.facts; (try simp only [fZ] at hF)
                  obtain ⟨kl, hkl⟩ := keyN (k := e.knot) (by omega)
                  by_cases hz0 : e.knot ∈ ws1
                  · skip
                    have hz := Lib.hid hz0
                    clear hz0
                    obtain ⟨l1, l2, hl12⟩ := wsE_yes hz.out
                    rw [hl12] at hA
                    have hl12' := Lib.hid hl12
                    clear hl12
                    (try simp only [uA] at hA); have hF := hA.facts; (try simp only [fZ] at hF)
                    go_wp2_with (first | ((with_reducible refine gmu ?_); refine wpList_put_there_at (b := mm) (key := .int .i64 e.knot) (val := .int .i64 1) (u := .int .i64 1) (l1 := l1) (l2 := l2) rfl rfl (by (try simp only [Act.eval, eV]) <;> exact rfl) (by (try simp only [Act.eval, eV]) <;> exact rfl) (by (try simp only [Act.eval, eV]) <;> exact rfl) hA sR lawN Try.underlying101 hkl ?_; intro w1 hB; rw [← hl12'.out] at hB; clear hF hA; have hA := hB; clear hB; (try simp only [uA] at hA); have hF := hA.facts; (try simp only [fZ] at hF)) | ((with_reducible refine gst ?_); refine wS hA ?_; clear hF hA; intro w1 hA; (try simp only [uA] at hA); have hF := hA.facts; (try simp only [fZ] at hF)) | ((with_reducible refine gbx ?_); refine wB hA ?_; clear hF hA; intro b1 w1 hA hb1; (try simp only [uA] at hA); have hF := hA.facts; (try simp only [fZ] at hF)))
                    go_roundg (gk - 1)
                    case measure => omega
                    case rel =>
                      have hsp2 : O1.set d.knot (⟨some mm, ws1⟩ : Wt) = (O1.set d.knot (⟨some mm, ws1⟩ : Wt)).take d.knot ++ ⟨some mm, ws1⟩ :: (O1.set d.knot (⟨some mm, ws1⟩ : Wt)).drop (d.knot + 1) := by rw [← set_at (set_get hO1k'.out), set_set]
                      have hB := hA.row_shut (e := 101) (size := 1) (g := bO) (n := n + 1) (cap := n + 1) (xs := flatO O1) sZ hl2 (Nat.le_refl _) hn2 ht2'.out
                      have hC := hB.row_shut (e := 100) (size := 7) (g := bn) (n := N.length) (cap := capn) (xs := flatN N) sZ hl7 hcpn hm7 ht7'.out
                      have hD := inX (d := d) hspN.out hC sZ sZ
                      have hE := hD.take (A := Part.map Try.prog 3 mm (wsE ws1)) sZ
                      have hG := inO (d := ⟨some mm, ws1⟩) hsp2 hE .here sZ
                      refine ⟨j + 1, ws1, by simp, by omega, fun z => ?_, hG.pick pZ⟩
                      rw [htk'.out]
                      have := hws'.out z
                      constructor
                      · intro h
                        rcases this.1 h with h | ⟨q, hq, h1, h2⟩
                        · exact .inl h
                        · exact .inr ⟨q, List.mem_append_left _ hq, h1, h2⟩
                      · rintro (h | ⟨q, hq, h1, h2⟩)
                        · exact this.2 (.inl h)
                        · rcases List.mem_append.1 hq with hq | hq
                          · exact this.2 (.inr ⟨q, hq, h1, h2⟩)
                          · rw [List.mem_singleton.1 hq, hkf'.out] at h1
                            exact h1 ▸ hz.out
                  · skip
                    have hz := Lib.hid hz0
                    clear hz0
                    go_wp2_with (first | ((with_reducible refine gmu ?_); refine wpList_put_new_at (b := mm) (key := .int .i64 e.knot) (val := .int .i64 1) (es := wsE ws1) rfl rfl (by (try simp only [Act.eval, eV]) <;> exact rfl) (by (try simp only [Act.eval, eV]) <;> exact rfl) (by (try simp only [Act.eval, eV]) <;> exact rfl) hA sR lawN Try.underlying101 hkl (wsE_no hz.out) ?_; intro w1 hB; rw [wsE_snoc] at hB; clear hF hA; have hA := hB; clear hB; (try simp only [uA] at hA); have hF := hA.facts; (try simp only [fZ] at hF)) | ((with_reducible refine gst ?_); refine wS hA ?_; clear hF hA; intro w1 hA; (try simp only [uA] at hA); have hF := hA.facts; (try simp only [fZ] at hF)) | ((with_reducible refine gbx ?_); refine wB hA ?_; clear hF hA; intro b1 w1 hA hb1; (try simp only [uA] at hA); have hF := hA.facts; (try simp only [fZ] at hF)))
                    go_roundg (gk - 1)
                    case measure => omega
                    case rel =>
                      have hsp2 : O1.set d.knot (⟨some mm, (ws1 ++ [e.knot])⟩ : Wt) = (O1.set d.knot (⟨some mm, ws1⟩ : Wt)).take d.knot ++ ⟨some mm, (ws1 ++ [e.knot])⟩ :: (O1.set d.knot (⟨some mm, ws1⟩ : Wt)).drop (d.knot + 1) := by rw [← set_at (set_get hO1k'.out), set_set]
                      have hB := hA.row_shut (e := 101) (size := 1) (g := bO) (n := n + 1) (cap := n + 1) (xs := flatO O1) sZ hl2 (Nat.le_refl _) hn2 ht2'.out
                      have hC := hB.row_shut (e := 100) (size := 7) (g := bn) (n := N.length) (cap := capn) (xs := flatN N) sZ hl7 hcpn hm7 ht7'.out
                      have hD := inX (d := d) hspN.out hC sZ sZ
                      have hE := hD.take (A := Part.map Try.prog 3 mm (wsE (ws1 ++ [e.knot]))) sZ
                      have hG := inO (d := ⟨some mm, (ws1 ++ [e.knot])⟩) hsp2 hE .here sZ
                      refine ⟨j + 1, (ws1 ++ [e.knot]), by simp, by omega, fun z => ?_, hG.pick pZ⟩
                      rw [htk'.out]
                      rw [List.mem_append, List.mem_singleton]
                      have := hws'.out z
                      constructor
                      · rintro (h | h)
                        · rcases this.1 h with h | ⟨q, hq, h1, h2⟩
                          · exact .inl h
                          · exact .inr ⟨q, List.mem_append_left _ hq, h1, h2⟩
                        · exact .inr ⟨y, List.mem_append_right _ (by simp), by rw [hkf'.out, h], by omega⟩
                      · rintro (h | ⟨q, hq, h1, h2⟩)
                        · exact .inl (this.2 (.inl h))
                        · rcases List.mem_append.1 hq with hq | hq
                          · exact .inl (this.2 (.inr ⟨q, hq, h1, h2⟩))
                          · rw [List.mem_singleton.1 hq, hkf'.out] at h1
                            exact .inr h1.symm
              · skip
                have hj2 : j = d.nx.length := by omega
                subst hj2
                (try simp only [uA] at hA); have hF := hA.facts; (try simp only [fZ] at hF)
                go_wp2_with (first | ((with_reducible refine gst ?_); refine wS hA ?_; clear hF hA; intro w1 hA; (try simp only [uA] at hA); have hF := hA.facts; (try simp only [fZ] at hF)) | ((with_reducible refine gbx ?_); refine wB hA ?_; clear hF hA; intro b1 w1 hA hb1; (try simp only [uA] at hA); have hF := hA.facts; (try simp only [fZ] at hF)))
                go_roundg G
                case measure => exact hGk'.out
                case rel =>
                  have hwt2 := wt_step (ws1 := ws1) (ha2 := ha2) (kc2 := kc2) (mm := mm) hwt'.out hd'.out hx'.out ho'.out (fun z => by rw [hws'.out z, List.take_of_length_le (Nat.le_refl _)]) hha2'.out
                  have e1 : O1.set d.knot ⟨some mm, ws1⟩ = O.set d.knot ⟨some mm, ws1⟩ := by rw [← hO1'.out, set_set]
                  have e2 := flatO_set hO1k'.out ws1
                  have hl2 : (O.set d.knot (⟨some mm, ws1⟩ : Wt)).length = n + 1 := by rw [List.length_set, hlo'.out]
                  have hl3 : H1.length = n + 1 := by rw [← hH1'.out, List.length_set, hlh'.out]
                  rw [hH1'.out] at hwt2
                  rw [← e2, e1] at hA
                  refine ⟨i + 1, O.set d.knot ⟨some mm, ws1⟩, H1, by simp, hik2'.out, hwt2, ?_⟩
                  unfold rowO rowH
                  rw [hl2, hl3]
                  exact hA.pick pZ
      · skip
        have hi2 : i = N.length := by omega
        subst hi2
        (try simp only [uA] at hA); have hF := hA.facts; (try simp only [fZ] at hF)
        go_wp2_with (first | ((with_reducible refine gst ?_); refine wS hA ?_; clear hF hA; intro w1 hA; (try simp only [uA] at hA); have hF := hA.facts; (try simp only [fZ] at hF)) | ((with_reducible refine gbx ?_); refine wB hA ?_; clear hF hA; intro b1 w1 hA hb1; (try simp only [uA] at hA); have hF := hA.facts; (try simp only [fZ] at hF)))
        refine bodyPost_ret (v := .tuple #[.slice (some ⟨bO, 0, none⟩) (n + 1) (n + 1), .slice (some ⟨bH, 0, none⟩) (n + 1) (n + 1)]) (by simp [results, Try.results44, go_sem]) rfl ?_
        exact ⟨_, _, O, H, rfl, hwt'.out, hA.pick pZ⟩
end Go.Proofs.Ytgicohkmfbbbdaa.Gr
end
