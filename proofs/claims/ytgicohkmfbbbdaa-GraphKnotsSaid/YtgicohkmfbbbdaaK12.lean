/- GraQ, GraT, joined. -/
import Derived.Test.YtgicohkmfbbbdaaK11
import Derived.Deep.LoopGhost
section
namespace Go.Proofs.Ytgicohkmfbbbdaa.Gr
open _root_.Go.Proofs.Ytgicohkmfbbbdaa.Mark (ltID sortID)
open Go.RowKit
open Go.Maps (Keyed)
open Attr (A8 rightI thro)
set_option linter.unusedSimpArgs false
set_option linter.unusedVariables false
attribute [-go_sem] run_eql_struct run_neq_struct run_eqGuard_agg

section
variable {P : Program} {ops : Array Oper} {rest : List Oper} {a : Act} {Q : Exit → Act → World → Prop} {w : World}
theorem gms {d t p af g x y u} (h : wpList P ops Q ({ dst := d, op := .makeSlice u x y, type := t, pos := p, after := af, guard := g } :: rest) a w) : wpList P ops Q ({ dst := d, op := .makeSlice u x y, type := t, pos := p, after := af, guard := g } :: rest) a w := h
end
theorem cloIn {L0 L F G : List Part} {w0 w : World} {b3 p m : Nat} {es : List (I2 × A8)} (h : At L0 w0 L w) (s1 : Sel (Part.cells b3 [.pointer (some ⟨p, 0, none⟩)] 27) L F) (s2 : Sel (GrP p m es) F G) : At L0 w0 (cloP b3 p m es :: G) w :=
  (h.perm (s1.perm.trans (s2.perm.cons _))).to (clo_eqv b3 p m es G).symm
theorem cloOut {L0 L F : List Part} {w0 w : World} {b3 p m : Nat} {es : List (I2 × A8)} (h : At L0 w0 L w) (s : Sel (cloP b3 p m es) L F) : At L0 w0 (Part.cells b3 [.pointer (some ⟨p, 0, none⟩)] 27 :: GrP p m es :: F) w := (h.take s).to (clo_eqv b3 p m es F)
theorem not_in_take {l : List I2} (h : l.Pairwise ltID) {i : Nat} {x : I2} (hx : l[i]? = some x) : x ∉ l.take i := by
  intro hm
  obtain ⟨hi, rfl⟩ := List.getElem?_eq_some_iff.1 hx
  obtain ⟨j, hj, e⟩ := List.mem_iff_getElem.1 hm
  rw [List.length_take] at hj
  rw [List.getElem_take] at e
  have := List.pairwise_iff_getElem.1 h j i (by omega) hi (by omega)
  rw [e] at this
  exact lt_irr this
/-- a node that is done -/
def DoneN (es : List (I2 × A8)) (f : F7) (Lk : List I2) (x : I2) (d : Nd) : Prop := d.id = x ∧ d.nx = nextP Lk (leadsG es f x) ∧ d.low = 0 ∧ d.num = 0 ∧ d.on = false ∧ d.knot = 0
def NoRel (w : World) (p m b3 b4 : Nat) (es : List (I2 × A8)) (f : F7) (R : Part) (v3 : Value) (Lk : List I2) (ms : Nat) (k : Nat) (u : Value) (wr : World) : Prop :=
  ∃ i : Nat, u = .int .i64 i ∧ i + k = Lk.length ∧ At [R, GrP p m es] w [mapC ms (placeE (Lk.take i)), rowI2 v3 Lk, Part.cells b3 [.pointer (some ⟨p, 0, none⟩)] 27, GrP p m es, Part.cells b4 [.int .i64 f.f0, .int .i64 f.f1, .int .i64 f.f2, .int .i64 f.f3, .int .i64 f.f4, .int .i64 f.f5, .int .i64 f.f6] 24, R] wr
def NpRel (w : World) (p m b3 b4 bN : Nat) (es : List (I2 × A8)) (f : F7) (R : Part) (v3 : Value) (Lk : List I2) (ms : Nat) (k : Nat) (u : Value) (wr : World) : Prop :=
  ∃ (i : Nat) (N : List Nd), u = .int .i64 i ∧ i + k = Lk.length ∧ N.length = Lk.length ∧ (∀ j, j < i → ∀ x, Lk[j]? = some x → ∃ d, N[j]? = some d ∧ DoneN es f Lk x d) ∧ (∀ j, i ≤ j → j < Lk.length → N[j]? = some zeroN) ∧
    At [R, GrP p m es] w [Part.row 100 7 (.slice (some ⟨bN, 0, none⟩) Lk.length Lk.length) Lk.length (flatN N), restX N, mapC ms (placeE Lk), rowI2 v3 Lk, Part.cells b3 [.pointer (some ⟨p, 0, none⟩)] 27, GrP p m es, Part.cells b4 [.int .i64 f.f0, .int .i64 f.f1, .int .i64 f.f2, .int .i64 f.f3, .int .i64 f.f4, .int .i64 f.f5, .int .i64 f.f6] 24, R] wr
def NqRel (w : World) (p m b3 b4 bN : Nat) (es : List (I2 × A8)) (f : F7) (R : Part) (v3 : Value) (Lk : List I2) (ms : Nat) (vl : Value) (ls : List I2) (i : Nat) (N0 : List Nd) (x : I2) (k : Nat) (u : Value) (wr : World) : Prop :=
  ∃ (j : Nat) (na : Option Addr) (nc : Nat), u = .int .i64 j ∧ j + k = ls.length ∧
    At [R, GrP p m es] w [Part.row 100 7 (.slice (some ⟨bN, 0, none⟩) Lk.length Lk.length) Lk.length (flatN (N0.set i ⟨x, na, nc, nextP Lk (ls.take j), 0, 0, false, 0⟩)), restX (N0.set i ⟨x, na, nc, nextP Lk (ls.take j), 0, 0, false, 0⟩), rowI2 vl ls, mapC ms (placeE Lk), rowI2 v3 Lk, Part.cells b3 [.pointer (some ⟨p, 0, none⟩)] 27, GrP p m es, Part.cells b4 [.int .i64 f.f0, .int .i64 f.f1, .int .i64 f.f2, .int .i64 f.f3, .int .i64 f.f4, .int .i64 f.f5, .int .i64 f.f6] 24, R] wr
theorem set_same {α : Type} {l : List α} {i : Nat} {x : α} (h : l[i]? = some x) : l.set i x = l := by
  obtain ⟨hi, rfl⟩ := List.getElem?_eq_some_iff.1 h
  exact List.set_getElem_self hi
theorem set_get {α : Type} {l : List α} {i : Nat} {x y : α} (h : l[i]? = some x) : (l.set i y)[i]? = some y := List.getElem?_set_self (List.getElem?_eq_some_iff.1 h).1
theorem set_set {α : Type} (l : List α) (i : Nat) (x y : α) : (l.set i x).set i y = l.set i y := List.set_set ..
theorem nextP_len (l ls : List I2) : (nextP l ls).length ≤ ls.length := List.length_filterMap_le _ _
theorem restX_set {L : List Nd} {i : Nat} {d d' : Nd} (h : L[i]? = some d) (e : (d'.na, d'.nc, d'.nx) = (d.na, d.nc, d.nx)) : restX (L.set i d') = restX L := by
  refine restX_congr ?_
  rw [List.map_set, e]
  exact set_same (by rw [List.getElem?_map, h]; rfl)
theorem rowN_len {L0 F : List Part} {w0 w : World} {v : Value} {n : Nat} {N : List Nd} (hn : N.length = n) (h : At L0 w0 (Part.row 100 7 v n (N.flatMap Nd.cells) :: F) w) : At L0 w0 (rowNd v N :: F) w := by
  subst hn; exact h
def NodesPost (p m : Nat) (es : List (I2 × A8)) (f : F7) (R : Part) (l : List I2) (w : World) (e : Ending) (w' : World) : Prop :=
  ∃ (u : Value) (N : List Nd), e = .returned u ∧ N.length = (dd (sortID (keepF (lackF es) l))).length ∧ (∀ (j : Nat) x, (dd (sortID (keepF (lackF es) l)))[j]? = some x → ∃ d, N[j]? = some d ∧ DoneN es f (dd (sortID (keepF (lackF es) l))) x d) ∧
    At [R, GrP p m es] w [rowNd u N, restX N, R, GrP p m es] w'
set_option maxRecDepth 100000 in
set_option maxHeartbeats 4000000 in
theorem nodes_any {w : World} {R : Part} {v : Value} {l : List I2} {p m : Nat} {es : List (I2 × A8)} (h : Sep [R, GrP p m es] w) (hr : ReadsIn R v l) (hl : l.length ≤ 1000) (hok : ∀ x ∈ l, okD x) (f : F7) (hd : Deps es) :
    Calls Try.prog 42 #[.pointer (some ⟨p, 0, none⟩), f.val, v] w (NodesPost p m es f R l w) := by
  obtain ⟨i0, hi0, hz0, hz1, hz2⟩ := info_parts infoNd
  obtain ⟨i1, hi1, hz3, hz4, hz5⟩ := info_parts infoX
  have hA := At.start h
  have hF := hA.facts
  have hd0 := Lib.hid hd
  clear h hd
  simp only [F7.val] at *
  (try simp only [uA] at hA); have hF := hA.facts; (try simp only [fZ] at hF)
  go_enter Try.func42, Try.ntmps42
  go_wp2_with (first | ((with_reducible refine gbx ?_); refine wB (E := 27) hA ?_; clear hF hA; intro b3 w1 hA hb3; (try simp only [uA] at hA); have hF := hA.facts; (try simp only [fZ] at hF)) | ((with_reducible refine gbx ?_); refine wX 24 (.agg #[.int .i64 f.f0, .int .i64 f.f1, .int .i64 f.f2, .int .i64 f.f3, .int .i64 f.f4, .int .i64 f.f5, .int .i64 f.f6]) [.int .i64 f.f0, .int .i64 f.f1, .int .i64 f.f2, .int .i64 f.f3, .int .i64 f.f4, .int .i64 f.f5, .int .i64 f.f6] hA ?_; clear hF hA; intro b4 w1 hA hb4; (try simp only [uA] at hA); have hF := hA.facts; (try simp only [fZ] at hF)) | ((with_reducible refine gst ?_); refine wS hA ?_; clear hF hA; intro w1 hA; (try simp only [uA] at hA); have hF := hA.facts; (try simp only [fZ] at hF)) | ((with_reducible refine gbx ?_); refine wB hA ?_; clear hF hA; intro b1 w1 hA hb1; (try simp only [uA] at hA); have hF := hA.facts; (try simp only [fZ] at hF)))
  refine (clone_any (hA.sep1 (A := R) sZ) hr (by omega)).mono ?_
  rintro e w1 ⟨v1, rfl, hT⟩
  have hB := hA.call1 (A := R) sZ hT
  clear hF hA hT; have hA := hB; clear hB
  simp only [List.cons_append, List.nil_append] at hA
  (try simp only [uA] at hA); have hF := hA.facts; (try simp only [fZ] at hF)
  go_wp2_with (first | ((with_reducible refine gst ?_); refine wS hA ?_; clear hF hA; intro w1 hA; (try simp only [uA] at hA); have hF := hA.facts; (try simp only [fZ] at hF)) | ((with_reducible refine gbx ?_); refine wB hA ?_; clear hF hA; intro b1 w1 hA hb1; (try simp only [uA] at hA); have hF := hA.facts; (try simp only [fZ] at hF)))
  have hB := cloIn hA sZ sZ
  clear hF hA; have hA := hB; clear hB
  (try simp only [uA] at hA); have hF := hA.facts; (try simp only [fZ] at hF)
  refine (delf_clo (b3 := b3) (p := p) (m := m) (es := es) (hA.sep2 (A := rowI2 v1 l) (B := cloP b3 p m es) sZ sZ) hok (by omega)).mono ?_
  rintro e w1 ⟨v2, rfl, hT⟩
  have hB := hA.call2 (A := rowI2 v1 l) (B := cloP b3 p m es) sZ sZ hT
  clear hF hA hT; have hA := hB; clear hB
  simp only [List.cons_append, List.nil_append] at hA
  have hB := cloOut hA sZ
  clear hA; have hA := hB; clear hB
  (try simp only [uA] at hA); have hF := hA.facts; (try simp only [fZ] at hF)
  have hk1 : (keepF (lackF es) l).length ≤ l.length := List.length_filter_le _ _
  have hk3 : (sortID (keepF (lackF es) l)).length = (keepF (lackF es) l).length := Mark.sort_len _
  have hk2 := dd_len (sortID (keepF (lackF es) l))
  have hokL : ∀ x ∈ dd (sortID (keepF (lackF es) l)), okD x := fun x hx => hok x (List.mem_filter.1 (sort_mem.1 (dd_mem.1 hx))).1
  have hok' := Lib.hid hokL
  have hst := Lib.hid (dd_strict (sort_pair (keepF (lackF es) l)))
  clear hokL hok
  go_wp2_with (first | ((with_reducible refine gst ?_); refine wS hA ?_; clear hF hA; intro w1 hA; (try simp only [uA] at hA); have hF := hA.facts; (try simp only [fZ] at hF)) | ((with_reducible refine gbx ?_); refine wB hA ?_; clear hF hA; intro b1 w1 hA hb1; (try simp only [uA] at hA); have hF := hA.facts; (try simp only [fZ] at hF)))
  refine (sort_row (hA.sep1 (A := rowI2 v2 (keepF (lackF es) l)) sZ) (by omega)).mono ?_
  rintro e w1 ⟨rfl, hT⟩
  have hB := hA.call1 (A := rowI2 v2 (keepF (lackF es) l)) sZ hT
  clear hF hA hT; have hA := hB; clear hB
  simp only [List.cons_append, List.nil_append] at hA
  (try simp only [uA] at hA); have hF := hA.facts; (try simp only [fZ] at hF)
  go_wp2_with (first | ((with_reducible refine gst ?_); refine wS hA ?_; clear hF hA; intro w1 hA; (try simp only [uA] at hA); have hF := hA.facts; (try simp only [fZ] at hF)) | ((with_reducible refine gbx ?_); refine wB hA ?_; clear hF hA; intro b1 w1 hA hb1; (try simp only [uA] at hA); have hF := hA.facts; (try simp only [fZ] at hF)))
  refine (compact_any (hA.sep1 (A := rowI2 v2 (sortID (keepF (lackF es) l))) sZ) (by omega)).mono ?_
  rintro e w1 ⟨v3, rfl, hT⟩
  have hB := hA.call1 (A := rowI2 v2 (sortID (keepF (lackF es) l))) sZ hT
  clear hF hA hT; have hA := hB; clear hB
  simp only [List.cons_append, List.nil_append] at hA
  (try simp only [uA] at hA); have hF := hA.facts; (try simp only [fZ] at hF)
  generalize hLk : dd (sortID (keepF (lackF es) l)) = Lk at *
  have hn : Lk.length ≤ 1000 := by omega
  clear hk1 hk2 hk3
  have hLk' := Lib.hid hLk
  clear hLk
  obtain ⟨ax, cap, hv3, hax, hcp, _⟩ := hA.row_form (e := 38) (size := 2) (n := Lk.length) (v := v3) (xs := flatI Lk) sZ
  have hax' := Lib.hid hax
  have hv3' := Lib.hid hv3
  clear hax
  subst hv3
  clear hv3'
  go_wp2_with (first | ((with_reducible refine gmm ?_); refine wpList_makeMap_at Try.prog 38 rfl rfl hA ?_; intro ms w1 hB hms; clear hF hA; have hA := hB; clear hB; (try simp only [uA] at hA); have hF := hA.facts; (try simp only [fZ] at hF)) | ((with_reducible refine gst ?_); refine wS hA ?_; clear hF hA; intro w1 hA; (try simp only [uA] at hA); have hF := hA.facts; (try simp only [fZ] at hF)) | ((with_reducible refine gbx ?_); refine wB hA ?_; clear hF hA; intro b1 w1 hA hb1; (try simp only [uA] at hA); have hF := hA.facts; (try simp only [fZ] at hF)))
  try go_frame
  go_loopg [28] Lk.length (NoRel w p m b3 b4 es f R (.slice ax Lk.length cap) Lk ms)
  case atStart => exact ⟨0, rfl, by simp, hA.pick pZ⟩
  case round =>
    obtain ⟨i, rfl, hik, hB⟩ := hrel
    clear hF hA; have hA := hB; clear hB
    by_cases hi : i < Lk.length
    · skip
      obtain ⟨x, hxi⟩ : ∃ x, Lk[i]? = some x := ⟨_, List.getElem?_eq_getElem hi⟩
      have hxi' := Lib.hid hxi
      obtain ⟨kl1, hk1⟩ := keyI (hok'.out x (List.mem_of_getElem? hxi))
      have hni := Lib.hid (show x ∉ Lk.take i from not_in_take hst.out hxi)
      have hps := place_snoc (Lk.take i) x
      have htk : Lk.take i ++ [x] = Lk.take (i + 1) := by rw [List.take_add_one, hxi]; rfl
      rw [htk, List.length_take, Nat.min_eq_left (by omega)] at hps
      have hrr := row_elem (hA.row_reads (v := .slice ax Lk.length cap) (n := Lk.length) (xs := flatI Lk) sZ) hxi
      clear hxi htk
      obtain ⟨r1, t1⟩ := x
      obtain ⟨bt, offt, hax2, hce⟩ := hrr
      have hr2' := Lib.hid (show ∀ (k : Nat) u, ([.int .i64 r1, .int .i64 t1] : List Value)[k]? = some u → wr.cell? ⟨bt, offt + i * 2 + k, none⟩ = some u from hce)
      clear hce
      subst hax2
      simp only [idV] at hk1 hps
      (try simp only [uA] at hA); have hF := hA.facts; (try simp only [fZ] at hF)
      go_wp2_with (first | ((with_reducible refine gal ?_); refine wA 38 (.agg #[.int .i64 0, .int .i64 0]) [.int .i64 0, .int .i64 0] hA ?_; clear hF hA; intro b9 w1 hA hb9; (try simp only [uA] at hA); have hF := hA.facts; (try simp only [fZ] at hF)) | ((with_reducible show wpList _ _ _ ({ dst := some 32, op := Op.load _ _, type := _, pos := _, after := _, guard := _ } :: _) _ _); refine wpList_loadRow_at (vs := [.int .i64 r1, .int .i64 t1]) rfl rfl (by (try simp only [Act.eval, eV]) <;> exact rfl) hr2'.out (by kernel_rfl) (by kernel_rfl) ?_) | ((with_reducible refine gmu ?_); refine wpList_put_new_at (b := ms) (key := .agg #[.int .i64 r1, .int .i64 t1]) (val := .int .i64 i) (es := placeE (Lk.take i)) rfl rfl (by (try simp only [Act.eval, eV]) <;> exact rfl) (by (try simp only [Act.eval, eV]) <;> exact rfl) (by (try simp only [Act.eval, eV]) <;> exact rfl) hA sR lawI Try.underlying85 hk1 (place_no hni.out) ?_; intro w1 hB; rw [hps] at hB; clear hF hA; have hA := hB; clear hB; (try simp only [uA] at hA); have hF := hA.facts; (try simp only [fZ] at hF)) | ((with_reducible refine gst ?_); refine wS hA ?_; clear hF hA; intro w1 hA; (try simp only [uA] at hA); have hF := hA.facts; (try simp only [fZ] at hF)) | ((with_reducible refine gbx ?_); refine wB hA ?_; clear hF hA; intro b1 w1 hA hb1; (try simp only [uA] at hA); have hF := hA.facts; (try simp only [fZ] at hF)))
      go_roundg (gk - 1)
      case measure => omega
      case rel => exact ⟨i + 1, by simp, by omega, hA.pick pZ⟩
    · have hi2 : i = Lk.length := by omega
      subst hi2
      rw [List.take_of_length_le (Nat.le_refl _)] at hA
      clear hik
      (try simp only [uA] at hA); have hF := hA.facts; (try simp only [fZ] at hF)
      go_wp2_with (first | ((with_reducible refine gms ?_); refine wpList_makeRow_at (e := 100) rfl _ _ rfl Try.underlying89 hi0 hz0 hz1 Lk.length (by (try simp only [Act.eval, eV]) <;> exact rfl) (by (try simp only [Act.eval, eV]) <;> exact rfl) (by rw [hz2]; omega) (by unfold maxLen; omega) hA ?_; intro bN w1 hB; rw [made_flat Nd.cells 7 Nd.cells_len zeroN (Value.cells (.agg #[.int .i64 0, .int .i64 0, .slice none 0 0, .int .i64 0, .int .i64 0, .bool false, .int .i64 0])) rfl Lk.length] at hB; have hC := nilX hB Lk.length; clear hF hA hB; have hA := hC; clear hC; (try simp only [uA] at hA); have hF := hA.facts; (try simp only [fZ] at hF)) | ((with_reducible refine gst ?_); refine wS hA ?_; clear hF hA; intro w1 hA; (try simp only [uA] at hA); have hF := hA.facts; (try simp only [fZ] at hF)) | ((with_reducible refine gbx ?_); refine wB hA ?_; clear hF hA; intro b1 w1 hA hb1; (try simp only [uA] at hA); have hF := hA.facts; (try simp only [fZ] at hF)))
      try go_frame
      clear hi
      go_loopg [42] Lk.length (NpRel w p m b3 b4 bN es f R (.slice ax Lk.length cap) Lk ms)
      case atStart => exact ⟨0, List.replicate Lk.length zeroN, rfl, by simp, by simp, nofun, fun j _ hj => by rw [List.getElem?_replicate, if_pos hj], hA.pick pZ⟩
      case round =>
        obtain ⟨i, N, rfl, hik, hNl, hdn, hzn, hB⟩ := hrel
        have hdn' := Lib.hid hdn
        have hzn' := Lib.hid hzn
        clear hF hA hdn hzn; have hA := hB; clear hB
        by_cases hi : i < Lk.length
        · skip
          obtain ⟨x, hxi⟩ : ∃ x, Lk[i]? = some x := ⟨_, List.getElem?_eq_getElem hi⟩
          have hxi' := Lib.hid hxi
          have hxk := hok'.out x (List.mem_of_getElem? hxi)
          have hle := fun (w1 : World) (q : Sep [GrP p m es] w1) => leads_any q f x hxk (fun a ha => hd0.out x a ha)
          have hl7 := leadsG_len es f x
          obtain ⟨ls, hls⟩ : ∃ z, leadsG es f x = z := ⟨_, rfl⟩
          have hls' := Lib.hid hls
          rw [hls] at hle hl7
          clear hls hxk
          have hrr := row_elem (hA.row_reads (v := .slice ax Lk.length cap) (n := Lk.length) (xs := flatI Lk) sZ) hxi
          clear hxi
          have hz0' := hzn'.out i (Nat.le_refl _) hi
          obtain ⟨gN, c, hg1, hc1, hc2, hc3, hc4, hB⟩ := hA.row_open (e := 100) (size := 7) (ax := some ⟨bN, 0, none⟩) (cap := Lk.length) (n := Lk.length) (xs := flatN N) sZ (by omega)
          cases hg1
          clear hA; have hA := hB; clear hB
          rw [← hNl] at hc4
          have hw1 := write_part Nd.cells_len hc4 (o := 0) (x' := ⟨x, none, 0, [], 0, 0, false, 0⟩) (vs := idL x) hz0' rfl (by show 0 + 2 ≤ 7; omega)
          rw [hNl] at hw1
          have hw1' := Lib.hid hw1
          clear hw1 hc4
          obtain ⟨r1, t1⟩ := x
          simp only [idV, F7.val] at hle
          obtain ⟨bt, offt, hax2, hce⟩ := hrr
          have hr2' := Lib.hid (show ∀ (k : Nat) u, ([.int .i64 r1, .int .i64 t1] : List Value)[k]? = some u → wr.cell? ⟨bt, offt + i * 2 + k, none⟩ = some u from hce)
          clear hce
          subst hax2
          (try simp only [uA] at hA); have hF := hA.facts; (try simp only [fZ] at hF)
          go_wp2_with (first | ((with_reducible refine gal ?_); refine wA 38 (.agg #[.int .i64 0, .int .i64 0]) [.int .i64 0, .int .i64 0] hA ?_; clear hF hA; intro b12 w1 hA hb12; (try simp only [uA] at hA); have hF := hA.facts; (try simp only [fZ] at hF)) | ((with_reducible show wpList _ _ _ ({ dst := some 46, op := Op.load _ _, type := _, pos := _, after := _, guard := _ } :: _) _ _); refine wpList_loadRow_at (vs := [.int .i64 r1, .int .i64 t1]) rfl rfl (by (try simp only [Act.eval, eV]) <;> exact rfl) hr2'.out (by kernel_rfl) (by kernel_rfl) ?_) | ((with_reducible show wpList _ _ _ ({ dst := none, op := Op.store _ (Operand.tmp 51) _, type := _, pos := _, after := _, guard := _ } :: _) _ _); refine wpList_store_at (b := bN) (j := i * 7) (c := c) (vs := idL (r1, t1)) rfl rfl rfl (by (try simp only [Act.eval, eV]) <;> exact rfl) (by exact rfl) hA sZ (by kernel_rfl) rfl (by show i * 7 + 2 ≤ c.length; omega) ?_; intro w1 hB; clear hF hA; have hA := hB; clear hB; (try simp only [uA] at hA); have hF := hA.facts; (try simp only [fZ] at hF)) | ((with_reducible refine gst ?_); refine wS hA ?_; clear hF hA; intro w1 hA; (try simp only [uA] at hA); have hF := hA.facts; (try simp only [fZ] at hF)) | ((with_reducible refine gbx ?_); refine wB hA ?_; clear hF hA; intro b1 w1 hA hb1; (try simp only [uA] at hA); have hF := hA.facts; (try simp only [fZ] at hF)))
          have hB := hA.row_shut (e := 100) (size := 7) (g := bN) (n := Lk.length) (cap := Lk.length) (xs := flatN (N.set i ⟨(r1, t1), none, 0, [], 0, 0, false, 0⟩)) sZ (by rw [setL_length]; exact hc3) (Nat.le_refl _) hc2 hw1'.out
          have hrx : restX (N.set i ⟨(r1, t1), none, 0, [], 0, 0, false, 0⟩) = restX N := restX_set hz0' rfl
          rw [← hrx] at hB
          clear hrx
          clear hF hA; have hA := hB; clear hB
          (try simp only [uA] at hA); have hF := hA.facts; (try simp only [fZ] at hF)
          refine (hle _ (hA.sep1 (A := GrP p m es) sZ)).mono ?_
          clear hle
          rintro e w1 ⟨vl, rfl, hT⟩
          have hB := hA.call1 (A := GrP p m es) sZ hT
          clear hF hA hT; have hA := hB; clear hB
          simp only [List.cons_append, List.nil_append] at hA
          (try simp only [uA] at hA); have hF := hA.facts; (try simp only [fZ] at hF)
          obtain ⟨axl, capl, hvl, haxl, hcpl, _⟩ := hA.row_form .here
          have haxl' := Lib.hid haxl
          subst hvl
          clear haxl hr2'
          obtain ⟨N0, hN0⟩ : ∃ z, N.set i ⟨(r1, t1), none, 0, [], 0, 0, false, 0⟩ = z := ⟨_, rfl⟩
          have hN0' := Lib.hid hN0
          rw [hN0] at hA
          (try simp only [uA] at hA); have hF := hA.facts; (try simp only [fZ] at hF)
          have hne0 : N0[i]? = some ⟨(r1, t1), none, 0, [], 0, 0, false, 0⟩ := by rw [← hN0, List.getElem?_set_self (by omega)]
          have hnl0 : N0.length = Lk.length := by rw [← hN0, List.length_set, hNl]
          have hne0' := Lib.hid hne0
          clear hne0 hN0 hw1' hc1 hc2 hc3 hz0'
          go_wp2_with (first | ((with_reducible refine gst ?_); refine wS hA ?_; clear hF hA; intro w1 hA; (try simp only [uA] at hA); have hF := hA.facts; (try simp only [fZ] at hF)) | ((with_reducible refine gbx ?_); refine wB hA ?_; clear hF hA; intro b1 w1 hA hb1; (try simp only [uA] at hA); have hF := hA.facts; (try simp only [fZ] at hF)))
          try go_frame
          try simp only [Nat.zero_add]
          have hikG : i + 1 + (gk - 1) = Lk.length := by omega
          obtain ⟨G, hG⟩ : ∃ G, gk - 1 = G := ⟨_, rfl⟩
          rw [hG] at hikG
          have hGk : G < gk := by omega
          have hGk' := Lib.hid hGk
          clear hG hik
          go_loopg [57] ls.length (NqRel w p m b3 b4 bN es f R (.slice (some ⟨bt, offt, none⟩) Lk.length cap) Lk ms (.slice axl ls.length capl) ls i N0 (r1, t1))
          case atStart => exact ⟨0, none, 0, rfl, by simp, by rw [show nextP Lk (ls.take 0) = [] from rfl, set_same hne0'.out]; exact hA.pick pZ⟩
          case round =>
            obtain ⟨j, na, nc, rfl, hjk, hB⟩ := hrel
            clear hA; have hA := hB; clear hB
            by_cases hj : j < ls.length
            · skip
              obtain ⟨y, hyj⟩ : ∃ y, ls[j]? = some y := ⟨_, List.getElem?_eq_getElem hj⟩
              have hyk : okD y := leadsG_ok hd0.out (x := (r1, t1)) (f := f) (by rw [hls'.out]; exact List.mem_of_getElem? hyj)
              obtain ⟨kl2, hk2⟩ := keyI hyk
              have hnx : nextP Lk (ls.take (j + 1)) = nextP Lk (ls.take j) ++ (if y ∈ Lk then [Lk.idxOf y] else []) := by rw [← nextP_snoc, List.take_add_one, hyj]; rfl
              have hrr := row_elem (hA.row_reads (v := .slice axl ls.length capl) (n := ls.length) (xs := flatI ls) sZ) hyj
              clear hyj hyk
              obtain ⟨r2, t2⟩ := y
              obtain ⟨bt2, offt2, hax3, hce⟩ := hrr
              have hr2' := Lib.hid (show ∀ (k : Nat) u, ([.int .i64 r2, .int .i64 t2] : List Value)[k]? = some u → wr.cell? ⟨bt2, offt2 + j * 2 + k, none⟩ = some u from hce)
              clear hce
              subst hax3
              simp only [idV] at hk2
              by_cases hmem : (r2, t2) ∈ Lk
              · rw [if_pos hmem] at hnx
                have hidx := List.idxOf_lt_length_of_mem hmem
                have hpy := Lib.hid (place_yes (l := Lk) (i := Lk.idxOf (r2, t2)) (by rw [List.getElem?_eq_getElem hidx, List.getElem_idxOf]))
                generalize Lk.idxOf (r2, t2) = ix at *
                clear hmem
                have hnx' := Lib.hid hnx
                clear hnx
                generalize nextP Lk (ls.take j) = nx at *
                have hnxl : nx.length ≤ 7 := by have h1 := (hnx'.out ▸ nextP_len Lk (ls.take (j + 1)) : (nx ++ [ix]).length ≤ (ls.take (j + 1)).length); simp at h1; omega
                have hnow := set_get (y := (⟨(r1, t1), na, nc, nx, 0, 0, false, 0⟩ : Nd)) hne0'.out
                have hset2 := fun (z : Nd) => set_set N0 i ⟨(r1, t1), na, nc, nx, 0, 0, false, 0⟩ z
                have hlen2 : (N0.set i ⟨(r1, t1), na, nc, nx, 0, 0, false, 0⟩).length = Lk.length := by rw [List.length_set, hnl0]
                have hset2' := Lib.hid hset2
                clear hset2
                generalize N0.set i ⟨(r1, t1), na, nc, nx, 0, 0, false, 0⟩ = N1 at *
                have hsp := split_at hnow
                obtain ⟨gN, c, hg1, hc1, hc2, hc3, hc4, hB⟩ := hA.row_open (e := 100) (size := 7) (ax := some ⟨bN, 0, none⟩) (cap := Lk.length) (n := Lk.length) (xs := flatN N1) sZ (by omega)
                cases hg1
                clear hA
                rw [← hlen2] at hc4
                have hcs : c[i * 7 + 2]? = some (.slice na nx.length nc) := cells_at Nd.cells_len hc4 hnow 2 (by omega)
                have hA := outX hsp hB sZ
                clear hB
                have hsp' := Lib.hid hsp
                clear hsp
                have hnow' := Lib.hid hnow
                have hc4' := Lib.hid hc4
                clear hnow hc4
                simp only [Nd.nv] at hA
                (try simp only [uA] at hA); have hF := hA.facts; (try simp only [fZ] at hF)
                go_wp2_with (first | ((with_reducible refine gal ?_); refine wA 38 (.agg #[.int .i64 0, .int .i64 0]) [.int .i64 0, .int .i64 0] hA ?_; clear hF hA; intro b14 w1 hA hb14; (try simp only [uA] at hA); have hF := hA.facts; (try simp only [fZ] at hF)) | ((with_reducible show wpList _ _ _ ({ dst := some 60, op := Op.load _ _, type := _, pos := _, after := _, guard := _ } :: _) _ _); refine wpList_loadRow_at (vs := [.int .i64 r2, .int .i64 t2]) rfl rfl (by (try simp only [Act.eval, eV]) <;> exact rfl) hr2'.out (by kernel_rfl) (by kernel_rfl) ?_) | ((with_reducible refine glk ?_); refine wpList_look_some_at (b := ms) rfl rfl (by (try simp only [Act.eval, eV]) <;> exact rfl) (key := .agg #[.int .i64 r2, .int .i64 t2]) (by (try simp only [Act.eval, eV]) <;> exact rfl) hA (k := 38) (es := placeE Lk) (v := .int .i64 ix) sR lawI Try.underlying85 hk2 hpy.out ?_) | ((with_reducible show wpList _ _ _ ({ dst := _, op := Op.buildSlice _ _ _, type := _, pos := _, after := _, guard := _ } :: _) _ _); refine wpList_one_at (e := 3) (vs := [.int .i64 ix]) rfl rfl (by (try simp only [Act.eval, eV]) <;> exact rfl) (fun _ => by kernel_rfl) hA ?_; intro b76 w1 hB hb76; clear hF hA; have hA := hB; clear hB; (try simp only [uA] at hA); have hF := hA.facts; (try simp only [fZ] at hF)) | ((with_reducible show wpList _ _ _ ({ dst := _, op := Op.call { callee := Callee.builtin Builtin.append, args := _, argTypes := _ }, type := _, pos := _, after := _, guard := _ } :: _) _ _); refine wpList_append_at (e := 3) (size := 1) (v := .slice na nx.length nc) (xs := intL nx) (n := nx.length) (m := 1) (news := [.int .i64 ix]) rfl _ _ 63 rfl Try.underlying63 hi1 hz3 hz4 hz5 rfl (by omega) hA sR (by (try simp only [Act.eval, eV]) <;> exact rfl) (by (try simp only [Act.eval, eV]) <;> exact rfl) rfl (hA.cells_reads sR _ _) (fun u hu => by rw [List.mem_singleton.1 hu]; rfl) (by unfold maxLen; omega) (by omega) ?_; intro v77 w1 hB; rw [rowX_snoc] at hB; obtain ⟨na2, nc2, hv77, _, _, _⟩ := hB.row_form .here; subst hv77; clear hF hA; have hA := hB; clear hB; (try simp only [uA] at hA); have hF := hA.facts; (try simp only [fZ] at hF)) | ((with_reducible show wpList _ _ _ ({ dst := none, op := Op.store _ (Operand.tmp 79) _, type := _, pos := _, after := _, guard := _ } :: _) _ _); refine wpList_store_at (b := bN) (j := i * 7 + 2) (c := c) (vs := [.slice na2 (nx.length + 1) nc2]) rfl rfl rfl (by (try simp only [Act.eval, eV]) <;> exact rfl) (by exact rfl) hA sZ (by kernel_rfl) rfl (by show i * 7 + 2 + 1 ≤ c.length; omega) ?_; intro w1 hB; clear hF hA; have hA := hB; clear hB; (try simp only [uA] at hA); have hF := hA.facts; (try simp only [fZ] at hF)) | ((with_reducible refine gst ?_); refine wS hA ?_; clear hF hA; intro w1 hA; (try simp only [uA] at hA); have hF := hA.facts; (try simp only [fZ] at hF)) | ((with_reducible refine gbx ?_); refine wB hA ?_; clear hF hA; intro b1 w1 hA hb1; (try simp only [uA] at hA); have hF := hA.facts; (try simp only [fZ] at hF)))
                go_roundg (gk - 1)
                case measure => omega
                case rel =>
                  have hw2 := write_part Nd.cells_len hc4'.out (o := 2) (x' := (⟨(r1, t1), na2, nc2, nx ++ [ix], 0, 0, false, 0⟩ : Nd)) (vs := [.slice na2 (nx.length + 1) nc2]) hnow'.out (by simp [Nd.cells, setL]) (by show 2 + 1 ≤ 7; omega)
                  rw [hset2'.out, hlen2] at hw2
                  have hB := hA.row_shut (e := 100) (size := 7) (g := bN) (n := Lk.length) (cap := Lk.length) (xs := flatN (N0.set i ⟨(r1, t1), na2, nc2, nx ++ [ix], 0, 0, false, 0⟩)) sZ (by rw [setL_length]; exact hc3) (Nat.le_refl _) hc2 hw2
                  have hsp2 : N0.set i (⟨(r1, t1), na2, nc2, nx ++ [ix], 0, 0, false, 0⟩ : Nd) = N1.take i ++ ⟨(r1, t1), na2, nc2, nx ++ [ix], 0, 0, false, 0⟩ :: N1.drop (i + 1) := by rw [← hset2'.out, set_at hnow'.out]
                  have hC := inX (d := ⟨(r1, t1), na2, nc2, nx ++ [ix], 0, 0, false, 0⟩) hsp2 hB sZ sZ
                  exact ⟨j + 1, na2, nc2, by simp, by omega, by rw [hnx'.out]; exact hC.pick pZ⟩
              · rw [if_neg hmem, List.append_nil] at hnx
                have hni := Lib.hid hmem
                have hnx' := Lib.hid hnx
                clear hmem hnx
                (try simp only [uA] at hA); have hF := hA.facts; (try simp only [fZ] at hF)
                go_wp2_with (first | ((with_reducible refine gal ?_); refine wA 38 (.agg #[.int .i64 0, .int .i64 0]) [.int .i64 0, .int .i64 0] hA ?_; clear hF hA; intro b14 w1 hA hb14; (try simp only [uA] at hA); have hF := hA.facts; (try simp only [fZ] at hF)) | ((with_reducible show wpList _ _ _ ({ dst := some 60, op := Op.load _ _, type := _, pos := _, after := _, guard := _ } :: _) _ _); refine wpList_loadRow_at (vs := [.int .i64 r2, .int .i64 t2]) rfl rfl (by (try simp only [Act.eval, eV]) <;> exact rfl) hr2'.out (by kernel_rfl) (by kernel_rfl) ?_) | ((with_reducible refine glk ?_); refine wpList_look_none_at (b := ms) rfl rfl (by (try simp only [Act.eval, eV]) <;> exact rfl) (key := .agg #[.int .i64 r2, .int .i64 t2]) (by (try simp only [Act.eval, eV]) <;> exact rfl) hA (k := 38) (es := placeE Lk) (z := .int .i64 0) sR lawI Try.underlying85 hk2 (place_no hni.out) (fun _ => by kernel_rfl) ?_) | ((with_reducible refine gst ?_); refine wS hA ?_; clear hF hA; intro w1 hA; (try simp only [uA] at hA); have hF := hA.facts; (try simp only [fZ] at hF)) | ((with_reducible refine gbx ?_); refine wB hA ?_; clear hF hA; intro b1 w1 hA hb1; (try simp only [uA] at hA); have hF := hA.facts; (try simp only [fZ] at hF)))
                go_roundg (gk - 1)
                case measure => omega
                case rel => exact ⟨j + 1, na, nc, by simp, by omega, by rw [hnx'.out]; exact hA.pick pZ⟩
            · have hja : ls.take j = ls := List.take_of_length_le (by omega)
              rw [hja] at hA
              clear hja hjk
              (try simp only [uA] at hA); have hF := hA.facts; (try simp only [fZ] at hF)
              go_wp2_with (first | ((with_reducible refine gst ?_); refine wS hA ?_; clear hF hA; intro w1 hA; (try simp only [uA] at hA); have hF := hA.facts; (try simp only [fZ] at hF)) | ((with_reducible refine gbx ?_); refine wB hA ?_; clear hF hA; intro b1 w1 hA hb1; (try simp only [uA] at hA); have hF := hA.facts; (try simp only [fZ] at hF)))
              go_roundg G
              case measure => exact hGk'.out
              case rel =>
                refine ⟨i + 1, N0.set i ⟨(r1, t1), na, nc, nextP Lk ls, 0, 0, false, 0⟩, by simp, hikG, by rw [List.length_set, hnl0], fun k hk z hz => ?_, fun k hk1 hk2 => ?_, hA.pick pZ⟩
                · by_cases e : k = i
                  · subst e
                    rw [hxi'.out] at hz
                    cases hz
                    exact ⟨_, List.getElem?_set_self (by omega), rfl, by rw [hls'.out], rfl, rfl, rfl, rfl⟩
                  · obtain ⟨d, hd1, hd2⟩ := hdn'.out k (by omega) z hz
                    exact ⟨d, by rw [List.getElem?_set_ne (fun q => e q.symm), ← hN0'.out, List.getElem?_set_ne (fun q => e q.symm)]; exact hd1, hd2⟩
                · rw [List.getElem?_set_ne (by omega), ← hN0'.out, List.getElem?_set_ne (by omega)]
                  exact hzn'.out k (by omega) hk2
        · have hi2 : i = Lk.length := by omega
          subst hi2
          (try simp only [uA] at hA); have hF := hA.facts; (try simp only [fZ] at hF)
          go_wp2_with (first | ((with_reducible refine gst ?_); refine wS hA ?_; clear hF hA; intro w1 hA; (try simp only [uA] at hA); have hF := hA.facts; (try simp only [fZ] at hF)) | ((with_reducible refine gbx ?_); refine wB hA ?_; clear hF hA; intro b1 w1 hA hb1; (try simp only [uA] at hA); have hF := hA.facts; (try simp only [fZ] at hF)))
          go_ret
          refine ⟨_, N, rfl, by rw [hLk'.out]; exact hNl, fun j z hz => ?_, ?_⟩
          · rw [hLk'.out] at hz ⊢
            exact hdn'.out j (List.getElem?_eq_some_iff.1 hz).1 z hz
          · exact rowN_len hNl (hA.pick pZ)
end Go.Proofs.Ytgicohkmfbbbdaa.Gr
end

section
namespace Go
open _root_.Go.Proofs.Ytgicohkmfbbbdaa
open Go.RowKit
section
variable {P : Program} {ops : Array Oper} {Q : Exit → Act → World → Prop} {L0 L F : List Part} {w0 w : World}
/-- a cell loaded -/
theorem opLoad1_at {i : Nat} {d : Option Tmp} {o : Oper} {a : Act} {K : Act → World → Prop} (ho : ops[i]? = some o) (hd : o.dst = d) (hw : Region.wanted o (yielded ops a.tmps) = true) {ty : TypeId} {x : Operand} (hop : o.op = .load ty x) {b j : Nat} (hx : a.eval x = .pointer (some ⟨b, j, none⟩)) {c : List Value} {T : TypeId} (h : At L0 w0 L w) (s : Sel (Part.cells b c T) L F)
    (hu : (P.underlying ty).map (·.isRow) = some false) {v : Value} (hv : c[j]? = some v) (hK : K (a.put d v) w) : wpOp P ops Q i K a w := by
  subst hd
  have hr := run_load_one (P := P) (o := o) (a := a) hop hx (h.get s) hu hv
  exact wpOp_val ho hw (v := v) (w' := w) hr hK
end
end Go
namespace Go.Proofs.Ytgicohkmfbbbdaa.Gr
open Go.RowKit
open Tar (TS up up_same up_other)
set_option linter.unusedSimpArgs false
set_option linter.unusedVariables false

/-- the nodes, as they are now -/
def ndL (N : List Nd) (s : TS) : List Nd := N.mapIdx fun i d => ⟨d.id, d.na, d.nc, d.nx, s.low i, s.num i, s.on i, s.knot i⟩
theorem ndL_len (N : List Nd) (s : TS) : (ndL N s).length = N.length := List.length_mapIdx
theorem ndL_get {N : List Nd} {i : Nat} {d : Nd} (h : N[i]? = some d) (s : TS) : (ndL N s)[i]? = some ⟨d.id, d.na, d.nc, d.nx, s.low i, s.num i, s.on i, s.knot i⟩ := by
  unfold ndL
  rw [List.getElem?_mapIdx, h]
  rfl
theorem ndL_set {N : List Nd} {i : Nat} {d : Nd} (h : N[i]? = some d) {s s' : TS} (hs : ∀ j, j ≠ i → s'.low j = s.low j ∧ s'.num j = s.num j ∧ s'.on j = s.on j ∧ s'.knot j = s.knot j) :
    (ndL N s).set i ⟨d.id, d.na, d.nc, d.nx, s'.low i, s'.num i, s'.on i, s'.knot i⟩ = ndL N s' := by
  apply List.ext_getElem?
  intro j
  by_cases hj : j = i
  · subst hj
    have hl := (List.getElem?_eq_some_iff.1 h).1
    rw [List.getElem?_set_self (by rw [ndL_len]; exact hl), ndL_get h]
  · rw [List.getElem?_set_ne (fun e => hj e.symm)]
    unfold ndL
    rw [List.getElem?_mapIdx, List.getElem?_mapIdx]
    obtain ⟨h1, h2, h3, h4⟩ := hs j hj
    rw [h1, h2, h3, h4]
theorem restX_nd (N : List Nd) (s : TS) : restX (ndL N s) = restX N := by
  refine restX_congr ?_
  apply List.ext_getElem?
  intro j
  unfold ndL
  rw [List.getElem?_map, List.getElem?_map, List.getElem?_mapIdx]
  cases N[j]? <;> rfl
theorem ndL_start {N : List Nd} (h : ∀ d ∈ N, d.low = 0 ∧ d.num = 0 ∧ d.on = false ∧ d.knot = 0) : ndL N TS.start = N := by
  apply List.ext_getElem?
  intro j
  unfold ndL
  rw [List.getElem?_mapIdx]
  cases hq : N[j]? with
  | none => rfl
  | some d =>
    obtain ⟨h1, h2, h3, h4⟩ := h d (List.mem_of_getElem? hq)
    obtain ⟨id, na, nc, nx, low, num, on, knot⟩ := d
    simp only at h1 h2 h3 h4
    subst h1 h2 h3 h4
    rfl
/-- what a node leads to -/
def nxF (N : List Nd) (i : Nat) : List Nat := match N[i]? with
  | some d => d.nx
  | none => []
theorem nxF_get {N : List Nd} {i : Nat} {d : Nd} (h : N[i]? = some d) : nxF N i = d.nx := by unfold nxF; rw [h]
def frL (p : Nat × Nat) : List Value := [.int .i64 p.1, .int .i64 p.2]
theorem frL_len (p : Nat × Nat) : (frL p).length = 2 := rfl
theorem frL_one (p : Nat × Nat) : ∀ u ∈ frL p, u.oneCell' = true := by
  intro u hu
  simp only [frL, List.mem_cons, List.not_mem_nil, or_false] at hu
  rcases hu with rfl | rfl <;> rfl
def flatF (l : List (Nat × Nat)) : List Value := l.flatMap frL
theorem flatF_len (l : List (Nat × Nat)) : (flatF l).length = l.length * 2 := flat_len _ _ frL_len _
abbrev rowF (v : Value) (l : List (Nat × Nat)) : Part := Part.row 131 2 v l.length (flatF l)
theorem rowF_snoc (v : Value) (l : List (Nat × Nat)) (x : Nat × Nat) : Part.row 131 2 v (l.length + 1) (flatF l ++ frL x) = rowF v (l ++ [x]) := by
  unfold rowF
  rw [List.length_append]
  simp [flatF]
theorem infoF : (Try.prog.info? 131).map (fun i => (i.zero, i.size, i.bytes)) = some (some (.agg #[.int .i64 0, .int .i64 0]), 2, 16) := by kernel_rfl
def wkV (p : Nat × Nat) : Nat × Nat := p
abbrev kHead (kp : Nat) (ax : Option Addr) (cap : Nat) (sv wv : Value) (N : List Nd) (s : TS) : Part := Part.cells kp [.slice ax N.length cap, sv, wv, .int .i64 s.count, .int .i64 s.found] 93
abbrev kRow (ax : Option Addr) (cap : Nat) (N : List Nd) (s : TS) : Part := Part.row 100 7 (.slice ax N.length cap) N.length (flatN (ndL N s))
abbrev kL (kp : Nat) (ax : Option Addr) (cap : Nat) (sv wv : Value) (N : List Nd) (s : TS) : List Part :=
  [kHead kp ax cap sv wv N s, kRow ax cap N s, restX N, rowX sv s.stk.reverse, rowF wv s.wk.reverse]
def KnP (kp : Nat) (ax : Option Addr) (cap : Nat) (sv wv : Value) (N : List Nd) (s : TS) : Part := Part.all (kL kp ax cap sv wv N s)
theorem kn_eqv (kp : Nat) (ax : Option Addr) (cap : Nat) (sv wv : Value) (N : List Nd) (s : TS) (F : List Part) : Eqv (KnP kp ax cap sv wv N s :: F) (kL kp ax cap sv wv N s ++ F) := Eqv.all _ F
theorem kn_begin {w : World} {kp : Nat} {ax : Option Addr} {cap : Nat} {sv wv : Value} {N : List Nd} {s : TS} (h : Sep [KnP kp ax cap sv wv N s] w) : At [KnP kp ax cap sv wv N s] w (kL kp ax cap sv wv N s) w := (At.start h).to (kn_eqv kp ax cap sv wv N s [])
theorem kn_end {L0 : List Part} {w0 w : World} {kp : Nat} {ax : Option Addr} {cap : Nat} {sv wv : Value} {N : List Nd} {s : TS} (h : At L0 w0 (kL kp ax cap sv wv N s) w) : At L0 w0 [KnP kp ax cap sv wv N s] w := h.to (kn_eqv kp ax cap sv wv N s []).symm
def KnPost (kp : Nat) (ax : Option Addr) (cap : Nat) (sv wv : Value) (N : List Nd) (s s' : TS) (w : World) (e : Ending) (w' : World) : Prop :=
  ∃ sv' wv', e = .returned (.tuple #[]) ∧ At [KnP kp ax cap sv wv N s] w [KnP kp ax cap sv' wv' N s'] w'
/-- bounds -/
structure Sm (N : List Nd) (s : TS) : Prop where
  n : N.length ≤ 1000
  c : s.count ≤ 100000
  f : s.found ≤ 100000
  st : s.stk.length ≤ 100000
  wk : s.wk.length ≤ 100000
end Go.Proofs.Ytgicohkmfbbbdaa.Gr
end
