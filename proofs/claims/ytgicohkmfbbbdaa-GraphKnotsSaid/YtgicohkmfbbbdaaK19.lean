/- GrbC, joined. -/
import Derived.Test.YtgicohkmfbbbdaaK18
import Derived.Test.YtgicohkmfbbbdaaK5
section
namespace Go
open _root_.Go.Proofs.Ytgicohkmfbbbdaa
open Go.RowKit
section
variable {P : Program} {ops : Array Oper} {Q : Exit → Act → World → Prop} {md : Region.Mode} {S : World → Prop}
theorem wpAnyH_three {i j k fuel : Nat} {listed : Array Bool} {a : Act} {w : World} (hr : Region.ready md ops listed = [i, j, k]) (h1 : wpOp P ops Q i (fun a' w' => S w' ∧ wpAnyH P md ops Q S fuel (listed.setIfInBounds i true) a' w') a w)
    (h2 : wpOp P ops Q j (fun a' w' => S w' ∧ wpAnyH P md ops Q S fuel (listed.setIfInBounds j true) a' w') a w) (h3 : wpOp P ops Q k (fun a' w' => S w' ∧ wpAnyH P md ops Q S fuel (listed.setIfInBounds k true) a' w') a w) : wpAnyH P md ops Q S (fuel + 1) listed a w :=
  wpAnyH_all hr (by simp) (fun x hx => by
    rcases List.mem_cons.1 hx with rfl | hx
    · exact h1
    rcases List.mem_cons.1 hx with rfl | hx
    · exact h2
    · rw [List.mem_singleton.1 hx]; exact h3)
end
end Go
namespace Go.Proofs.Ytgicohkmfbbbdaa.Gr
open _root_.Go.Proofs.Ytgicohkmfbbbdaa.Mark (ltID sortID)
open Go.RowKit
open Attr (A8 thro)
open Tar (TS OrdS knotL sortS freeP)
set_option linter.unusedSimpArgs false
set_option linter.unusedVariables false
attribute [-go_sem] run_eql_struct run_neq_struct run_eqGuard_agg

theorem sortS_len (sq : Nat → Int) (l : List Nat) : (sortS sq l).length = l.length := by
  unfold sortS
  suffices H : ∀ (l out : List Nat), (l.foldl (fun out x => Tar.insS sq x out) out).length = out.length + l.length by simpa using H l []
  intro l
  induction l with
  | nil => simp
  | cons x l ih =>
    intro out
    rw [List.foldl_cons, ih, (Tar.insS_perm sq x out).length_eq, List.length_cons, List.length_cons]
    omega
theorem rowI2_app (v : Value) (l m : List I2) : Part.row 38 2 v (l.length + m.length) (flatI l ++ flatI m) = rowI2 v (l ++ m) := by
  unfold rowI2
  rw [List.length_append]
  simp [flatI]
/-- a knot taken out of whom the first j wait for -/
def delO (k j : Nat) (O : List Wt) : List Wt := (O.take j).map (Wt.less k) ++ O.drop j
theorem delO_at {k j : Nat} {O : List Wt} {o : Wt} (h : O[j]? = some o) : delO k j O = (O.take j).map (Wt.less k) ++ o :: O.drop (j + 1) := by
  unfold delO
  rw [List.drop_eq_getElem?_toList_append, h]
  rfl
theorem delO_next {k j : Nat} {O : List Wt} {o : Wt} (h : O[j]? = some o) : delO k (j + 1) O = (O.take j).map (Wt.less k) ++ Wt.less k o :: O.drop (j + 1) := by
  unfold delO
  rw [List.take_add_one, h, List.map_append, List.append_assoc]
  rfl
theorem delO_end {k j : Nat} {O : List Wt} (h : O.length ≤ j) : delO k j O = O.map (Wt.less k) := by
  unfold delO
  rw [List.take_of_length_le h, List.drop_of_length_le h, List.append_nil]
theorem flatO_less (k : Nat) (O : List Wt) : flatO (O.map (Wt.less k)) = flatO O := by
  rw [flatO_map, flatO_map]
  simp [Wt.less]
theorem delO_zero (k : Nat) (O : List Wt) : delO k 0 O = O := by simp [delO]
theorem ws_nodup {ws : List Nat} (h : (wsE ws).Pairwise (fun p q => p.1 ≠ q.1)) : ws.Nodup := by
  unfold wsE at h
  rw [List.pairwise_map] at h
  exact h.imp fun q e => q (by rw [e])
theorem delete_nil {k : Nat} {kl : Lit} (hk : keyOf Try.prog 3 (.int .i64 (k : Int)) = some kl) (w : World) (ty : TypeId) : (Builtin.delete_ #[101, 3] ty #[.map none, .int .i64 k]).run Try.prog w = .ok (.tuple #[]) w := by
  simp [Builtin.delete_, run_underlying Try.underlying101, lawN.check w _ hk, Result.andThen]
def DlRel (w : World) (L0 F : List Part) (kk : Nat) (O1 : List Wt) (n : Nat) (k : Nat) (u : Value) (wr : World) : Prop :=
  ∃ j : Nat, u = .int .i64 j ∧ j + k = n + 1 ∧ At L0 w (restO (delO kk j O1) :: F) wr
def WtR (w : World) (nv : Value) (N : List Nd) (n : Nat) (u : Value) (w' : World) : Prop :=
  ∃ (ov hv : Value) (O : List Wt) (H : List Hs), u = .tuple #[ov, hv] ∧ WtIn N n N.length O H ∧ At [rowNd nv N, restX N] w [rowO ov O, rowH hv H, restO O, restH H, rowNd nv N, restX N] w'
theorem WtPost.r {w : World} {nv : Value} {N : List Nd} {n : Nat} {e : Ending} {w' : World} (h : WtPost w nv N n e w') : ∃ u, e = .returned u ∧ WtR w nv N n u w' := by
  obtain ⟨ov, hv, O, H, he, hw, hA⟩ := h
  exact ⟨_, he, ov, hv, O, H, rfl, hw, hA⟩
/-- the parts, all but what has come out -/
abbrev orL (p m : Nat) (es : List (I2 × A8)) (f : F7) (R : Part) (b4 b7 b8 b9 : Nat) (axn : Option Addr) (capn : Nat) (sv wv : Value) (cnt : Int) (n : Nat) (ov hv : Value) (L : List Nd) (O : List Wt) (H : List Hs) : List Part :=
  [Part.cells b8 [ov] 94, Part.cells b9 [hv] 95, rowO ov O, rowH hv H, restO O, restH H, Part.cells b7 [.slice axn L.length capn, sv, wv, .int .i64 cnt, .int .i64 (n : Int)] 93, rowNd (.slice axn L.length capn) L, restX L, R, GrP p m es, Part.cells b4 [.int .i64 f.f0, .int .i64 f.f1, .int .i64 f.f2, .int .i64 f.f3, .int .i64 f.f4, .int .i64 f.f5, .int .i64 f.f6] 24]
def CutR (w : World) (p m : Nat) (es : List (I2 × A8)) (f : F7) (R : Part) (b4 b7 : Nat) (axn : Option Addr) (capn : Nat) (sv wv : Value) (cnt : Int) (n : Nat) (L : List Nd) (u8 u9 : Value) (wc : World) : Prop :=
  ∃ (b8 b9 : Nat) (ov hv : Value) (O : List Wt) (H : List Hs), u8 = .pointer (some ⟨b8, 0, none⟩) ∧ u9 = .pointer (some ⟨b9, 0, none⟩) ∧ WtIn L n L.length O H ∧ At [R, GrP p m es] w (orL p m es f R b4 b7 b8 b9 axn capn sv wv cnt n ov hv L O H) wc
def OrRel (w : World) (p m : Nat) (es : List (I2 × A8)) (f : F7) (R : Part) (b4 b7 b8 b9 : Nat) (axn : Option Addr) (capn : Nat) (sv wv : Value) (cnt : Int) (n : Nat) (ov hv : Value) (L : List Nd) (en : Nat → I2 × A8) (k : Nat) (u : Value) (wr : World) : Prop :=
  ∃ (gone pre : List Nat) (O : List Wt) (H : List Hs), OrdS (nxF L) L.length (knF L) (sqE en) gone pre k ∧ OrIn L n gone O H ∧ At [R, GrP p m es] w (rowI2 u (pre.map (idK en)) :: orL p m es f R b4 b7 b8 b9 axn capn sv wv cnt n ov hv L O H) wr
def OrdPost (p m : Nat) (es : List (I2 × A8)) (f : F7) (R : Part) (l : List I2) (w : World) (e : Ending) (w' : World) : Prop :=
  ∃ u, e = .returned u ∧ At [R, GrP p m es] w [rowI2 u (ordG es f (lstG es l)), R, GrP p m es] w'
set_option maxRecDepth 100000 in
set_option maxHeartbeats 8000000 in
theorem order_any {w : World} {R : Part} {v : Value} {l : List I2} {p m : Nat} {es : List (I2 × A8)} (h : Sep [R, GrP p m es] w) (hr : ReadsIn R v l) (hl : l.length ≤ 1000) (hok : ∀ x ∈ l, okD x) (f : F7) (hd : Deps es) (hoke : ∀ e ∈ es, okD e.1) (hu : Uq es) :
    Calls Try.prog 22 #[.pointer (some ⟨p, 0, none⟩), f.val, v] w (OrdPost p m es f R l w) := by
  have hm : Try.prog.follows .mixedOrders = true := by kernel_rfl
  obtain ⟨i0, hi0, hz0, hz1, hz2⟩ := info_parts infoI
  have hA := At.start h
  have hF := hA.facts
  have hr' := Lib.hid hr
  have hok' := Lib.hid hok
  have hd' := Lib.hid hd
  have hoke' := Lib.hid hoke
  have hu' := Lib.hid hu
  clear h hr hok hd hoke hu
  simp only [F7.val] at *
  (try simp only [uA] at hA); have hF := hA.facts; (try simp only [fZ] at hF)
  go_enter Try.func22, Try.ntmps22
  go_wp2_with (first | ((with_reducible refine gbx ?_); refine wX 24 (.agg #[.int .i64 f.f0, .int .i64 f.f1, .int .i64 f.f2, .int .i64 f.f3, .int .i64 f.f4, .int .i64 f.f5, .int .i64 f.f6]) [.int .i64 f.f0, .int .i64 f.f1, .int .i64 f.f2, .int .i64 f.f3, .int .i64 f.f4, .int .i64 f.f5, .int .i64 f.f6] hA ?_; clear hF hA; intro b4 w1 hA hb4; (try simp only [uA] at hA); have hF := hA.facts; (try simp only [fZ] at hF)) | ((with_reducible refine gst ?_); refine wS hA ?_; clear hF hA; intro w1 hA; (try simp only [uA] at hA); have hF := hA.facts; (try simp only [fZ] at hF)) | ((with_reducible refine gbx ?_); refine wB hA ?_; clear hF hA; intro b1 w1 hA hb1; (try simp only [uA] at hA); have hF := hA.facts; (try simp only [fZ] at hF)))
  refine (nodes_any (R := R) (v := v) (l := l) (p := p) (m := m) (es := es) (hA.sep2 (A := R) (B := GrP p m es) sZ sZ) hr'.out hl hok'.out f hd'.out).mono ?_
  rintro e w1 ⟨u, N, rfl, hNl, hNd, hT⟩
  have hB := hA.call2 (A := R) (B := GrP p m es) sZ sZ hT
  have hN := Lib.hid (show NdIn es f (lstG es l) N from ⟨hNl, hNd⟩)
  clear hF hA hT hNl hNd; have hA := hB; clear hB
  simp only [List.cons_append, List.nil_append] at hA
  obtain ⟨axn, capn, hnv, haxn, hcpn, _⟩ := hA.row_form (e := 100) (size := 7) (n := N.length) (v := u) (xs := flatN N) sZ
  clear haxn
  subst hnv
  have hNlen := Lib.hid (show N.length ≤ 1000 from by have h1 := hN.out.len; have h2 := lstG_len es l; omega)
  (try simp only [uA] at hA); have hF := hA.facts; (try simp only [fZ] at hF)
  go_wp2_with (first | ((with_reducible refine gbx ?_); refine wX 93 (.agg #[.slice axn N.length capn, .slice none 0 0, .slice none 0 0, .int .i64 0, .int .i64 0]) [.slice axn N.length capn, .slice none 0 0, .slice none 0 0, .int .i64 0, .int .i64 0] hA ?_; clear hF hA; intro b7 w1 hA hb7; (try simp only [uA] at hA); have hF := hA.facts; (try simp only [fZ] at hF)) | ((with_reducible refine gst ?_); refine wS hA ?_; clear hF hA; intro w1 hA; (try simp only [uA] at hA); have hF := hA.facts; (try simp only [fZ] at hF)) | ((with_reducible refine gbx ?_); refine wB hA ?_; clear hF hA; intro b1 w1 hA hb1; (try simp only [uA] at hA); have hF := hA.facts; (try simp only [fZ] at hF)))
  have hB := hA.row_nil 3 1
  have hC := hB.row_nil 131 2
  clear hF hA hB
  have hA : At [R, GrP p m es] w (kL b7 axn capn (.slice none 0 0) (.slice none 0 0) N TS.start ++ [R, GrP p m es, Part.cells b4 [.int .i64 f.f0, .int .i64 f.f1, .int .i64 f.f2, .int .i64 f.f3, .int .i64 f.f4, .int .i64 f.f5, .int .i64 f.f6] 24]) w1 := by
    show At [R, GrP p m es] w [kHead b7 axn capn (.slice none 0 0) (.slice none 0 0) N TS.start, kRow axn capn N TS.start, restX N, rowX (.slice none 0 0) [], rowF (.slice none 0 0) [], R, GrP p m es, Part.cells b4 [.int .i64 f.f0, .int .i64 f.f1, .int .i64 f.f2, .int .i64 f.f3, .int .i64 f.f4, .int .i64 f.f5, .int .i64 f.f6] 24] w1
    unfold kRow
    rw [ndL_start hN.out.zero]
    exact hC.pick pZ
  clear hC
  have hB := hA.to (kn_eqv b7 axn capn (.slice none 0 0) (.slice none 0 0) N TS.start _).symm
  clear hA; have hA := hB; clear hB
  refine (run_any (kp := b7) (ax := axn) (cap := capn) (sv0 := .slice none 0 0) (wv0 := .slice none 0 0) (N := N) (hA.sep1 .here) hN.out.lt hNlen.out hN.out.seven).mono ?_
  rintro e w2 ⟨s, sv, wv, rfl, hkn, hfd, hT⟩
  have hB := hA.call1 .here hT
  clear hA hT
  have hA : At [R, GrP p m es] w [kHead b7 axn capn sv wv N s, kRow axn capn N s, restX N, rowX sv s.stk.reverse, rowF wv s.wk.reverse, R, GrP p m es, Part.cells b4 [.int .i64 f.f0, .int .i64 f.f1, .int .i64 f.f2, .int .i64 f.f3, .int .i64 f.f4, .int .i64 f.f5, .int .i64 f.f6] 24] w2 := hB.to (kn_eqv b7 axn capn sv wv N s _)
  clear hB
  have hL := hN.out.after (lstG_sorted es l) (fun x hx => (lstG_mem.1 hx).2) hkn
  have hlL : (ndL N s).length = N.length := ndL_len N s
  have hB : At [R, GrP p m es] w [Part.cells b7 [.slice axn (ndL N s).length capn, sv, wv, .int .i64 s.count, .int .i64 s.found] 93, rowNd (.slice axn (ndL N s).length capn) (ndL N s), restX (ndL N s), R, GrP p m es, Part.cells b4 [.int .i64 f.f0, .int .i64 f.f1, .int .i64 f.f2, .int .i64 f.f3, .int .i64 f.f4, .int .i64 f.f5, .int .i64 f.f6] 24] w2 := by
    rw [restX_nd]
    unfold rowNd
    rw [hlL]
    exact hA.pick pZ
  clear hA
  have hn9 : s.found ≤ 9000 := by have := hNlen.out; omega
  have hL1 : (ndL N s).length ≤ 1000 := by rw [hlL]; exact hNlen.out
  rw [← hlL] at hcpn
  clear hlL hkn hfd
  generalize hcq : (s.count : Int) = cnt at *
  generalize s.found = n at *
  generalize ndL N s = L at *
  clear hcq hN hNlen
  have hL' := Lib.hid hL
  have hA := hB
  clear hB hL
  (try simp only [uA] at hA); have hF := hA.facts; (try simp only [fZ] at hF)
  go_upto_region 3 with (first | ((with_reducible refine gst ?_); refine wS hA ?_; clear hF hA; intro w1 hA; (try simp only [uA] at hA); have hF := hA.facts; (try simp only [fZ] at hF)) | ((with_reducible refine gbx ?_); refine wB hA ?_; clear hF hA; intro b1 w1 hA hb1; (try simp only [uA] at hA); have hF := hA.facts; (try simp only [fZ] at hF)))
  go_cut [8, 9] from 23 to 34 (CutR w p m es f R b4 b7 axn capn sv wv cnt n L)
  case first =>
    try go_frame
    have hB := hA.drew
    clear hF hA; have hA := hB; clear hB
    refine wp_region_held (S := fun w' => BlockIs w' b7 [.slice axn L.length capn, sv, wv, .int .i64 cnt, .int .i64 (n : Int)] 93) hm ?_
    change wpAnyH _ _ _ _ _ 16 _ _ (World.drew _)
    generalize World.drew _ = wd at *
    have hS0 : (fun w' => BlockIs w' b7 [.slice axn L.length capn, sv, wv, .int .i64 cnt, .int .i64 (n : Int)] 93) wd := hA.get (A := Part.cells b7 [.slice axn L.length capn, sv, wv, .int .i64 cnt, .int .i64 (n : Int)] 93) sZ
    refine tP 0 24 (.pointer (some ⟨b7, 0, none⟩)) (s := hS0) (h := ?_)
    try go_frame
    refine tP 1 25 (.pointer (some ⟨b7, 0, none⟩)) (s := hS0) (h := ?_)
    try go_frame
    refine tP 2 26 (.pointer (some ⟨b7, 0, none⟩)) (s := hS0) (h := ?_)
    try go_frame
    refine tZ 3 27 (.slice axn L.length capn) (r := (fun w' hS => run_load_one (ty := 89) (b := b7) (j := 0) rfl (by exact rfl) hS (by kernel_rfl) rfl)) (s := hS0) (h := ?_)
    try go_frame
    refine tP 4 28 (.pointer (some ⟨b7, 0, none⟩)) (s := hS0) (h := ?_)
    try go_frame
    refine tP 5 29 (.pointer (some ⟨b7, 0, none⟩)) (s := hS0) (h := ?_)
    try go_frame
    refine tP 6 30 (.pointer (some ⟨b7, 4, none⟩)) (s := hS0) (h := ?_)
    try go_frame
    refine tZ 7 31 (.int .i64 (n : Int)) (r := (fun w' hS => run_load_one (ty := 3) (b := b7) (j := 4) rfl (by exact rfl) hS (by kernel_rfl) rfl)) (s := hS0) (h := ?_)
    try go_frame
    refine wpAnyH_three (i := 8) (j := 12) (k := 13) (by kernel_rfl) ?_ ?_ ?_
    · skip
      refine opCall_at (i := 8) (d := some 32) rfl rfl (by kernel_rfl) (fn := 44) (args := #[.slice axn L.length capn, .int .i64 (n : Int)]) (by simp [execOp, go_sem, Act.eval, Act.put]) ((waits_any (hA.sep2 (A := rowNd (.slice axn L.length capn) L) (B := restX L) sZ sZ) n hL'.out.kle hL'.out.kn.hn hL'.out.seven hL1 hn9).mono (fun e w' h => WtPost.r h)) ?_
      rintro u w3 ⟨ov, hv, O, H, rfl, hwt, hT⟩
      have hB := hA.call2 (A := rowNd (.slice axn L.length capn) L) (B := restX L) sZ sZ hT
      have hwt' := Lib.hid hwt
      simp only [List.cons_append, List.nil_append] at hB
      obtain ⟨axo, capo, hov, _, _, _⟩ := hB.row_form (e := 101) (size := 1) (n := O.length) (v := ov) (xs := flatO O) sZ
      obtain ⟨axh, caph, hhv, _, _, _⟩ := hB.row_form (e := 63) (size := 1) (n := H.length) (v := hv) (xs := flatH H) sZ
      subst hov
      subst hhv
      clear hT hwt
      have hS0 : BlockIs w3 b7 [.slice axn L.length capn, sv, wv, .int .i64 cnt, .int .i64 (n : Int)] 93 := hB.get (A := Part.cells b7 [.slice axn L.length capn, sv, wv, .int .i64 cnt, .int .i64 (n : Int)] 93) sZ
      clear hA; have hA := hB; clear hB
      refine ⟨hS0, ?_⟩
      try go_frame
      refine tP 9 23 (.tuple #[.slice axo O.length capo, .slice axh H.length caph]) (s := hS0) (h := ?_)
      try go_frame
      refine tP 10 33 (.slice axo O.length capo) (s := hS0) (h := ?_)
      try go_frame
      refine tP 11 34 (.slice axh H.length caph) (s := hS0) (h := ?_)
      try go_frame
      refine wpAnyH_two (i := 12) (j := 13) (by kernel_rfl) ?_ ?_
      · skip
        refine opAlloc_at (i := 12) (d := some 8) rfl rfl (by kernel_rfl) (E := 94) rfl (z := .slice none 0 0) (vs := [.slice none 0 0]) (by kernel_rfl) (by exact rfl) hA ?_
        intro b8 w3 hB
        have hS0 : BlockIs w3 b7 [.slice axn L.length capn, sv, wv, .int .i64 cnt, .int .i64 (n : Int)] 93 := hB.get (A := Part.cells b7 [.slice axn L.length capn, sv, wv, .int .i64 cnt, .int .i64 (n : Int)] 93) sZ
        clear hA; have hA := hB; clear hB
        refine ⟨hS0, ?_⟩
        try go_frame
        refine wpAnyH_one (i := 13) (by kernel_rfl) ?_
        refine opAlloc_at (i := 13) (d := some 9) rfl rfl (by kernel_rfl) (E := 95) rfl (z := .slice none 0 0) (vs := [.slice none 0 0]) (by kernel_rfl) (by exact rfl) hA ?_
        intro b9 w3 hB
        have hS0 : BlockIs w3 b7 [.slice axn L.length capn, sv, wv, .int .i64 cnt, .int .i64 (n : Int)] 93 := hB.get (A := Part.cells b7 [.slice axn L.length capn, sv, wv, .int .i64 cnt, .int .i64 (n : Int)] 93) sZ
        clear hA; have hA := hB; clear hB
        refine ⟨hS0, ?_⟩
        try go_frame
        refine wpAnyH_one (i := 14) (by kernel_rfl) ?_
        refine opStore_at (i := 14) (b := b8) (j := 0) (vs := [.slice axo O.length capo]) rfl rfl (by kernel_rfl) rfl (by exact rfl) (by exact rfl) rfl hA sZ (by kernel_rfl) rfl (by show 0 + 1 ≤ 1; omega) ?_
        intro w3 hB
        simp only [uA] at hB
        have hS0 : BlockIs w3 b7 [.slice axn L.length capn, sv, wv, .int .i64 cnt, .int .i64 (n : Int)] 93 := hB.get (A := Part.cells b7 [.slice axn L.length capn, sv, wv, .int .i64 cnt, .int .i64 (n : Int)] 93) sZ
        clear hA; have hA := hB; clear hB
        refine ⟨hS0, ?_⟩
        try go_frame
        refine wpAnyH_one (i := 15) (by kernel_rfl) ?_
        refine opStore_at (i := 15) (b := b9) (j := 0) (vs := [.slice axh H.length caph]) rfl rfl (by kernel_rfl) rfl (by exact rfl) (by exact rfl) rfl hA sZ (by kernel_rfl) rfl (by show 0 + 1 ≤ 1; omega) ?_
        intro w3 hB
        simp only [uA] at hB
        have hS0 : BlockIs w3 b7 [.slice axn L.length capn, sv, wv, .int .i64 cnt, .int .i64 (n : Int)] 93 := hB.get (A := Part.cells b7 [.slice axn L.length capn, sv, wv, .int .i64 cnt, .int .i64 (n : Int)] 93) sZ
        clear hA; have hA := hB; clear hB
        refine ⟨hS0, ?_⟩
        try go_frame
        refine wpAnyH_done (by kernel_rfl) ?_ _
        try go_frame
        go_wp2_with fail
        go_meet
        case rel => exact ⟨b8, b9, _, _, O, H, rfl, rfl, hwt'.out, hA.pick pZ⟩
      · skip
        refine opAlloc_at (i := 13) (d := some 9) rfl rfl (by kernel_rfl) (E := 95) rfl (z := .slice none 0 0) (vs := [.slice none 0 0]) (by kernel_rfl) (by exact rfl) hA ?_
        intro b9 w3 hB
        have hS0 : BlockIs w3 b7 [.slice axn L.length capn, sv, wv, .int .i64 cnt, .int .i64 (n : Int)] 93 := hB.get (A := Part.cells b7 [.slice axn L.length capn, sv, wv, .int .i64 cnt, .int .i64 (n : Int)] 93) sZ
        clear hA; have hA := hB; clear hB
        refine ⟨hS0, ?_⟩
        try go_frame
        refine wpAnyH_one (i := 12) (by kernel_rfl) ?_
        refine opAlloc_at (i := 12) (d := some 8) rfl rfl (by kernel_rfl) (E := 94) rfl (z := .slice none 0 0) (vs := [.slice none 0 0]) (by kernel_rfl) (by exact rfl) hA ?_
        intro b8 w3 hB
        have hS0 : BlockIs w3 b7 [.slice axn L.length capn, sv, wv, .int .i64 cnt, .int .i64 (n : Int)] 93 := hB.get (A := Part.cells b7 [.slice axn L.length capn, sv, wv, .int .i64 cnt, .int .i64 (n : Int)] 93) sZ
        clear hA; have hA := hB; clear hB
        refine ⟨hS0, ?_⟩
        try go_frame
        refine wpAnyH_one (i := 14) (by kernel_rfl) ?_
        refine opStore_at (i := 14) (b := b8) (j := 0) (vs := [.slice axo O.length capo]) rfl rfl (by kernel_rfl) rfl (by exact rfl) (by exact rfl) rfl hA sZ (by kernel_rfl) rfl (by show 0 + 1 ≤ 1; omega) ?_
        intro w3 hB
        simp only [uA] at hB
        have hS0 : BlockIs w3 b7 [.slice axn L.length capn, sv, wv, .int .i64 cnt, .int .i64 (n : Int)] 93 := hB.get (A := Part.cells b7 [.slice axn L.length capn, sv, wv, .int .i64 cnt, .int .i64 (n : Int)] 93) sZ
        clear hA; have hA := hB; clear hB
        refine ⟨hS0, ?_⟩
        try go_frame
        refine wpAnyH_one (i := 15) (by kernel_rfl) ?_
        refine opStore_at (i := 15) (b := b9) (j := 0) (vs := [.slice axh H.length caph]) rfl rfl (by kernel_rfl) rfl (by exact rfl) (by exact rfl) rfl hA sZ (by kernel_rfl) rfl (by show 0 + 1 ≤ 1; omega) ?_
        intro w3 hB
        simp only [uA] at hB
        have hS0 : BlockIs w3 b7 [.slice axn L.length capn, sv, wv, .int .i64 cnt, .int .i64 (n : Int)] 93 := hB.get (A := Part.cells b7 [.slice axn L.length capn, sv, wv, .int .i64 cnt, .int .i64 (n : Int)] 93) sZ
        clear hA; have hA := hB; clear hB
        refine ⟨hS0, ?_⟩
        try go_frame
        refine wpAnyH_done (by kernel_rfl) ?_ _
        try go_frame
        go_wp2_with fail
        go_meet
        case rel => exact ⟨b8, b9, _, _, O, H, rfl, rfl, hwt'.out, hA.pick pZ⟩
    · skip
      refine opAlloc_at (i := 12) (d := some 8) rfl rfl (by kernel_rfl) (E := 94) rfl (z := .slice none 0 0) (vs := [.slice none 0 0]) (by kernel_rfl) (by exact rfl) hA ?_
      intro b8 w3 hB
      have hS0 : BlockIs w3 b7 [.slice axn L.length capn, sv, wv, .int .i64 cnt, .int .i64 (n : Int)] 93 := hB.get (A := Part.cells b7 [.slice axn L.length capn, sv, wv, .int .i64 cnt, .int .i64 (n : Int)] 93) sZ
      clear hA; have hA := hB; clear hB
      refine ⟨hS0, ?_⟩
      try go_frame
      refine wpAnyH_two (i := 8) (j := 13) (by kernel_rfl) ?_ ?_
      · skip
        refine opCall_at (i := 8) (d := some 32) rfl rfl (by kernel_rfl) (fn := 44) (args := #[.slice axn L.length capn, .int .i64 (n : Int)]) (by simp [execOp, go_sem, Act.eval, Act.put]) ((waits_any (hA.sep2 (A := rowNd (.slice axn L.length capn) L) (B := restX L) sZ sZ) n hL'.out.kle hL'.out.kn.hn hL'.out.seven hL1 hn9).mono (fun e w' h => WtPost.r h)) ?_
        rintro u w3 ⟨ov, hv, O, H, rfl, hwt, hT⟩
        have hB := hA.call2 (A := rowNd (.slice axn L.length capn) L) (B := restX L) sZ sZ hT
        have hwt' := Lib.hid hwt
        simp only [List.cons_append, List.nil_append] at hB
        obtain ⟨axo, capo, hov, _, _, _⟩ := hB.row_form (e := 101) (size := 1) (n := O.length) (v := ov) (xs := flatO O) sZ
        obtain ⟨axh, caph, hhv, _, _, _⟩ := hB.row_form (e := 63) (size := 1) (n := H.length) (v := hv) (xs := flatH H) sZ
        subst hov
        subst hhv
        clear hT hwt
        have hS0 : BlockIs w3 b7 [.slice axn L.length capn, sv, wv, .int .i64 cnt, .int .i64 (n : Int)] 93 := hB.get (A := Part.cells b7 [.slice axn L.length capn, sv, wv, .int .i64 cnt, .int .i64 (n : Int)] 93) sZ
        clear hA; have hA := hB; clear hB
        refine ⟨hS0, ?_⟩
        try go_frame
        refine tP 9 23 (.tuple #[.slice axo O.length capo, .slice axh H.length caph]) (s := hS0) (h := ?_)
        try go_frame
        refine tP 10 33 (.slice axo O.length capo) (s := hS0) (h := ?_)
        try go_frame
        refine tP 11 34 (.slice axh H.length caph) (s := hS0) (h := ?_)
        try go_frame
        refine wpAnyH_one (i := 13) (by kernel_rfl) ?_
        refine opAlloc_at (i := 13) (d := some 9) rfl rfl (by kernel_rfl) (E := 95) rfl (z := .slice none 0 0) (vs := [.slice none 0 0]) (by kernel_rfl) (by exact rfl) hA ?_
        intro b9 w3 hB
        have hS0 : BlockIs w3 b7 [.slice axn L.length capn, sv, wv, .int .i64 cnt, .int .i64 (n : Int)] 93 := hB.get (A := Part.cells b7 [.slice axn L.length capn, sv, wv, .int .i64 cnt, .int .i64 (n : Int)] 93) sZ
        clear hA; have hA := hB; clear hB
        refine ⟨hS0, ?_⟩
        try go_frame
        refine wpAnyH_one (i := 14) (by kernel_rfl) ?_
        refine opStore_at (i := 14) (b := b8) (j := 0) (vs := [.slice axo O.length capo]) rfl rfl (by kernel_rfl) rfl (by exact rfl) (by exact rfl) rfl hA sZ (by kernel_rfl) rfl (by show 0 + 1 ≤ 1; omega) ?_
        intro w3 hB
        simp only [uA] at hB
        have hS0 : BlockIs w3 b7 [.slice axn L.length capn, sv, wv, .int .i64 cnt, .int .i64 (n : Int)] 93 := hB.get (A := Part.cells b7 [.slice axn L.length capn, sv, wv, .int .i64 cnt, .int .i64 (n : Int)] 93) sZ
        clear hA; have hA := hB; clear hB
        refine ⟨hS0, ?_⟩
        try go_frame
        refine wpAnyH_one (i := 15) (by kernel_rfl) ?_
        refine opStore_at (i := 15) (b := b9) (j := 0) (vs := [.slice axh H.length caph]) rfl rfl (by kernel_rfl) rfl (by exact rfl) (by exact rfl) rfl hA sZ (by kernel_rfl) rfl (by show 0 + 1 ≤ 1; omega) ?_
        intro w3 hB
        simp only [uA] at hB
        have hS0 : BlockIs w3 b7 [.slice axn L.length capn, sv, wv, .int .i64 cnt, .int .i64 (n : Int)] 93 := hB.get (A := Part.cells b7 [.slice axn L.length capn, sv, wv, .int .i64 cnt, .int .i64 (n : Int)] 93) sZ
        clear hA; have hA := hB; clear hB
        refine ⟨hS0, ?_⟩
        try go_frame
        refine wpAnyH_done (by kernel_rfl) ?_ _
        try go_frame
        go_wp2_with fail
        go_meet
        case rel => exact ⟨b8, b9, _, _, O, H, rfl, rfl, hwt'.out, hA.pick pZ⟩
      · skip
        refine opAlloc_at (i := 13) (d := some 9) rfl rfl (by kernel_rfl) (E := 95) rfl (z := .slice none 0 0) (vs := [.slice none 0 0]) (by kernel_rfl) (by exact rfl) hA ?_
        intro b9 w3 hB
        have hS0 : BlockIs w3 b7 [.slice axn L.length capn, sv, wv, .int .i64 cnt, .int .i64 (n : Int)] 93 := hB.get (A := Part.cells b7 [.slice axn L.length capn, sv, wv, .int .i64 cnt, .int .i64 (n : Int)] 93) sZ
        clear hA; have hA := hB; clear hB
        refine ⟨hS0, ?_⟩
        try go_frame
        refine wpAnyH_one (i := 8) (by kernel_rfl) ?_
        refine opCall_at (i := 8) (d := some 32) rfl rfl (by kernel_rfl) (fn := 44) (args := #[.slice axn L.length capn, .int .i64 (n : Int)]) (by simp [execOp, go_sem, Act.eval, Act.put]) ((waits_any (hA.sep2 (A := rowNd (.slice axn L.length capn) L) (B := restX L) sZ sZ) n hL'.out.kle hL'.out.kn.hn hL'.out.seven hL1 hn9).mono (fun e w' h => WtPost.r h)) ?_
        rintro u w3 ⟨ov, hv, O, H, rfl, hwt, hT⟩
        have hB := hA.call2 (A := rowNd (.slice axn L.length capn) L) (B := restX L) sZ sZ hT
        have hwt' := Lib.hid hwt
        simp only [List.cons_append, List.nil_append] at hB
        obtain ⟨axo, capo, hov, _, _, _⟩ := hB.row_form (e := 101) (size := 1) (n := O.length) (v := ov) (xs := flatO O) sZ
        obtain ⟨axh, caph, hhv, _, _, _⟩ := hB.row_form (e := 63) (size := 1) (n := H.length) (v := hv) (xs := flatH H) sZ
        subst hov
        subst hhv
        clear hT hwt
        have hS0 : BlockIs w3 b7 [.slice axn L.length capn, sv, wv, .int .i64 cnt, .int .i64 (n : Int)] 93 := hB.get (A := Part.cells b7 [.slice axn L.length capn, sv, wv, .int .i64 cnt, .int .i64 (n : Int)] 93) sZ
        clear hA; have hA := hB; clear hB
        refine ⟨hS0, ?_⟩
        try go_frame
        refine tP 9 23 (.tuple #[.slice axo O.length capo, .slice axh H.length caph]) (s := hS0) (h := ?_)
        try go_frame
        refine tP 10 33 (.slice axo O.length capo) (s := hS0) (h := ?_)
        try go_frame
        refine tP 11 34 (.slice axh H.length caph) (s := hS0) (h := ?_)
        try go_frame
        refine wpAnyH_one (i := 14) (by kernel_rfl) ?_
        refine opStore_at (i := 14) (b := b8) (j := 0) (vs := [.slice axo O.length capo]) rfl rfl (by kernel_rfl) rfl (by exact rfl) (by exact rfl) rfl hA sZ (by kernel_rfl) rfl (by show 0 + 1 ≤ 1; omega) ?_
        intro w3 hB
        simp only [uA] at hB
        have hS0 : BlockIs w3 b7 [.slice axn L.length capn, sv, wv, .int .i64 cnt, .int .i64 (n : Int)] 93 := hB.get (A := Part.cells b7 [.slice axn L.length capn, sv, wv, .int .i64 cnt, .int .i64 (n : Int)] 93) sZ
        clear hA; have hA := hB; clear hB
        refine ⟨hS0, ?_⟩
        try go_frame
        refine wpAnyH_one (i := 15) (by kernel_rfl) ?_
        refine opStore_at (i := 15) (b := b9) (j := 0) (vs := [.slice axh H.length caph]) rfl rfl (by kernel_rfl) rfl (by exact rfl) (by exact rfl) rfl hA sZ (by kernel_rfl) rfl (by show 0 + 1 ≤ 1; omega) ?_
        intro w3 hB
        simp only [uA] at hB
        have hS0 : BlockIs w3 b7 [.slice axn L.length capn, sv, wv, .int .i64 cnt, .int .i64 (n : Int)] 93 := hB.get (A := Part.cells b7 [.slice axn L.length capn, sv, wv, .int .i64 cnt, .int .i64 (n : Int)] 93) sZ
        clear hA; have hA := hB; clear hB
        refine ⟨hS0, ?_⟩
        try go_frame
        refine wpAnyH_done (by kernel_rfl) ?_ _
        try go_frame
        go_wp2_with fail
        go_meet
        case rel => exact ⟨b8, b9, _, _, O, H, rfl, rfl, hwt'.out, hA.pick pZ⟩
    · skip
      refine opAlloc_at (i := 13) (d := some 9) rfl rfl (by kernel_rfl) (E := 95) rfl (z := .slice none 0 0) (vs := [.slice none 0 0]) (by kernel_rfl) (by exact rfl) hA ?_
      intro b9 w3 hB
      have hS0 : BlockIs w3 b7 [.slice axn L.length capn, sv, wv, .int .i64 cnt, .int .i64 (n : Int)] 93 := hB.get (A := Part.cells b7 [.slice axn L.length capn, sv, wv, .int .i64 cnt, .int .i64 (n : Int)] 93) sZ
      clear hA; have hA := hB; clear hB
      refine ⟨hS0, ?_⟩
      try go_frame
      refine wpAnyH_two (i := 8) (j := 12) (by kernel_rfl) ?_ ?_
      · skip
        refine opCall_at (i := 8) (d := some 32) rfl rfl (by kernel_rfl) (fn := 44) (args := #[.slice axn L.length capn, .int .i64 (n : Int)]) (by simp [execOp, go_sem, Act.eval, Act.put]) ((waits_any (hA.sep2 (A := rowNd (.slice axn L.length capn) L) (B := restX L) sZ sZ) n hL'.out.kle hL'.out.kn.hn hL'.out.seven hL1 hn9).mono (fun e w' h => WtPost.r h)) ?_
        rintro u w3 ⟨ov, hv, O, H, rfl, hwt, hT⟩
        have hB := hA.call2 (A := rowNd (.slice axn L.length capn) L) (B := restX L) sZ sZ hT
        have hwt' := Lib.hid hwt
        simp only [List.cons_append, List.nil_append] at hB
        obtain ⟨axo, capo, hov, _, _, _⟩ := hB.row_form (e := 101) (size := 1) (n := O.length) (v := ov) (xs := flatO O) sZ
        obtain ⟨axh, caph, hhv, _, _, _⟩ := hB.row_form (e := 63) (size := 1) (n := H.length) (v := hv) (xs := flatH H) sZ
        subst hov
        subst hhv
        clear hT hwt
        have hS0 : BlockIs w3 b7 [.slice axn L.length capn, sv, wv, .int .i64 cnt, .int .i64 (n : Int)] 93 := hB.get (A := Part.cells b7 [.slice axn L.length capn, sv, wv, .int .i64 cnt, .int .i64 (n : Int)] 93) sZ
        clear hA; have hA := hB; clear hB
        refine ⟨hS0, ?_⟩
        try go_frame
        refine tP 9 23 (.tuple #[.slice axo O.length capo, .slice axh H.length caph]) (s := hS0) (h := ?_)
        try go_frame
        refine tP 10 33 (.slice axo O.length capo) (s := hS0) (h := ?_)
        try go_frame
        refine tP 11 34 (.slice axh H.length caph) (s := hS0) (h := ?_)
        try go_frame
        refine wpAnyH_one (i := 12) (by kernel_rfl) ?_
        refine opAlloc_at (i := 12) (d := some 8) rfl rfl (by kernel_rfl) (E := 94) rfl (z := .slice none 0 0) (vs := [.slice none 0 0]) (by kernel_rfl) (by exact rfl) hA ?_
        intro b8 w3 hB
        have hS0 : BlockIs w3 b7 [.slice axn L.length capn, sv, wv, .int .i64 cnt, .int .i64 (n : Int)] 93 := hB.get (A := Part.cells b7 [.slice axn L.length capn, sv, wv, .int .i64 cnt, .int .i64 (n : Int)] 93) sZ
        clear hA; have hA := hB; clear hB
        refine ⟨hS0, ?_⟩
        try go_frame
        refine wpAnyH_one (i := 14) (by kernel_rfl) ?_
        refine opStore_at (i := 14) (b := b8) (j := 0) (vs := [.slice axo O.length capo]) rfl rfl (by kernel_rfl) rfl (by exact rfl) (by exact rfl) rfl hA sZ (by kernel_rfl) rfl (by show 0 + 1 ≤ 1; omega) ?_
        intro w3 hB
        simp only [uA] at hB
        have hS0 : BlockIs w3 b7 [.slice axn L.length capn, sv, wv, .int .i64 cnt, .int .i64 (n : Int)] 93 := hB.get (A := Part.cells b7 [.slice axn L.length capn, sv, wv, .int .i64 cnt, .int .i64 (n : Int)] 93) sZ
        clear hA; have hA := hB; clear hB
        refine ⟨hS0, ?_⟩
        try go_frame
        refine wpAnyH_one (i := 15) (by kernel_rfl) ?_
        refine opStore_at (i := 15) (b := b9) (j := 0) (vs := [.slice axh H.length caph]) rfl rfl (by kernel_rfl) rfl (by exact rfl) (by exact rfl) rfl hA sZ (by kernel_rfl) rfl (by show 0 + 1 ≤ 1; omega) ?_
        intro w3 hB
        simp only [uA] at hB
        have hS0 : BlockIs w3 b7 [.slice axn L.length capn, sv, wv, .int .i64 cnt, .int .i64 (n : Int)] 93 := hB.get (A := Part.cells b7 [.slice axn L.length capn, sv, wv, .int .i64 cnt, .int .i64 (n : Int)] 93) sZ
        clear hA; have hA := hB; clear hB
        refine ⟨hS0, ?_⟩
        try go_frame
        refine wpAnyH_done (by kernel_rfl) ?_ _
        try go_frame
        go_wp2_with fail
        go_meet
        case rel => exact ⟨b8, b9, _, _, O, H, rfl, rfl, hwt'.out, hA.pick pZ⟩
      · skip
        refine opAlloc_at (i := 12) (d := some 8) rfl rfl (by kernel_rfl) (E := 94) rfl (z := .slice none 0 0) (vs := [.slice none 0 0]) (by kernel_rfl) (by exact rfl) hA ?_
        intro b8 w3 hB
        have hS0 : BlockIs w3 b7 [.slice axn L.length capn, sv, wv, .int .i64 cnt, .int .i64 (n : Int)] 93 := hB.get (A := Part.cells b7 [.slice axn L.length capn, sv, wv, .int .i64 cnt, .int .i64 (n : Int)] 93) sZ
        clear hA; have hA := hB; clear hB
        refine ⟨hS0, ?_⟩
        try go_frame
        refine wpAnyH_one (i := 8) (by kernel_rfl) ?_
        refine opCall_at (i := 8) (d := some 32) rfl rfl (by kernel_rfl) (fn := 44) (args := #[.slice axn L.length capn, .int .i64 (n : Int)]) (by simp [execOp, go_sem, Act.eval, Act.put]) ((waits_any (hA.sep2 (A := rowNd (.slice axn L.length capn) L) (B := restX L) sZ sZ) n hL'.out.kle hL'.out.kn.hn hL'.out.seven hL1 hn9).mono (fun e w' h => WtPost.r h)) ?_
        rintro u w3 ⟨ov, hv, O, H, rfl, hwt, hT⟩
        have hB := hA.call2 (A := rowNd (.slice axn L.length capn) L) (B := restX L) sZ sZ hT
        have hwt' := Lib.hid hwt
        simp only [List.cons_append, List.nil_append] at hB
        obtain ⟨axo, capo, hov, _, _, _⟩ := hB.row_form (e := 101) (size := 1) (n := O.length) (v := ov) (xs := flatO O) sZ
        obtain ⟨axh, caph, hhv, _, _, _⟩ := hB.row_form (e := 63) (size := 1) (n := H.length) (v := hv) (xs := flatH H) sZ
        subst hov
        subst hhv
        clear hT hwt
        have hS0 : BlockIs w3 b7 [.slice axn L.length capn, sv, wv, .int .i64 cnt, .int .i64 (n : Int)] 93 := hB.get (A := Part.cells b7 [.slice axn L.length capn, sv, wv, .int .i64 cnt, .int .i64 (n : Int)] 93) sZ
        clear hA; have hA := hB; clear hB
        refine ⟨hS0, ?_⟩
        try go_frame
        refine tP 9 23 (.tuple #[.slice axo O.length capo, .slice axh H.length caph]) (s := hS0) (h := ?_)
        try go_frame
        refine tP 10 33 (.slice axo O.length capo) (s := hS0) (h := ?_)
        try go_frame
        refine tP 11 34 (.slice axh H.length caph) (s := hS0) (h := ?_)
        try go_frame
        refine wpAnyH_one (i := 14) (by kernel_rfl) ?_
        refine opStore_at (i := 14) (b := b8) (j := 0) (vs := [.slice axo O.length capo]) rfl rfl (by kernel_rfl) rfl (by exact rfl) (by exact rfl) rfl hA sZ (by kernel_rfl) rfl (by show 0 + 1 ≤ 1; omega) ?_
        intro w3 hB
        simp only [uA] at hB
        have hS0 : BlockIs w3 b7 [.slice axn L.length capn, sv, wv, .int .i64 cnt, .int .i64 (n : Int)] 93 := hB.get (A := Part.cells b7 [.slice axn L.length capn, sv, wv, .int .i64 cnt, .int .i64 (n : Int)] 93) sZ
        clear hA; have hA := hB; clear hB
        refine ⟨hS0, ?_⟩
        try go_frame
        refine wpAnyH_one (i := 15) (by kernel_rfl) ?_
        refine opStore_at (i := 15) (b := b9) (j := 0) (vs := [.slice axh H.length caph]) rfl rfl (by kernel_rfl) rfl (by exact rfl) (by exact rfl) rfl hA sZ (by kernel_rfl) rfl (by show 0 + 1 ≤ 1; omega) ?_
        intro w3 hB
        simp only [uA] at hB
        have hS0 : BlockIs w3 b7 [.slice axn L.length capn, sv, wv, .int .i64 cnt, .int .i64 (n : Int)] 93 := hB.get (A := Part.cells b7 [.slice axn L.length capn, sv, wv, .int .i64 cnt, .int .i64 (n : Int)] 93) sZ
        clear hA; have hA := hB; clear hB
        refine ⟨hS0, ?_⟩
        try go_frame
        refine wpAnyH_done (by kernel_rfl) ?_ _
        try go_frame
        go_wp2_with fail
        go_meet
        case rel => exact ⟨b8, b9, _, _, O, H, rfl, rfl, hwt'.out, hA.pick pZ⟩
  case rest =>
    obtain ⟨b8, b9, ov, hv, O, H, rfl, rfl, hwt, hB⟩ := hcut
    clear hF hA
    simp only [orL] at hB
    have hst := hwt.start
    obtain ⟨axo, capo, hov, _, hco, _⟩ := hB.row_form (e := 101) (size := 1) (n := O.length) (v := ov) (xs := flatO O) sZ
    obtain ⟨axh, caph, hhv, _, hch, _⟩ := hB.row_form (e := 63) (size := 1) (n := H.length) (v := hv) (xs := flatH H) sZ
    subst hov
    subst hhv
    rw [hst.lo] at hB hco
    rw [hst.lh] at hB hch
    have hst' := Lib.hid hst
    clear hwt hst; have hA := hB; clear hB
    (try simp only [uA] at hA); have hF := hA.facts; (try simp only [fZ] at hF)
    go_wp2_with (first | ((with_reducible refine gst ?_); refine wS hA ?_; clear hF hA; intro w1 hA; (try simp only [uA] at hA); have hF := hA.facts; (try simp only [fZ] at hF)) | ((with_reducible refine gbx ?_); refine wB hA ?_; clear hF hA; intro b1 w1 hA hb1; (try simp only [uA] at hA); have hF := hA.facts; (try simp only [fZ] at hF)))
    try go_frame
    have hB := hA.row_nil 38 2
    clear hF hA
    go_loopg [10] L.length (OrRel w p m es f R b4 b7 b8 b9 axn capn sv wv cnt n (.slice axo (n + 1) capo) (.slice axh (n + 1) caph) L (enL es (lstG es l)))
    case atStart => exact ⟨[], [], O, H, OrdS.start, hst'.out, by simp only [orL]; exact hB.pick pZ⟩
    case round =>
      obtain ⟨gone, pre, O1, H1, hos, hoi, hC⟩ := hrel
      simp only [orL] at hC
      have hro : rowO (.slice axo (n + 1) capo) O1 = Part.row 101 1 (.slice axo (n + 1) capo) (n + 1) (flatO O1) := by unfold rowO; rw [hoi.lo]
      have hrh : rowH (.slice axh (n + 1) caph) H1 = Part.row 63 1 (.slice axh (n + 1) caph) (n + 1) (flatH H1) := by unfold rowH; rw [hoi.lh]
      rw [hro, hrh] at hC
      clear hB
      have hPl := Lib.hid (show (pre.map (idK (enL es (lstG es l)))).length ≤ 1000 from by rw [List.length_map]; have := hos.le; omega)
      have hPe := Lib.hid (show (pre.map (idK (enL es (lstG es l)))).length = pre.length from List.length_map ..)
      have hos' := Lib.hid hos
      have hoi' := Lib.hid hoi
      clear hos hoi hro hrh
      generalize hP : pre.map (idK (enL es (lstG es l))) = P at *
      have hP' := Lib.hid hP
      clear hP
      obtain ⟨axP, capP, hvP, _, hcpP, _⟩ := hC.row_form .here
      subst hvP
      have hA := hC
      clear hC
      by_cases hlt : P.length < L.length
      · have hlt2 : pre.length < L.length := by rw [← hPe.out]; exact hlt
        have hltI : (P.length : Int) < L.length := by omega
        (try simp only [uA] at hA); have hF := hA.facts; (try simp only [fZ] at hF)
        go_wp2_with (first | ((with_reducible refine gst ?_); refine wS hA ?_; clear hF hA; intro w1 hA; (try simp only [uA] at hA); have hF := hA.facts; (try simp only [fZ] at hF)) | ((with_reducible refine gbx ?_); refine wB hA ?_; clear hF hA; intro b1 w1 hA hb1; (try simp only [uA] at hA); have hF := hA.facts; (try simp only [fZ] at hF)))
        have hB : At [R, GrP p m es] w (kaL b9 b8 (.slice axh (n + 1) caph) (.slice axo (n + 1) capo) O1 H1 ++ [rowI2 (.slice axP P.length capP) P, restH H1, Part.cells b7 [.slice axn L.length capn, sv, wv, .int .i64 cnt, .int .i64 (n : Int)] 93, rowNd (.slice axn L.length capn) L, restX L, R, GrP p m es, Part.cells b4 [.int .i64 f.f0, .int .i64 f.f1, .int .i64 f.f2, .int .i64 f.f3, .int .i64 f.f4, .int .i64 f.f5, .int .i64 f.f6] 24]) wr := by
          simp only [kaL, rowO, rowH]
          rw [hoi'.out.lo, hoi'.out.lh]
          exact hA.pick pZ
        have hC := hB.to (ka_eqv b9 b8 (.slice axh (n + 1) caph) (.slice axo (n + 1) capo) O1 H1 _).symm
        clear hF hA hB
        have hin : InN O1 H1 L := fun d hd => by
          obtain ⟨i, hi⟩ := List.mem_iff_getElem?.1 hd
          have := hL'.out.kle i d hi
          exact ⟨_, _, List.getElem?_eq_getElem (by rw [hoi'.out.lh]; omega), List.getElem?_eq_getElem (by rw [hoi'.out.lo]; omega)⟩
        refine (idxn_any (v := .slice axn L.length capn) (L := L) (b9 := b9) (b8 := b8) (hv := .slice axh (n + 1) caph) (ov := .slice axo (n + 1) capo) (O := O1) (H := H1) (hC.sep2 (A := rowNd (.slice axn L.length capn) L) (B := kaP b9 b8 (.slice axh (n + 1) caph) (.slice axo (n + 1) capo) O1 H1) sZ sZ) hin (by omega)).mono ?_
        rintro e w1 ⟨⟨i, d, rfl, hd, hf, hno⟩ | ⟨rfl, hno⟩, hT⟩
        · have hB := hC.call2 (A := rowNd (.slice axn L.length capn) L) (B := kaP b9 b8 (.slice axh (n + 1) caph) (.slice axo (n + 1) capo) O1 H1) sZ sZ hT
          have hB2 : At [R, GrP p m es] w _ w1 := (hB.take (A := kaP b9 b8 (.slice axh (n + 1) caph) (.slice axo (n + 1) capo) O1 H1) sZ).to (ka_eqv b9 b8 (.slice axh (n + 1) caph) (.slice axo (n + 1) capo) O1 H1 _)
          clear hC hT hB
          simp only [kaL, rowO, rowH, List.cons_append, List.nil_append] at hB2
          rw [hoi'.out.lo, hoi'.out.lh] at hB2
          have hnx := hoi'.out.next hL'.out.kle hd hf hno
          have hfr := List.find?_some hnx
          have hkn := knF_at hd
          have hos2 := hos'.out.step hL'.out.kn hlt2 hnx
          rw [hkn] at hos2
          have hgn : d.knot ∉ gone := by have := (Tar.freeP_iff.1 hfr).1; rwa [hkn] at this
          have hkl := hL'.out.kle i d hd
          obtain ⟨x, hx⟩ : ∃ x, H1[d.knot]? = some x := ⟨_, List.getElem?_eq_getElem (by rw [hoi'.out.lh]; omega)⟩
          have hxs := hoi'.out.has _ _ hx hgn
          have hi := (List.getElem?_eq_some_iff.1 hd).1
          have hiI : (i : Int) < L.length := by omega
          have hxne := Lib.hid (show x.hs ≠ [] from fun e => by
            have h1 : i ∈ knotL L.length (knF L) d.knot := Tar.knotL_mem.2 ⟨hi, hkn⟩
            rw [← hxs.1, e] at h1
            cases h1)
          have hxl := Lib.hid (show x.hs.length ≤ 1000 from by rw [hxs.1]; exact Nat.le_trans Tar.knot_len hL1)
          have hkt := Lib.hid (show KtIn es L x.hs (enL es (lstG es l)) from by rw [hxs.1]; exact hL'.out.kt _ (Tar.knotL_inc ..) fun j hj => (Tar.knotL_mem.1 hj).1)
          rw [← hxs.1] at hos2
          have hos2' := Lib.hid hos2
          have hx' := Lib.hid hx
          have hno' := Lib.hid hno
          have hlh1 := Lib.hid hoi'.out.lh
          have hlo1 := Lib.hid hoi'.out.lo
          have hspH := Lib.hid (split_at hx)
          obtain ⟨bn, offn, hax2, hce2⟩ := row_elemG Nd.cells_len (by omega) (l := L) (x := d) (hB2.row_reads (v := .slice axn L.length capn) (n := L.length) (xs := flatN L) sZ) hd
          have hc6 : w1.cell? ⟨bn, offn + i * 7 + 6, none⟩ = some (.int .i64 d.knot) := hce2 6 _ rfl
          have hd' := Lib.hid hd
          clear hnx hfr hno hf hx hxs hce2 hd hos2
          subst hax2
          have hA := hB2
          clear hB2
          have hB := outH hspH.out hA sZ
          clear hA; have hA := hB; clear hB
          simp only [Hs.v] at hA
          obtain ⟨gH, cH, hgx, hH1, hH2c, hH3, hH4, hB⟩ := hA.row_open (e := 63) (size := 1) (ax := axh) (cap := caph) (n := n + 1) (xs := flatH H1) sZ (by omega)
          subst hgx
          clear hA; have hA := hB; clear hB
          have hcx : cH[d.knot]? = some (.slice x.ha x.hs.length x.hc) := by have := cells_at (enc := Hs.cells) (size := 1) (fun _ => rfl) (c := cH) (l := H1) (by rw [hlh1.out]; exact hH4) hx'.out 0 (by omega); simpa [Hs.cells] using this
          have hH4 := Lib.hid hH4
          have hkI : (d.knot : Int) < (n : Int) + 1 := by omega
          (try simp only [uA] at hA); have hF := hA.facts; (try simp only [fZ] at hF)
          go_upto_region 8 with (first | ((with_reducible refine gst ?_); refine wS hA ?_; clear hF hA; intro w1 hA; (try simp only [uA] at hA); have hF := hA.facts; (try simp only [fZ] at hF)) | ((with_reducible refine gbx ?_); refine wB hA ?_; clear hF hA; intro b1 w1 hA hb1; (try simp only [uA] at hA); have hF := hA.facts; (try simp only [fZ] at hF)))
          try go_frame
          have hB := hA.drew
          clear hF hA; have hA := hB; clear hB
          refine wp_region_held (S := fun w' => BlockIs w' b7 [.slice (some ⟨bn, offn, none⟩) L.length capn, sv, wv, .int .i64 cnt, .int .i64 (n : Int)] 93 ∧ BlockIs w' b9 [.slice (some ⟨gH, 0, none⟩) (n + 1) caph] 95 ∧ BlockIs w' gH cH 63) hm ?_
          change wpAnyH _ _ _ _ _ 13 _ _ (World.drew _)
          generalize World.drew _ = wd at *
          have hS0 := (⟨hA.get (A := Part.cells b7 [.slice (some ⟨bn, offn, none⟩) L.length capn, sv, wv, .int .i64 cnt, .int .i64 (n : Int)] 93) sZ, hA.get (A := Part.cells b9 [.slice (some ⟨gH, 0, none⟩) (n + 1) caph] 95) sZ, hA.get (A := Part.cells gH cH 63) sZ⟩ : (fun w' => BlockIs w' b7 [.slice (some ⟨bn, offn, none⟩) L.length capn, sv, wv, .int .i64 cnt, .int .i64 (n : Int)] 93 ∧ BlockIs w' b9 [.slice (some ⟨gH, 0, none⟩) (n + 1) caph] 95 ∧ BlockIs w' gH cH 63) wd)
          refine tP 0 57 (.slice axP P.length capP) (s := hS0) (h := ?_)
          try go_frame
          refine tP 1 58 (.pointer (some ⟨p, 0, none⟩)) (s := hS0) (h := ?_)
          try go_frame
          refine tP 2 59 (.pointer (some ⟨b7, 0, none⟩)) (s := hS0) (h := ?_)
          try go_frame
          refine tP 3 60 (.pointer (some ⟨b7, 0, none⟩)) (s := hS0) (h := ?_)
          try go_frame
          refine tP 4 61 (.pointer (some ⟨b7, 0, none⟩)) (s := hS0) (h := ?_)
          try go_frame
          refine tZ 5 62 (.slice (some ⟨bn, offn, none⟩) L.length capn) (r := (fun w' hS => run_load_one (ty := 89) (b := b7) (j := 0) rfl (by exact rfl) hS.1 (by kernel_rfl) rfl)) (s := hS0) (h := ?_)
          try go_frame
          refine tZ 6 63 (.slice (some ⟨gH, 0, none⟩) (n + 1) caph) (r := (fun w' hS => run_load_one (ty := 95) (b := b9) (j := 0) rfl (by exact rfl) hS.2.1 (by kernel_rfl) rfl)) (s := hS0) (h := ?_)
          try go_frame
          refine tP 7 64 (.int .i64 (d.knot : Int)) (s := hS0) (h := ?_)
          try go_frame
          refine tZ 8 65 (.pointer (some ⟨gH, d.knot, none⟩)) (r := (fun w' hS => by simp [execOp, go_sem, Act.eval, Act.put]; omega)) (s := hS0) (h := ?_)
          try go_frame
          refine tZ 9 66 (.slice x.ha x.hs.length x.hc) (r := (fun w' hS => run_load_one (ty := 63) (b := gH) (j := d.knot) rfl (by exact rfl) hS.2.2 (by kernel_rfl) hcx)) (s := hS0) (h := ?_)
          try go_frame
          refine wpAnyH_one (i := 10) (by kernel_rfl) ?_
          refine opCall_at (i := 10) (d := some 67) (R := fun u w' => At [GrP p m es, rowNd (.slice (some ⟨bn, offn, none⟩) L.length capn) L, rowX (.slice x.ha x.hs.length x.hc) x.hs] wd [rowI2 u ((sortS (sqE (enL es (lstG es l))) x.hs).map (idK (enL es (lstG es l)))), GrP p m es, rowNd (.slice (some ⟨bn, offn, none⟩) L.length capn) L, rowX (.slice x.ha x.hs.length x.hc) x.hs] w') rfl rfl (by kernel_rfl) (fn := 47) (args := #[.pointer (some ⟨p, 0, none⟩), .slice (some ⟨bn, offn, none⟩) L.length capn, .slice x.ha x.hs.length x.hc]) (by simp [execOp, go_sem, Act.eval, Act.put]) ((knot_any (hA.sep3 (A := GrP p m es) (B := rowNd (.slice (some ⟨bn, offn, none⟩) L.length capn) L) (C := rowX (.slice x.ha x.hs.length x.hc) x.hs) sZ sZ sZ) hkt.out hxne.out hxl.out hL1 hoke'.out hu'.out).mono fun e w' ⟨v, he, hT⟩ => ⟨v, he, hT⟩) ?_
          intro vq w3 hT
          have hB := hA.call3 (A := GrP p m es) (B := rowNd (.slice (some ⟨bn, offn, none⟩) L.length capn) L) (C := rowX (.slice x.ha x.hs.length x.hc) x.hs) sZ sZ sZ hT
          simp only [List.cons_append, List.nil_append] at hB
          generalize hQ : (sortS (sqE (enL es (lstG es l))) x.hs).map (idK (enL es (lstG es l))) = QQ at *
          have hQl := Lib.hid (show QQ.length = x.hs.length from by rw [← hQ, List.length_map, sortS_len])
          have hQ' := Lib.hid hQ
          clear hT hQ
          have hS0 := (⟨hB.get (A := Part.cells b7 [.slice (some ⟨bn, offn, none⟩) L.length capn, sv, wv, .int .i64 cnt, .int .i64 (n : Int)] 93) sZ, hB.get (A := Part.cells b9 [.slice (some ⟨gH, 0, none⟩) (n + 1) caph] 95) sZ, hB.get (A := Part.cells gH cH 63) sZ⟩ : (fun w' => BlockIs w' b7 [.slice (some ⟨bn, offn, none⟩) L.length capn, sv, wv, .int .i64 cnt, .int .i64 (n : Int)] 93 ∧ BlockIs w' b9 [.slice (some ⟨gH, 0, none⟩) (n + 1) caph] 95 ∧ BlockIs w' gH cH 63) w3)
          clear hA; have hA := hB; clear hB
          refine ⟨hS0, ?_⟩
          try go_frame
          refine wpAnyH_one (i := 11) (by kernel_rfl) ?_
          refine opAppend_at (k := 11) (d := some 68) (e := 38) (size := 2) (v := .slice axP P.length capP) (xs := flatI P) (n := P.length) (m := QQ.length) (news := flatI QQ) rfl rfl rfl rfl _ _ 31 rfl Try.underlying31 hi0 hz0 hz1 hz2 rfl (by omega) hA sZ (by (try simp only [Act.eval, eV]) <;> exact rfl) (by (try simp only [Act.eval, eV]) <;> exact rfl) (flatI_len _) (hA.row_reads (v := vq) (n := QQ.length) (xs := flatI QQ) sZ) (flatI_one _) (by have := hQl.out; have := hxl.out; have := hPl.out; unfold maxLen; omega) (by have := hQl.out; have := hxl.out; have := hPl.out; omega) ?_
          intro vp w3 hB
          rw [rowI2_app] at hB
          have hS0 := (⟨hB.get (A := Part.cells b7 [.slice (some ⟨bn, offn, none⟩) L.length capn, sv, wv, .int .i64 cnt, .int .i64 (n : Int)] 93) sZ, hB.get (A := Part.cells b9 [.slice (some ⟨gH, 0, none⟩) (n + 1) caph] 95) sZ, hB.get (A := Part.cells gH cH 63) sZ⟩ : (fun w' => BlockIs w' b7 [.slice (some ⟨bn, offn, none⟩) L.length capn, sv, wv, .int .i64 cnt, .int .i64 (n : Int)] 93 ∧ BlockIs w' b9 [.slice (some ⟨gH, 0, none⟩) (n + 1) caph] 95 ∧ BlockIs w' gH cH 63) w3)
          clear hA; have hA := hB; clear hB
          refine ⟨hS0, ?_⟩
          try go_frame
          refine tP 12 10 (vp) (s := hS0) (h := ?_)
          try go_frame
          refine wpAnyH_done (by kernel_rfl) ?_ _
          try go_frame
          clear hS0
          (try simp only [uA] at hA); have hF := hA.facts; (try simp only [fZ] at hF)
          go_wp2_with (first | ((with_reducible show wpList _ _ _ ({ dst := none, op := Op.store _ _ _, type := _, pos := _, after := _, guard := _ } :: _) _ _); refine wpList_store_at (b := gH) (j := d.knot) (c := cH) (vs := [.slice none 0 0]) rfl rfl (by (try simp only [Act.eval, eV]) <;> exact rfl) (by (try simp only [Act.eval, eV]) <;> exact rfl) (by exact rfl) hA sZ (by kernel_rfl) rfl (by show d.knot + 1 ≤ cH.length; omega) ?_; intro w1 hB; clear hF hA; have hA := hB; clear hB; (try simp only [uA] at hA); have hF := hA.facts; (try simp only [fZ] at hF)) | ((with_reducible refine gst ?_); refine wS hA ?_; clear hF hA; intro w1 hA; (try simp only [uA] at hA); have hF := hA.facts; (try simp only [fZ] at hF)) | ((with_reducible refine gbx ?_); refine wB hA ?_; clear hF hA; intro b1 w1 hA hb1; (try simp only [uA] at hA); have hF := hA.facts; (try simp only [fZ] at hF)))
          try go_frame
          have hw5 := write_part (enc := Hs.cells) (size := 1) (fun _ => rfl) (c := cH) (l := H1) (by rw [hlh1.out]; exact hH4.out) (o := 0) (x' := (⟨none, 0, []⟩ : Hs)) (vs := [.slice none 0 0]) hx'.out rfl (by show 0 + 1 ≤ 1; omega)
          rw [show d.knot * 1 + 0 = d.knot from by omega] at hw5
          obtain ⟨H2, hH2⟩ : ∃ z, H1.set d.knot (⟨none, 0, []⟩ : Hs) = z := ⟨_, rfl⟩
          have hl2 : H2.length = n + 1 := by rw [← hH2, List.length_set, hlh1.out]
          rw [hH2, hlh1.out] at hw5
          have hB := hA.row_shut (e := 63) (size := 1) (g := gH) (n := n + 1) (cap := caph) (xs := flatH H2) sZ (by rw [setL_length]; exact hH3) hH1 hH2c hw5
          have hsp2 : H2 = H1.take d.knot ++ ⟨none, 0, []⟩ :: H1.drop (d.knot + 1) := by rw [← hH2, set_at hx'.out]
          have hD := hB.row_nil 3 1
          have hC := inH (d := ⟨none, 0, []⟩) hsp2 hD .here sZ
          have hH2' := Lib.hid hH2
          have hl2' := Lib.hid hl2
          clear hF hA hB hD hw5 hH2 hsp2 hl2
          have hA : At [R, GrP p m es] w [restO O1, Part.row 101 1 (.slice axo (n + 1) capo) (n + 1) (flatO O1), Part.cells b8 [.slice axo (n + 1) capo] 94, Part.cells b9 [.slice (some ⟨gH, 0, none⟩) (n + 1) caph] 95, restH H2, Part.row 63 1 (.slice (some ⟨gH, 0, none⟩) (n + 1) caph) (n + 1) (flatH H2), rowI2 vp (P ++ QQ), Part.cells b7 [.slice (some ⟨bn, offn, none⟩) L.length capn, sv, wv, .int .i64 cnt, .int .i64 (n : Int)] 93, rowNd (.slice (some ⟨bn, offn, none⟩) L.length capn) L, restX L, R, GrP p m es, Part.cells b4 [.int .i64 f.f0, .int .i64 f.f1, .int .i64 f.f2, .int .i64 f.f3, .int .i64 f.f4, .int .i64 f.f5, .int .i64 f.f6] 24] _ := hC.pick pZ
          clear hC
          obtain ⟨G, hG⟩ : ∃ G, gk - 1 = G := ⟨_, rfl⟩
          have hGk := Lib.hid (show G < gk from by have := hos2'.out.1; omega)
          have hos3 := hos2'.out.2
          rw [hG] at hos3
          have hos3' := Lib.hid hos3
          have hn1 := Lib.hid (show ∀ z : Nat, z = n + 1 → (z : Int) = (n : Int) + 1 from fun z e => by omega)
          clear hG hos3
          obtain ⟨gO, cO, hgo, _, _, _, _, _⟩ := hA.row_open (e := 101) (size := 1) (ax := axo) (cap := capo) (n := n + 1) (xs := flatO O1) sZ (by omega)
          subst hgo
          obtain ⟨kl, hkl2⟩ := keyN (k := d.knot) (by omega)
          go_loopg [74] (n + 1) (DlRel w [R, GrP p m es] [Part.row 101 1 (.slice (some ⟨gO, 0, none⟩) (n + 1) capo) (n + 1) (flatO O1), Part.cells b8 [.slice (some ⟨gO, 0, none⟩) (n + 1) capo] 94, Part.cells b9 [.slice (some ⟨gH, 0, none⟩) (n + 1) caph] 95, Part.row 63 1 (.slice (some ⟨gH, 0, none⟩) (n + 1) caph) (n + 1) (flatH H2), restH H2, rowI2 vp (P ++ QQ), Part.cells b7 [.slice (some ⟨bn, offn, none⟩) L.length capn, sv, wv, .int .i64 cnt, .int .i64 (n : Int)] 93, rowNd (.slice (some ⟨bn, offn, none⟩) L.length capn) L, restX L, R, GrP p m es, Part.cells b4 [.int .i64 f.f0, .int .i64 f.f1, .int .i64 f.f2, .int .i64 f.f3, .int .i64 f.f4, .int .i64 f.f5, .int .i64 f.f6] 24] d.knot O1 n)
          case atStart => exact ⟨0, rfl, by omega, by rw [delO_zero]; exact hA.pick pZ⟩
          case round =>
            obtain ⟨j, rfl, hjk, hB⟩ := hrel
            clear hA hcx hc6; have hA := hB; clear hB
            by_cases hj : j < n + 1
            · skip
              obtain ⟨o, ho⟩ : ∃ o, O1[j]? = some o := ⟨_, List.getElem?_eq_getElem (by rw [hlo1.out]; exact hj)⟩
              have hjI : (j : Int) < (n : Int) + 1 := by omega
              have hc : wr.cell? ⟨gO, j, none⟩ = some (.map o.mb) := by
                have := row_cell1 (enc := Wt.cells) (fun _ => rfl) (e := 101) (n := n + 1) (cap := capo) (b := gO) (off := 0) hA sZ ho rfl
                rwa [Nat.zero_add] at this
              have hsp := Lib.hid (delO_next (k := d.knot) ho)
              have hB := outO (delO_at ho) hA sZ
              have ho' := Lib.hid ho
              clear hA ho; have hA := hB; clear hB
              obtain ⟨mb, ws⟩ := o
              cases mb with
              | none =>
                have hdn := fun w ty => delete_nil hkl2 w ty
                (try simp only [uA] at hA); have hF := hA.facts; (try simp only [fZ] at hF)
                go_wp2_with (first | ((with_reducible refine gst ?_); refine wS hA ?_; clear hF hA; intro w1 hA; (try simp only [uA] at hA); have hF := hA.facts; (try simp only [fZ] at hF)) | ((with_reducible refine gbx ?_); refine wB hA ?_; clear hF hA; intro b1 w1 hA hb1; (try simp only [uA] at hA); have hF := hA.facts; (try simp only [fZ] at hF)))
                go_roundg (gk - 1)
                case measure => omega
                case rel =>
                  have hB := inO (d := Wt.less d.knot ⟨none, ws⟩) hsp.out hA .here sZ
                  exact ⟨j + 1, by simp, by omega, hB.pick pZ⟩
              | some bm =>
                simp only [Wt.part] at hA
                have hM : MapAt Try.prog 3 wr bm (wsE ws) := hA.get (A := Part.map Try.prog 3 bm (wsE ws)) .here
                have hnd := ws_nodup hM.keys
                clear hM
                by_cases hkw : d.knot ∈ ws
                · obtain ⟨l1, l2, e1, e2⟩ := wsE_del hkw hnd
                  have e2' := Lib.hid e2
                  rw [e1] at hA
                  clear e1 e2
                  (try simp only [uA] at hA); have hF := hA.facts; (try simp only [fZ] at hF)
                  go_wp2_with (first | ((with_reducible show wpList _ _ _ ({ dst := _, op := Op.call { callee := Callee.builtin Builtin.delete, args := _, argTypes := _ }, type := _, pos := _, after := _, guard := _ } :: _) _ _); refine wpList_del_there_at (b := bm) (l1 := wsE l1) (l2 := wsE l2) (u := .int .i64 1) rfl rfl (by (try simp only [Act.eval, eV]) <;> exact rfl) (by (try simp only [Act.eval, eV]) <;> exact rfl) hA (k := 3) sR lawN Try.underlying101 hkl2 ?_; intro w1 hB; rw [← e2'.out] at hB; clear hF hA; have hA := hB; clear hB; (try simp only [uA] at hA); have hF := hA.facts; (try simp only [fZ] at hF)) | ((with_reducible refine gst ?_); refine wS hA ?_; clear hF hA; intro w1 hA; (try simp only [uA] at hA); have hF := hA.facts; (try simp only [fZ] at hF)) | ((with_reducible refine gbx ?_); refine wB hA ?_; clear hF hA; intro b1 w1 hA hb1; (try simp only [uA] at hA); have hF := hA.facts; (try simp only [fZ] at hF)))
                  go_roundg (gk - 1)
                  case measure => omega
                  case rel =>
                    have hB := inO (d := Wt.less d.knot ⟨some bm, ws⟩) hsp.out hA sZ sZ
                    exact ⟨j + 1, by simp, by omega, hB.pick pZ⟩
                · have hfw := Lib.hid (less_no hkw)
                  have hwn := Lib.hid (wsE_no hkw)
                  (try simp only [uA] at hA); have hF := hA.facts; (try simp only [fZ] at hF)
                  go_wp2_with (first | ((with_reducible show wpList _ _ _ ({ dst := _, op := Op.call { callee := Callee.builtin Builtin.delete, args := _, argTypes := _ }, type := _, pos := _, after := _, guard := _ } :: _) _ _); refine wpList_del_none_at (b := bm) (es := wsE ws) rfl rfl (by (try simp only [Act.eval, eV]) <;> exact rfl) (by (try simp only [Act.eval, eV]) <;> exact rfl) hA (k := 3) sR lawN Try.underlying101 hkl2 hwn.out ?_; intro w1 hB; rw [← hfw.out] at hB; clear hF hA; have hA := hB; clear hB; (try simp only [uA] at hA); have hF := hA.facts; (try simp only [fZ] at hF)) | ((with_reducible refine gst ?_); refine wS hA ?_; clear hF hA; intro w1 hA; (try simp only [uA] at hA); have hF := hA.facts; (try simp only [fZ] at hF)) | ((with_reducible refine gbx ?_); refine wB hA ?_; clear hF hA; intro b1 w1 hA hb1; (try simp only [uA] at hA); have hF := hA.facts; (try simp only [fZ] at hF)))
                  go_roundg (gk - 1)
                  case measure => omega
                  case rel =>
                    have hB := inO (d := Wt.less d.knot ⟨some bm, ws⟩) hsp.out hA sZ sZ
                    exact ⟨j + 1, by simp, by omega, hB.pick pZ⟩
            · have hjn : ¬ (j : Int) < (n : Int) + 1 := by omega
              (try simp only [uA] at hA); have hF := hA.facts; (try simp only [fZ] at hF)
              go_wp2_with (first | ((with_reducible refine gst ?_); refine wS hA ?_; clear hF hA; intro w1 hA; (try simp only [uA] at hA); have hF := hA.facts; (try simp only [fZ] at hF)) | ((with_reducible refine gbx ?_); refine wB hA ?_; clear hF hA; intro b1 w1 hA hb1; (try simp only [uA] at hA); have hF := hA.facts; (try simp only [fZ] at hF)))
              go_roundg G
              case measure => exact hGk.out
              case rel =>
                rw [delO_end (by rw [hlo1.out]; omega)] at hA
                have hoi2 := hoi'.out.gone d.knot
                rw [hH2'.out] at hoi2
                have hPQ : (pre ++ sortS (sqE (enL es (lstG es l))) x.hs).map (idK (enL es (lstG es l))) = P ++ QQ := by rw [List.map_append, hP'.out, hQ'.out]
                have hro : rowO (.slice (some ⟨gO, 0, none⟩) (n + 1) capo) (O1.map (Wt.less d.knot)) = Part.row 101 1 (.slice (some ⟨gO, 0, none⟩) (n + 1) capo) (n + 1) (flatO O1) := by unfold rowO; rw [List.length_map, hlo1.out, flatO_less]
                have hrh : rowH (.slice (some ⟨gH, 0, none⟩) (n + 1) caph) H2 = Part.row 63 1 (.slice (some ⟨gH, 0, none⟩) (n + 1) caph) (n + 1) (flatH H2) := by unfold rowH; rw [hl2'.out]
                refine ⟨d.knot :: gone, _, _, H2, hos3'.out, hoi2, ?_⟩
                simp only [orL]
                rw [hPQ, hro, hrh]
                exact hA.pick pZ
        · exfalso
          obtain ⟨k, hk, hfk⟩ := hos'.out.more hL'.out.kn hlt2
          obtain ⟨d, hd⟩ : ∃ d, L[k]? = some d := ⟨_, List.getElem?_eq_getElem hk⟩
          have := hoi'.out.free hd (hL'.out.kle k d hd)
          rw [hfk, hno d (List.mem_of_getElem? hd)] at this
          cases this
      · have hdn := hos'.out.done (by have := hPe.out; omega)
        (try simp only [uA] at hA); have hF := hA.facts; (try simp only [fZ] at hF)
        go_wp2_with (first | ((with_reducible refine gst ?_); refine wS hA ?_; clear hF hA; intro w1 hA; (try simp only [uA] at hA); have hF := hA.facts; (try simp only [fZ] at hF)) | ((with_reducible refine gbx ?_); refine wB hA ?_; clear hF hA; intro b1 w1 hA hb1; (try simp only [uA] at hA); have hF := hA.facts; (try simp only [fZ] at hF)))
        go_ret
        have hPG : P = ordG es f (lstG es l) := by rw [← hP'.out, hdn, hL'.out.order]; rfl
        refine ⟨.slice axP P.length capP, rfl, ?_⟩
        rw [← hPG]
        exact hA.pick pZ
end Go.Proofs.Ytgicohkmfbbbdaa.Gr
end
