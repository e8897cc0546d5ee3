/- GrbZ, joined. -/
import Derived.Test.YtgicohkmfbbbdaaK19
import Derived.Test.YtgicohkmfbbbdaaK27
import Derived.Test.YtgicohkmfbbbdaaK20
import Derived.Test.YtgicohkmfbbbdaaK25
section
namespace Go.Proofs.Ytgicohkmfbbbdaa.Gr
open _root_.Go.Proofs.Ytgicohkmfbbbdaa.Mark (ltID)
open Go.RowKit
open Attr (A8 thro)
open Tar (TS cutK cutK_snoc cutK_spec grpP cut_grp cut_last flat_ge)
open _root_.Go.Proofs.Ytgicohkmfbbbdaa.Ref (run_load_cell)
set_option linter.unusedSimpArgs false
set_option linter.unusedVariables false
attribute [-go_sem] run_eql_struct run_neq_struct run_eqGuard_agg

/-- a knot's row -/
structure Gp where
  ga : Option Addr
  gc : Nat
  gs : List I2
def Gp.v (x : Gp) : Value := .slice x.ga x.gs.length x.gc
def Gp.cells (x : Gp) : List Value := [.slice x.ga x.gs.length x.gc]
def Gp.part (x : Gp) : Part := rowI2 x.v x.gs
def flatG (K : List Gp) : List Value := K.flatMap Gp.cells
theorem flatG_len (K : List Gp) : (flatG K).length = K.length * 1 := flat_len Gp.cells 1 (fun _ => rfl) K
abbrev rowG (v : Value) (K : List Gp) : Part := Part.row 31 1 v K.length (flatG K)
theorem rowG_snoc (v : Value) (K : List Gp) (x : Gp) : Part.row 31 1 v (K.length + 1) (flatG K ++ x.cells) = rowG v (K ++ [x]) := by
  unfold rowG
  rw [List.length_append]
  simp [flatG]
theorem rowG_nil (v : Value) (K : List Gp) : Part.row 31 1 v (K.length + 1) (flatG K ++ [.slice none 0 0]) = rowG v (K ++ [⟨none, 0, []⟩]) := rowG_snoc v K ⟨none, 0, []⟩
def restG (K : List Gp) : Part := Part.all (K.map Gp.part)
theorem eqvG (l1 l2 : List Gp) (d : Gp) (F : List Part) : Eqv (restG (l1 ++ d :: l2) :: F) (d.part :: restG (l1 ++ l2) :: F) := by
  refine (Eqv.all _ F).trans ?_
  have p1 : ((l1 ++ d :: l2).map Gp.part ++ F).Perm (d.part :: ((l1 ++ l2).map Gp.part ++ F)) := by
    simp only [List.map_append, List.map_cons, List.append_assoc, List.cons_append]
    exact List.perm_middle
  exact (Eqv.perm p1).trans ((Eqv.all ((l1 ++ l2).map Gp.part) F).symm.prepend [d.part])
theorem outG {L0 L F : List Part} {w0 w : World} {N l1 l2 : List Gp} {d : Gp} (q : N = l1 ++ d :: l2) (h : At L0 w0 L w) (s : Sel (restG N) L F) : At L0 w0 (d.part :: restG (l1 ++ l2) :: F) w := (h.take s).to (by rw [q]; exact eqvG l1 l2 d F)
theorem inG {L0 L F G : List Part} {w0 w : World} {N l1 l2 : List Gp} {d : Gp} (q : N = l1 ++ d :: l2) (h : At L0 w0 L w) (s : Sel d.part L F) (r : Sel (restG (l1 ++ l2)) F G) : At L0 w0 (restG N :: G) w := (h.perm (s.perm.trans (r.perm.cons _))).to (by rw [q]; exact (eqvG l1 l2 d G).symm)
theorem infoG : (Try.prog.info? 31).map (fun i => (i.zero, i.size, i.bytes)) = some (some (.slice none 0 0), 1, 24) := by kernel_rfl
theorem LIn.ids {es : List (I2 × A8)} {f : F7} {Lk : List I2} {L : List Nd} {n : Nat} (h : LIn es f Lk L n) : L.map Nd.id = Lk := by
  refine List.ext_getElem? fun j => ?_
  rw [List.getElem?_map]
  cases hx : Lk[j]? with
  | none => rw [List.getElem?_eq_none (by rw [h.len]; exact List.getElem?_eq_none_iff.1 hx)]; rfl
  | some x =>
    have hj : j < L.length := by rw [h.len]; exact (List.getElem?_eq_some_iff.1 hx).1
    obtain ⟨d, hd, he⟩ := (h.kt [j] (List.pairwise_singleton _ _) fun i hi => by rw [List.mem_singleton.1 hi]; exact hj).at_ j (by simp)
    rw [hd, ← enL_id hx, ← he]
    rfl
/-- of each name its knot's number -/
def ofE (N : List Nd) : List (Value × Value) := N.map fun d => (idV d.id, .int .i64 d.knot)
theorem ofE_next {L : List Nd} {i : Nat} {d : Nd} (h : L[i]? = some d) : ofE (L.take i) ++ [(idV d.id, .int .i64 d.knot)] = ofE (L.take (i + 1)) := by
  rw [List.take_add_one, h]
  simp [ofE]
theorem ofE_no {L : List Nd} {Lk : List I2} (hm : L.map Nd.id = Lk) (hs : Lk.Pairwise ltID) {i : Nat} {d : Nd} (h : L[i]? = some d) : ∀ p ∈ ofE (L.take i), p.1 ≠ idV d.id := by
  intro p hp e
  obtain ⟨c, hc, rfl⟩ := List.mem_map.1 hp
  have e := idV_inj e
  refine not_in_take hs (i := i) (x := d.id) (by rw [← hm, List.getElem?_map, h]; rfl) ?_
  rw [← hm, ← List.map_take, ← e]
  exact List.mem_map.2 ⟨c, hc, rfl⟩
theorem ofE_yes {L : List Nd} {d : Nd} (h : d ∈ L) : (idV d.id, Value.int .i64 (d.knot : Int)) ∈ ofE L := List.mem_map.2 ⟨d, h, rfl⟩
theorem cut_same {ids : Nat → I2} {K : List Gp} {G : List (List Nat)} {x : Nat} (h : K.map Gp.gs = G.map (List.map ids)) (hne : G ≠ []) : ∃ K0 g, K = K0 ++ [g] ∧ K0.map Gp.gs ++ [g.gs ++ [ids x]] = (G.dropLast ++ [(G.getLast?.getD []) ++ [x]]).map (List.map ids) := by
  obtain ⟨G0, y, rfl⟩ : ∃ G0 y, G = G0 ++ [y] := ⟨_, _, (List.dropLast_concat_getLast hne).symm⟩
  have hk : K ≠ [] := fun e => by subst e; simp at h
  obtain ⟨K0, g, rfl⟩ : ∃ K0 g, K = K0 ++ [g] := ⟨_, _, (List.dropLast_concat_getLast hk).symm⟩
  refine ⟨K0, g, rfl, ?_⟩
  simp only [List.map_append, List.map_cons, List.map_nil] at h
  obtain ⟨h1, h2⟩ := List.append_inj' h rfl
  simp only [List.cons.injEq, and_true] at h2
  simp [h1, h2]
theorem grp_len {ids : Nat → I2} {K : List Gp} {G : List (List Nat)} {l : List Nat} (h : K.map Gp.gs = G.map (List.map ids)) (hf : G.flatten = l) : ∀ g ∈ K, g.gs.length ≤ l.length := by
  intro g hg
  have h1 : g.gs ∈ G.map (List.map ids) := by rw [← h]; exact List.mem_map.2 ⟨g, hg, rfl⟩
  obtain ⟨y, hy, e⟩ := List.mem_map.1 h1
  rw [← e, List.length_map, ← hf]
  exact (List.sublist_flatten_of_mem hy).length_le
/-- the constant parts -/
abbrev kcL (p m : Nat) (es : List (I2 × A8)) (f : F7) (R : Part) (b4 b7 : Nat) (axn : Option Addr) (capn : Nat) (sv wv : Value) (cnt : Int) (n : Nat) (L : List Nd) : List Part :=
  [Part.cells b7 [.slice axn L.length capn, sv, wv, .int .i64 cnt, .int .i64 (n : Int)] 93, rowNd (.slice axn L.length capn) L, restX L, R, GrP p m es, Part.cells b4 [.int .i64 f.f0, .int .i64 f.f1, .int .i64 f.f2, .int .i64 f.f3, .int .i64 f.f4, .int .i64 f.f5, .int .i64 f.f6] 24]
def KoRel (w : World) (L0 C : List Part) (mb : Nat) (L : List Nd) (k : Nat) (u : Value) (wr : World) : Prop :=
  ∃ i : Nat, u = .int .i64 i ∧ i + k = L.length ∧ At L0 w (mapC mb (ofE (L.take i)) :: C) wr
def KqRel (w : World) (nl : Nat) (L0 C : List Part) (ids : Nat → I2) (kn : Nat → Nat) (ord : List Nat) (k : Nat) (u1 u2 u3 : Value) (wr : World) : Prop :=
  ∃ (i : Nat) (K : List Gp), u1 = .int .i64 i ∧ u3 = .int .i64 (cutK kn (ord.take i)).2 ∧ i + k = nl ∧ K.map Gp.gs = (cutK kn (ord.take i)).1.map (List.map ids) ∧ At L0 w (rowG u2 K :: restG K :: C) wr
def CutK (w : World) (L0 C : List Part) (ids : Nat → I2) (kn : Nat → Nat) (ord : List Nat) (i b14 : Nat) (id : I2) (u : Value) (wc : World) : Prop :=
  ∃ (K0 : List Gp) (g : Gp), K0.length ≤ 1000 ∧ g.gs.length ≤ 1000 ∧ K0.map Gp.gs ++ [g.gs ++ [id]] = (cutK kn (ord.take (i + 1))).1.map (List.map ids) ∧ At L0 w (Part.cells b14 [.int .i64 id.1, .int .i64 id.2] 38 :: rowG u (K0 ++ [g]) :: restG (K0 ++ [g]) :: C) wc
theorem knot_shut {L0 F : List Part} {w0 w : World} {K0 : List Gp} {g : Gp} {gO capq : Nat} {cO : List Value} {ga2 : Option Addr} {gc2 : Nat} {l : List I2} (hO2 : capq ≤ maxLen) (hO3 : cO.length = capq * 1) (hO4 : cO.take ((K0.length + 1) * 1) = flatG (K0 ++ [g])) (hcpq : K0.length + 1 ≤ capq)
    (h : At L0 w0 (Part.cells gO (setL cO K0.length [.slice ga2 l.length gc2]) 31 :: rowI2 (.slice ga2 l.length gc2) l :: restG (K0 ++ []) :: F) w) :
    At L0 w0 (rowG (.slice (some ⟨gO, 0, none⟩) (K0.length + 1) capq) (K0 ++ [⟨ga2, gc2, l⟩]) :: restG (K0 ++ [⟨ga2, gc2, l⟩]) :: F) w := by
  have hw5 := write_part (enc := Gp.cells) (size := 1) (fun _ => rfl) (c := cO) (l := K0 ++ [g]) (by rw [show (K0 ++ [g]).length = K0.length + 1 by simp]; exact hO4) (i := K0.length) (o := 0) (x := g) (x' := (⟨ga2, gc2, l⟩ : Gp)) (vs := [.slice ga2 l.length gc2]) (by simp) rfl (by show 0 + 1 ≤ 1; omega)
  rw [show K0.length * 1 + 0 = K0.length from by omega, show (K0 ++ [g]).length = K0.length + 1 from by simp, show (K0 ++ [g]).set K0.length (⟨ga2, gc2, l⟩ : Gp) = K0 ++ [⟨ga2, gc2, l⟩] from by simp] at hw5
  have hC := h.row_shut (e := 31) (size := 1) (g := gO) (n := K0.length + 1) (cap := capq) (xs := flatG (K0 ++ [(⟨ga2, gc2, l⟩ : Gp)])) .here (by rw [setL_length]; exact hO3) hcpq hO2 hw5
  have hD := inG (d := ⟨ga2, gc2, l⟩) (N := K0 ++ [⟨ga2, gc2, l⟩]) (l1 := K0) (l2 := []) rfl hC sZ sZ
  have e : rowG (.slice (some ⟨gO, 0, none⟩) (K0.length + 1) capq) (K0 ++ [⟨ga2, gc2, l⟩]) = Part.row 31 1 (.slice (some ⟨gO, 0, none⟩) (K0.length + 1) capq) (K0.length + 1) (flatG (K0 ++ [⟨ga2, gc2, l⟩])) := by unfold rowG; rw [show (K0 ++ [(⟨ga2, gc2, l⟩ : Gp)]).length = K0.length + 1 by simp]
  rw [e]
  exact hD.perm (List.Perm.swap _ _ _)
def KntPost (p m : Nat) (es : List (I2 × A8)) (f : F7) (R : Part) (l : List I2) (w : World) (e : Ending) (w' : World) : Prop :=
  ∃ (u : Value) (K : List Gp) (kn : Nat → Nat) (found : Nat), e = .returned u ∧ Tar.Kn (nxL es f (lstG es l)) (lstG es l).length kn found ∧ K.map Gp.gs = (grpP (nxL es f (lstG es l)) (lstG es l).length kn (sqE (enL es (lstG es l))) (lstG es l).length []).map (List.map (idK (enL es (lstG es l)))) ∧ At [R, GrP p m es] w [rowG u K, restG K, R, GrP p m es] w'
set_option maxRecDepth 100000 in
set_option maxHeartbeats 8000000 in
theorem knots_any {w : World} {R : Part} {v : Value} {l : List I2} {p m : Nat} {es : List (I2 × A8)} (h : Sep [R, GrP p m es] w) (hr : ReadsIn R v l) (hl : l.length ≤ 1000) (hok : ∀ x ∈ l, okD x) (f : F7) (hd : Deps es) (hoke : ∀ e ∈ es, okD e.1) (hu : Uq es) :
    Calls Try.prog 32 #[.pointer (some ⟨p, 0, none⟩), f.val, v] w (KntPost p m es f R l w) := by
  have hm : Try.prog.follows .mixedOrders = true := by kernel_rfl
  obtain ⟨i0, hi0, hz0, hz1, hz2⟩ := info_parts infoI
  obtain ⟨i1, hi1, hz3, hz4, hz5⟩ := info_parts infoG
  have hA := At.start h
  have hF := hA.facts
  have hr' := Lib.hid hr
  have hok' := Lib.hid hok
  have hd' := Lib.hid hd
  have hoke' := Lib.hid hoke
  have hu' := Lib.hid hu
  clear h hr hok hd hoke hu
  simp only [F7.val] at *
  (try simp only [uA] at hA); have hF := hA.facts; (try simp only [fZ] at hF)
  go_enter Try.func32, Try.ntmps32
  go_wp2_with (first | ((with_reducible refine gbx ?_); refine wX 24 (.agg #[.int .i64 f.f0, .int .i64 f.f1, .int .i64 f.f2, .int .i64 f.f3, .int .i64 f.f4, .int .i64 f.f5, .int .i64 f.f6]) [.int .i64 f.f0, .int .i64 f.f1, .int .i64 f.f2, .int .i64 f.f3, .int .i64 f.f4, .int .i64 f.f5, .int .i64 f.f6] hA ?_; clear hF hA; intro b4 w1 hA hb4; (try simp only [uA] at hA); have hF := hA.facts; (try simp only [fZ] at hF)) | ((with_reducible refine gst ?_); refine wS hA ?_; clear hF hA; intro w1 hA; (try simp only [uA] at hA); have hF := hA.facts; (try simp only [fZ] at hF)) | ((with_reducible refine gbx ?_); refine wB hA ?_; clear hF hA; intro b1 w1 hA hb1; (try simp only [uA] at hA); have hF := hA.facts; (try simp only [fZ] at hF)))
  refine (nodes_any (R := R) (v := v) (l := l) (p := p) (m := m) (es := es) (hA.sep2 (A := R) (B := GrP p m es) sZ sZ) hr'.out hl hok'.out f hd'.out).mono ?_
  rintro e w1 ⟨u, N, rfl, hNl, hNd, hT⟩
  have hB := hA.call2 (A := R) (B := GrP p m es) sZ sZ hT
  have hN := Lib.hid (show NdIn es f (lstG es l) N from ⟨hNl, hNd⟩)
  clear hF hA hT hNl hNd; have hA := hB; clear hB
  simp only [List.cons_append, List.nil_append] at hA
  obtain ⟨axn, capn, hnv, haxn, hcpn, _⟩ := hA.row_form (e := 100) (size := 7) (n := N.length) (v := u) (xs := flatN N) sZ
  clear haxn
  subst hnv
  have hNlen := Lib.hid (show N.length ≤ 1000 from by have h1 := hN.out.len; have h2 := lstG_len es l; omega)
  (try simp only [uA] at hA); have hF := hA.facts; (try simp only [fZ] at hF)
  go_wp2_with (first | ((with_reducible refine gbx ?_); refine wX 93 (.agg #[.slice axn N.length capn, .slice none 0 0, .slice none 0 0, .int .i64 0, .int .i64 0]) [.slice axn N.length capn, .slice none 0 0, .slice none 0 0, .int .i64 0, .int .i64 0] hA ?_; clear hF hA; intro b7 w1 hA hb7; (try simp only [uA] at hA); have hF := hA.facts; (try simp only [fZ] at hF)) | ((with_reducible refine gst ?_); refine wS hA ?_; clear hF hA; intro w1 hA; (try simp only [uA] at hA); have hF := hA.facts; (try simp only [fZ] at hF)) | ((with_reducible refine gbx ?_); refine wB hA ?_; clear hF hA; intro b1 w1 hA hb1; (try simp only [uA] at hA); have hF := hA.facts; (try simp only [fZ] at hF)))
  have hB := hA.row_nil 3 1
  have hC := hB.row_nil 131 2
  clear hF hA hB
  have hA : At [R, GrP p m es] w (kL b7 axn capn (.slice none 0 0) (.slice none 0 0) N TS.start ++ [R, GrP p m es, Part.cells b4 [.int .i64 f.f0, .int .i64 f.f1, .int .i64 f.f2, .int .i64 f.f3, .int .i64 f.f4, .int .i64 f.f5, .int .i64 f.f6] 24]) w1 := by
    show At [R, GrP p m es] w [kHead b7 axn capn (.slice none 0 0) (.slice none 0 0) N TS.start, kRow axn capn N TS.start, restX N, rowX (.slice none 0 0) [], rowF (.slice none 0 0) [], R, GrP p m es, Part.cells b4 [.int .i64 f.f0, .int .i64 f.f1, .int .i64 f.f2, .int .i64 f.f3, .int .i64 f.f4, .int .i64 f.f5, .int .i64 f.f6] 24] w1
    unfold kRow
    rw [ndL_start hN.out.zero]
    exact hC.pick pZ
  clear hC
  have hB := hA.to (kn_eqv b7 axn capn (.slice none 0 0) (.slice none 0 0) N TS.start _).symm
  clear hA; have hA := hB; clear hB
  refine (run_any (kp := b7) (ax := axn) (cap := capn) (sv0 := .slice none 0 0) (wv0 := .slice none 0 0) (N := N) (hA.sep1 .here) hN.out.lt hNlen.out hN.out.seven).mono ?_
  rintro e w2 ⟨s, sv, wv, rfl, hkn, hfd, hT⟩
  have hB := hA.call1 .here hT
  clear hA hT
  have hA : At [R, GrP p m es] w [kHead b7 axn capn sv wv N s, kRow axn capn N s, restX N, rowX sv s.stk.reverse, rowF wv s.wk.reverse, R, GrP p m es, Part.cells b4 [.int .i64 f.f0, .int .i64 f.f1, .int .i64 f.f2, .int .i64 f.f3, .int .i64 f.f4, .int .i64 f.f5, .int .i64 f.f6] 24] w2 := hB.to (kn_eqv b7 axn capn sv wv N s _)
  clear hB
  have hL := hN.out.after (lstG_sorted es l) (fun x hx => (lstG_mem.1 hx).2) hkn
  have hlL : (ndL N s).length = N.length := ndL_len N s
  have hB : At [R, GrP p m es] w [Part.cells b7 [.slice axn (ndL N s).length capn, sv, wv, .int .i64 s.count, .int .i64 s.found] 93, rowNd (.slice axn (ndL N s).length capn) (ndL N s), restX (ndL N s), R, GrP p m es, Part.cells b4 [.int .i64 f.f0, .int .i64 f.f1, .int .i64 f.f2, .int .i64 f.f3, .int .i64 f.f4, .int .i64 f.f5, .int .i64 f.f6] 24] w2 := by
    rw [restX_nd]
    unfold rowNd
    rw [hlL]
    exact hA.pick pZ
  clear hA
  have hn9 : s.found ≤ 9000 := by have := hNlen.out; omega
  have hL1 : (ndL N s).length ≤ 1000 := by rw [hlL]; exact hNlen.out
  rw [← hlL] at hcpn
  clear hlL hkn hfd
  generalize hcq : (s.count : Int) = cnt at *
  generalize s.found = n at *
  generalize ndL N s = L at *
  clear hcq hN hNlen
  have hL' := Lib.hid hL
  have hA := hB
  clear hB hL
  (try simp only [uA] at hA); have hF := hA.facts; (try simp only [fZ] at hF)
  have hids := hL'.out.ids
  have hst := Lib.hid (lstG_sorted es l)
  have hokL : ∀ d ∈ L, okD d.id := fun d hd => hok'.out d.id (lstG_mem.1 (by rw [← hids]; exact List.mem_map.2 ⟨d, hd, rfl⟩)).1
  have hokL' := Lib.hid hokL
  have hids' := Lib.hid hids
  clear hokL hids
  go_wp2_with (first | ((with_reducible refine gmm ?_); refine wpList_makeMap_at Try.prog 38 rfl rfl hA ?_; intro mb w1 hB hmb; clear hF hA; have hA := hB; clear hB; (try simp only [uA] at hA); have hF := hA.facts; (try simp only [fZ] at hF)) | ((with_reducible refine gst ?_); refine wS hA ?_; clear hF hA; intro w1 hA; (try simp only [uA] at hA); have hF := hA.facts; (try simp only [fZ] at hF)) | ((with_reducible refine gbx ?_); refine wB hA ?_; clear hF hA; intro b1 w1 hA hb1; (try simp only [uA] at hA); have hF := hA.facts; (try simp only [fZ] at hF)))
  try go_frame
  go_loopg [29] L.length (KoRel w [R, GrP p m es] (kcL p m es f R b4 b7 axn capn sv wv cnt n L) mb L)
  case atStart => exact ⟨0, rfl, by omega, hA.pick pZ⟩
  case round =>
    obtain ⟨i, rfl, hik, hB⟩ := hrel
    clear hF hA; have hA := hB; clear hB
    by_cases hi : i < L.length
    · skip
      obtain ⟨d, hd⟩ : ∃ d, L[i]? = some d := ⟨_, List.getElem?_eq_getElem hi⟩
      have hps := ofE_next hd
      have hni := Lib.hid (ofE_no hids'.out hst.out hd)
      obtain ⟨kl1, hk1⟩ := keyI (hokL'.out d (List.mem_of_getElem? hd))
      simp only [idV] at hk1 hps
      obtain ⟨bn, offn, hax2, hce2⟩ := row_elemG Nd.cells_len (by omega) (l := L) (x := d) (hA.row_reads (v := .slice axn L.length capn) (n := L.length) (xs := flatN L) sZ) hd
      subst hax2
      have hr2 := Lib.hid (show ∀ (k : Nat) u, ([.int .i64 d.id.1, .int .i64 d.id.2, .slice d.na d.nx.length d.nc, .int .i64 d.low, .int .i64 d.num, .bool d.on, .int .i64 d.knot] : List Value)[k]? = some u → wr.cell? ⟨bn, offn + i * 7 + k, none⟩ = some u from hce2)
      clear hce2 hd
      (try simp only [uA] at hA); have hF := hA.facts; (try simp only [fZ] at hF)
      go_wp2_with (first | ((with_reducible refine gal ?_); refine wA 100 (.agg #[.int .i64 0, .int .i64 0, .slice none 0 0, .int .i64 0, .int .i64 0, .bool false, .int .i64 0]) [.int .i64 0, .int .i64 0, .slice none 0 0, .int .i64 0, .int .i64 0, .bool false, .int .i64 0] hA ?_; clear hF hA; intro b10 w1 hA hb10; (try simp only [uA] at hA); have hF := hA.facts; (try simp only [fZ] at hF)) | ((with_reducible show wpList _ _ _ ({ dst := some 32, op := Op.load _ _, type := _, pos := _, after := _, guard := _ } :: _) _ _); refine wpList_loadRow_at (vs := [.int .i64 d.id.1, .int .i64 d.id.2, .slice d.na d.nx.length d.nc, .int .i64 d.low, .int .i64 d.num, .bool d.on, .int .i64 d.knot]) rfl rfl (by (try simp only [Act.eval, eV]) <;> exact rfl) hr2.out (by kernel_rfl) (by kernel_rfl) ?_) | ((with_reducible refine gmu ?_); refine wpList_put_new_at (b := mb) (key := .agg #[.int .i64 d.id.1, .int .i64 d.id.2]) (val := .int .i64 d.knot) (es := ofE (L.take i)) rfl rfl (by (try simp only [Act.eval, eV]) <;> exact rfl) (by (try simp only [Act.eval, eV]) <;> exact rfl) (by (try simp only [Act.eval, eV]) <;> exact rfl) hA sR lawI Try.underlying85 hk1 hni.out ?_; intro w1 hB; rw [hps] at hB; clear hF hA; have hA := hB; clear hB; (try simp only [uA] at hA); have hF := hA.facts; (try simp only [fZ] at hF)) | ((with_reducible refine gst ?_); refine wS hA ?_; clear hF hA; intro w1 hA; (try simp only [uA] at hA); have hF := hA.facts; (try simp only [fZ] at hF)) | ((with_reducible refine gbx ?_); refine wB hA ?_; clear hF hA; intro b1 w1 hA hb1; (try simp only [uA] at hA); have hF := hA.facts; (try simp only [fZ] at hF)))
      go_roundg (gk - 1)
      case measure => omega
      case rel => exact ⟨i + 1, by simp, by omega, hA.pick pZ⟩
    · have hi2 : i = L.length := by omega
      subst hi2
      rw [List.take_of_length_le (Nat.le_refl _)] at hA
      clear hik hi
      (try simp only [uA] at hA); have hF := hA.facts; (try simp only [fZ] at hF)
      go_wp2_with (first | ((with_reducible refine gst ?_); refine wS hA ?_; clear hF hA; intro w1 hA; (try simp only [uA] at hA); have hF := hA.facts; (try simp only [fZ] at hF)) | ((with_reducible refine gbx ?_); refine wB hA ?_; clear hF hA; intro b1 w1 hA hb1; (try simp only [uA] at hA); have hF := hA.facts; (try simp only [fZ] at hF)))
      refine (order_any (v := v) (l := l) (hA.sep2 (A := R) (B := GrP p m es) sZ sZ) hr'.out hl hok'.out f hd'.out hoke'.out hu'.out).mono ?_
      rintro e w1 ⟨uo, rfl, hT⟩
      have hB := hA.call2 (A := R) (B := GrP p m es) sZ sZ hT
      clear hF hA hT
      simp only [List.cons_append, List.nil_append] at hB
      have hop : ∀ j ∈ ordN es f (lstG es l), j < L.length := fun j hj => by rw [hL'.out.len]; exact List.mem_range.1 ((ordN_perm es f (lstG es l)).mem_iff.1 hj)
      have hol := (ordN_perm es f (lstG es l)).length_eq
      rw [List.length_range] at hol
      have hol2 := lstG_len es l
      obtain ⟨ids, hidq⟩ : ∃ z, idK (enL es (lstG es l)) = z := ⟨_, rfl⟩
      have hog : ordG es f (lstG es l) = (ordN es f (lstG es l)).map ids := by rw [← hidq]; rfl
      obtain ⟨Lo, hLo⟩ : ∃ z, (ordN es f (lstG es l)).map ids = z := ⟨_, rfl⟩
      rw [hog, hLo] at hB
      have hLl := Lib.hid (show Lo.length = (ordN es f (lstG es l)).length by rw [← hLo, List.length_map])
      have hLo' := Lib.hid hLo
      have hok2 : ∀ j ∈ ordN es f (lstG es l), ∃ d, L[j]? = some d ∧ d.id = ids j := fun j hj => by
        obtain ⟨d, hd, he⟩ := (hL'.out.kt [j] (List.pairwise_singleton _ _) fun i hi => by rw [List.mem_singleton.1 hi]; exact hop j hj).at_ j (by simp)
        exact ⟨d, hd, by rw [he, ← hidq]; rfl⟩
      have hcut : (cutK (knF L) (ordN es f (lstG es l))).1 = grpP (nxL es f (lstG es l)) (lstG es l).length (knF L) (sqE (enL es (lstG es l))) (lstG es l).length [] := by
        rw [← hL'.out.order, hL'.out.nx, hL'.out.len]
        exact cut_grp (by rw [← hL'.out.nx, ← hL'.out.len]; exact hL'.out.kn)
      have hcut' := Lib.hid hcut
      have hidq' := Lib.hid hidq
      have hok2' := Lib.hid hok2
      have hkp := Lib.hid (show ∀ j ∈ ordN es f (lstG es l), knF L j ≠ 0 from fun j hj => hL'.out.kn.pos j (hop j hj))
      clear hcut hidq hog hok2 hop hLo
      generalize ordN es f (lstG es l) = ord at *
      have hordl : ord.length ≤ 1000 := by omega
      have hLol : Lo.length ≤ 1000 := by rw [hLl.out]; exact hordl
      clear hol hol2
      obtain ⟨axo, capo, hov, _, hcpo, _⟩ := hB.row_form .here
      subst hov
      have hA := hB
      clear hB
      (try simp only [uA] at hA); have hF := hA.facts; (try simp only [fZ] at hF)
      go_wp2_with (first | ((with_reducible refine gst ?_); refine wS hA ?_; clear hF hA; intro w1 hA; (try simp only [uA] at hA); have hF := hA.facts; (try simp only [fZ] at hF)) | ((with_reducible refine gbx ?_); refine wB hA ?_; clear hF hA; intro b1 w1 hA hb1; (try simp only [uA] at hA); have hF := hA.facts; (try simp only [fZ] at hF)))
      try go_frame
      have hB := hA.row_nil 31 1
      have hC : At [R, GrP p m es] w (rowG (.slice none 0 0) [] :: restG [] :: rowI2 (.slice axo Lo.length capo) Lo :: mapC mb (ofE L) :: kcL p m es f R b4 b7 axn capn sv wv cnt n L) w1 := (hB.to (Eqv.all [] _).symm).pick pZ
      clear hF hA hB hcpo
      go_loopg [44, 11, 12] Lo.length (KqRel w Lo.length [R, GrP p m es] (rowI2 (.slice axo Lo.length capo) Lo :: mapC mb (ofE L) :: kcL p m es f R b4 b7 axn capn sv wv cnt n L) ids (knF L) ord)
      case atStart => exact ⟨0, [], rfl, rfl, by omega, rfl, hC⟩
      case round =>
        obtain ⟨i, K, rfl, rfl, hik, hK, hB⟩ := hrel
        clear hC; have hA := hB; clear hB
        obtain ⟨axk, capk, hkv, _, hcpk, _⟩ := hA.row_form (e := 31) (size := 1) (n := K.length) (xs := flatG K) .here
        subst hkv
        have hK' := Lib.hid hK
        clear hK
        by_cases hi : i < Lo.length
        · skip
          have hio : i < ord.length := by rw [← hLl.out]; exact hi
          obtain ⟨x, hx⟩ : ∃ x, ord[i]? = some x := ⟨_, List.getElem?_eq_getElem hio⟩
          have hxm := List.mem_of_getElem? hx
          obtain ⟨d, hd, hdi⟩ := hok2'.out x hxm
          have hkx := knF_at hd
          have hks : knF L x ≠ 0 := hkp.out x hxm
          have hsn := cutK_snoc (knF L) (ord.take i) x
          rw [show ord.take i ++ [x] = ord.take (i + 1) from by rw [List.take_add_one, hx]; rfl] at hsn
          have hcs := cutK_spec (knF L) (ord.take i) fun y hy => hkp.out y (List.take_subset i ord hy)
          have hlc := hL'.out.kle x d hd
          obtain ⟨kl1, hk1⟩ := keyI (hokL'.out d (List.mem_of_getElem? hd))
          have hpy := Lib.hid (ofE_yes (List.mem_of_getElem? hd))
          have hrr := row_elem (hA.row_reads (v := .slice axo Lo.length capo) (n := Lo.length) (xs := flatI Lo) sZ) (show Lo[i]? = some (ids x) by rw [← hLo'.out, List.getElem?_map, hx]; rfl)
          rw [hkx] at hsn hks
          rw [hdi] at hk1 hpy
          have hcl : (cutK (knF L) (ord.take i)).2 = 0 ∨ ∃ y ∈ ord.take i, (cutK (knF L) (ord.take i)).2 = knF L y := cut_last (knF L) _
          have hlast : (cutK (knF L) (ord.take i)).2 ≤ n := by
            rcases hcl with e | ⟨y, _, e⟩
            · rw [e]; exact Nat.zero_le _
            · rw [e]; exact hL'.out.kn.le y
          obtain ⟨last, hla⟩ : ∃ z, (cutK (knF L) (ord.take i)).2 = z := ⟨_, rfl⟩
          obtain ⟨G0, hG0⟩ : ∃ z, (cutK (knF L) (ord.take i)).1 = z := ⟨_, rfl⟩
          rw [hla] at hsn hlast hcs
          rw [hG0] at hsn hcs
          have hKG := hK'.out
          rw [hG0] at hKG
          have hne0 : last = d.knot → G0 ≠ [] := fun e q => hks (by rw [← e]; exact hcs.2.2 q)
          have hKlen : K.length ≤ 1000 := by
            have h1 := congrArg List.length hKG
            have h2 := congrArg List.length hcs.1
            have h3 := flat_ge hcs.2.1
            simp only [List.length_map, List.length_take] at h1 h2
            omega
          have hgl := Lib.hid (show ∀ g ∈ K, g.gs.length ≤ 1000 from fun g hg => by have := grp_len hKG hcs.1 g hg; rw [List.length_take] at this; omega)
          generalize hidx : ids x = idx at *
          obtain ⟨r1, t1⟩ := idx
          obtain ⟨bt, offt, hax2, hce⟩ := hrr
          have hr2' := Lib.hid (show ∀ (k : Nat) u, ([.int .i64 r1, .int .i64 t1] : List Value)[k]? = some u → wr.cell? ⟨bt, offt + i * 2 + k, none⟩ = some u from hce)
          clear hce
          subst hax2
          simp only [idV] at hk1 hpy
          have hsn' := Lib.hid hsn
          have hsn2' := Lib.hid (show (cutK (knF L) (ord.take (i + 1))).2 = d.knot from by rw [hsn]; split <;> rfl)
          have hKG' := Lib.hid hKG
          have hne' := Lib.hid hne0
          have hidx' := Lib.hid hidx
          clear hcs hcl hsn hKG hne0 hidx hd hx hdi hkx hks hxm hio
          rw [hla]
          clear hla hG0
          (try simp only [uA] at hA); have hF := hA.facts; (try simp only [fZ] at hF)
          go_upto_if 52 with (first | ((with_reducible refine gal ?_); refine wA 38 (.agg #[.int .i64 0, .int .i64 0]) [.int .i64 0, .int .i64 0] hA ?_; clear hF hA; intro b14 w1 hA hb14; (try simp only [uA] at hA); have hF := hA.facts; (try simp only [fZ] at hF)) | ((with_reducible show wpList _ _ _ ({ dst := some 47, op := Op.load _ _, type := _, pos := _, after := _, guard := _ } :: _) _ _); refine wpList_loadRow_at (vs := [.int .i64 r1, .int .i64 t1]) rfl rfl (by (try simp only [Act.eval, eV]) <;> exact rfl) hr2'.out (by kernel_rfl) (by kernel_rfl) ?_) | ((with_reducible refine glk ?_); refine wpList_look1_some_at (b := mb) rfl rfl (by (try simp only [Act.eval, eV]) <;> exact rfl) (key := .agg #[.int .i64 r1, .int .i64 t1]) (by (try simp only [Act.eval, eV]) <;> exact rfl) hA (k := 38) (es := ofE L) (v := .int .i64 d.knot) sR lawI Try.underlying85 hk1 hpy.out ?_) | ((with_reducible refine gst ?_); refine wS hA ?_; clear hF hA; intro w1 hA; (try simp only [uA] at hA); have hF := hA.facts; (try simp only [fZ] at hF)) | ((with_reducible refine gbx ?_); refine wB hA ?_; clear hF hA; intro b1 w1 hA hb1; (try simp only [uA] at hA); have hF := hA.facts; (try simp only [fZ] at hF)))
          try go_frame
          go_cut [11] from 48 to 55 (CutK w [R, GrP p m es] (rowI2 (.slice (some ⟨bt, offt, none⟩) Lo.length capo) Lo :: mapC mb (ofE L) :: kcL p m es f R b4 b7 axn capn sv wv cnt n L) ids (knF L) ord i b14 (r1, t1))
          case first =>
            by_cases hsame : d.knot = last
            · obtain ⟨K0, g, hK0, hK1⟩ := cut_same (x := x) hKG'.out (hne'.out hsame.symm)
              rw [hidx'.out] at hK1
              have hK1' := Lib.hid hK1
              have hK0' := Lib.hid hK0
              have hsI : (d.knot : Int) = last := by omega
              clear hK1 hK0
              go_wp2_with (first | ((with_reducible refine gst ?_); refine wS hA ?_; clear hF hA; intro w1 hA; (try simp only [uA] at hA); have hF := hA.facts; (try simp only [fZ] at hF)) | ((with_reducible refine gbx ?_); refine wB hA ?_; clear hF hA; intro b1 w1 hA hb1; (try simp only [uA] at hA); have hF := hA.facts; (try simp only [fZ] at hF)))
              go_meet
              case rel =>
                refine ⟨K0, g, ?_, hgl.out g (by rw [hK0'.out]; simp), ?_, ?_⟩
                · have := congrArg List.length hK0'.out; simp only [List.length_append, List.length_singleton] at this; omega
                · rw [hsn'.out, if_pos hsame]; exact hK1'.out
                · rw [← hK0'.out]; exact hA.pick pZ
            · have hsI : ¬ (d.knot : Int) = last := by omega
              go_wp2_with (first | ((with_reducible show wpList _ _ _ ({ dst := _, op := Op.buildSlice _ _ _, type := _, pos := _, after := _, guard := _ } :: _) _ _); refine wpList_one_at (e := 31) (vs := [.slice none 0 0]) rfl rfl (by (try simp only [Act.eval, eV]) <;> exact rfl) (fun _ => by kernel_rfl) hA ?_; intro b54 w1 hB hb54; clear hF hA; have hA := hB; clear hB; (try simp only [uA] at hA); have hF := hA.facts; (try simp only [fZ] at hF)) | ((with_reducible show wpList _ _ _ ({ dst := _, op := Op.call { callee := Callee.builtin Builtin.append, args := _, argTypes := _ }, type := _, pos := _, after := _, guard := _ } :: _) _ _); refine wpList_append_at (e := 31) (size := 1) (v := .slice axk K.length capk) (xs := flatG K) (n := K.length) (m := 1) (news := [.slice none 0 0]) rfl _ _ 71 rfl Try.underlying71 hi1 hz3 hz4 hz5 rfl (by omega) hA sR (by (try simp only [Act.eval, eV]) <;> exact rfl) (by (try simp only [Act.eval, eV]) <;> exact rfl) rfl (hA.cells_reads sR _ _) (fun u hu => by rw [List.mem_singleton.1 hu]; rfl) (by unfold maxLen; omega) (by omega) ?_; intro v55 w1 hB; rw [rowG_nil] at hB; clear hF hA; have hA := hB; clear hB; (try simp only [uA] at hA); have hF := hA.facts; (try simp only [fZ] at hF)) | ((with_reducible refine gst ?_); refine wS hA ?_; clear hF hA; intro w1 hA; (try simp only [uA] at hA); have hF := hA.facts; (try simp only [fZ] at hF)) | ((with_reducible refine gbx ?_); refine wB hA ?_; clear hF hA; intro b1 w1 hA hb1; (try simp only [uA] at hA); have hF := hA.facts; (try simp only [fZ] at hF)))
              go_meet
              case rel =>
                refine ⟨K, ⟨none, 0, []⟩, hKlen, Nat.zero_le _, ?_, ?_⟩
                · rw [hsn'.out, if_neg hsame, hKG'.out]; simp [hidx'.out]
                · have hB := hA.row_nil 38 2
                  exact (inG (d := ⟨none, 0, []⟩) (N := K ++ [⟨none, 0, []⟩]) (l1 := K) (l2 := []) rfl hB .here (by rw [List.append_nil]; repeat (first | exact Sel.here | apply Sel.there))).pick pZ
          case rest =>
            obtain ⟨K0, g, hK0l, hgl2, hK1, hB⟩ := hcut
            clear hF hA
            have hA := hB
            clear hB hKG' hne' hsn' hgl
            have hK1' := Lib.hid hK1
            obtain ⟨axq, capq, huv, _, hcpq, _⟩ := hA.row_form (e := 31) (size := 1) (n := (K0 ++ [g]).length) (xs := flatG (K0 ++ [g])) sZ
            subst huv
            have hKl : (K0 ++ [g]).length = K0.length + 1 := by simp
            rw [hKl] at hcpq
            have hrk : rowG (.slice axq (K0 ++ [g]).length capq) (K0 ++ [g]) = Part.row 31 1 (.slice axq (K0.length + 1) capq) (K0.length + 1) (flatG (K0 ++ [g])) := by unfold rowG; rw [hKl]
            rw [hrk] at hA
            rw [hKl]
            clear hK1 hrk hKl
            obtain ⟨gO, cO, hgo, hO1, hO2, hO3, hO4, hB⟩ := hA.row_open (e := 31) (size := 1) (ax := axq) (cap := capq) (n := K0.length + 1) (xs := flatG (K0 ++ [g])) sZ (by omega)
            subst hgo
            clear hA
            have hB2 := outG (l1 := K0) (l2 := []) rfl hB sZ
            clear hB
            have hcx : cO[K0.length]? = some (.slice g.ga g.gs.length g.gc) := by have := cells_at (enc := Gp.cells) (size := 1) (fun _ => rfl) (c := cO) (l := K0 ++ [g]) (by rw [show (K0 ++ [g]).length = K0.length + 1 by simp]; exact hO4) (k := K0.length) (x := g) (by simp) 0 (by omega); simpa [Gp.cells] using this
            have hO4' := Lib.hid hO4
            simp only [Gp.part, Gp.v] at hB2
            have hA := hB2
            clear hB2 hO4
            (try simp only [uA] at hA); have hF := hA.facts; (try simp only [fZ] at hF)
            go_upto_region 17 with (first | ((with_reducible show wpList _ _ _ ({ dst := some 57, op := Op.load _ _, type := _, pos := _, after := _, guard := _ } :: _) _ _); fail) | ((with_reducible refine glk ?_); refine wpList_look1_some_at (b := mb) rfl rfl (by (try simp only [Act.eval, eV]) <;> exact rfl) (key := .agg #[.int .i64 r1, .int .i64 t1]) (by (try simp only [Act.eval, eV]) <;> exact rfl) hA (k := 38) (es := ofE L) (v := .int .i64 d.knot) sR lawI Try.underlying85 hk1 hpy.out ?_) | ((with_reducible refine gst ?_); refine wS hA ?_; clear hF hA; intro w1 hA; (try simp only [uA] at hA); have hF := hA.facts; (try simp only [fZ] at hF)) | ((with_reducible refine gbx ?_); refine wB hA ?_; clear hF hA; intro b1 w1 hA hb1; (try simp only [uA] at hA); have hF := hA.facts; (try simp only [fZ] at hF)))
            try go_frame
            have hw1 : IntKind.i64.wrap (((K0.length + 1 : Nat) : Int) - 1) = (K0.length : Int) := by rw [IntKind.wrap_i64] <;> omega
            have hw2 : IntKind.i64.wrap (K0.length : Int) = (K0.length : Int) := by rw [IntKind.wrap_i64] <;> omega
            try go_frame
            have hB := hA.drew
            clear hF hA; have hA := hB; clear hB
            refine wp_region_held (S := fun w' => BlockIs w' b14 [.int .i64 r1, .int .i64 t1] 38) hm ?_
            change wpAnyH _ _ _ _ _ 15 _ _ (World.drew _)
            generalize World.drew _ = wd at *
            have hS0 := (hA.get (A := Part.cells b14 [.int .i64 r1, .int .i64 t1] 38) sZ : (fun w' => BlockIs w' b14 [.int .i64 r1, .int .i64 t1] 38) wd)
            refine tP 0 59 (.slice (some ⟨gO, 0, none⟩) (K0.length + 1) capq) (s := hS0) (h := ?_)
            try go_frame
            refine tP 1 60 (.slice (some ⟨gO, 0, none⟩) (K0.length + 1) capq) (s := hS0) (h := ?_)
            try go_frame
            refine tP 2 61 (.int .i64 ((K0.length + 1 : Nat) : Int)) (s := hS0) (h := ?_)
            try go_frame
            refine tZ 3 62 (.int .i64 (K0.length : Int)) (r := (fun w' hS => by simp [execOp, go_sem, Act.eval, Act.put, hw1, hw2])) (s := hS0) (h := ?_)
            try go_frame
            refine tP 4 63 (.slice (some ⟨gO, 0, none⟩) (K0.length + 1) capq) (s := hS0) (h := ?_)
            try go_frame
            refine tP 5 64 (.slice (some ⟨gO, 0, none⟩) (K0.length + 1) capq) (s := hS0) (h := ?_)
            try go_frame
            refine tP 6 65 (.int .i64 ((K0.length + 1 : Nat) : Int)) (s := hS0) (h := ?_)
            try go_frame
            refine tZ 7 66 (.int .i64 (K0.length : Int)) (r := (fun w' hS => by simp [execOp, go_sem, Act.eval, Act.put, hw1, hw2])) (s := hS0) (h := ?_)
            try go_frame
            refine tZ 8 67 (.pointer (some ⟨gO, K0.length, none⟩)) (r := (fun w' hS => by simp [execOp, go_sem, Act.eval, Act.put]; omega)) (s := hS0) (h := ?_)
            try go_frame
            refine tZ 10 69 (.agg #[.int .i64 r1, .int .i64 t1]) (r := (fun w' hS => run_load_row (ty := 38) (n := 2) (b := b14) (j := 0) rfl (by exact rfl) hS (by kernel_rfl) (by kernel_rfl) rfl rfl)) (s := hS0) (h := ?_)
            try go_frame
            refine wpAnyH_two (i := 9) (j := 11) (by kernel_rfl) ?_ ?_
            · skip
              refine opLoad1_at (i := 9) (d := some 68) rfl rfl (by kernel_rfl) (ty := 31) rfl (b := gO) (j := K0.length) (by exact rfl) hA sZ (by kernel_rfl) hcx ?_
              refine ⟨hS0, ?_⟩
              try go_frame
              refine wpAnyH_one (i := 11) (by kernel_rfl) ?_
              refine opOne_at (i := 11) (d := some 70) (e := 38) rfl rfl rfl rfl (by (try simp only [Act.eval, eV]) <;> exact rfl) (vs := [.int .i64 r1, .int .i64 t1]) (fun _ => by kernel_rfl) hA ?_
              intro b70 w1 hB
              have hS0 := (hB.get (A := Part.cells b14 [.int .i64 r1, .int .i64 t1] 38) sZ : (fun w' => BlockIs w' b14 [.int .i64 r1, .int .i64 t1] 38) w1)
              clear hA; have hA := hB; clear hB
              refine ⟨hS0, ?_⟩
              try go_frame
              refine wpAnyH_one (i := 12) (by kernel_rfl) ?_
              refine opAppend_at (k := 12) (d := some 71) (e := 38) (size := 2) (v := .slice g.ga g.gs.length g.gc) (xs := flatI g.gs) (n := g.gs.length) (m := 1) (news := [.int .i64 r1, .int .i64 t1]) rfl rfl rfl rfl _ _ 31 rfl Try.underlying31 hi0 hz0 hz1 hz2 rfl (by omega) hA sZ (by (try simp only [Act.eval, eV]) <;> exact rfl) (by (try simp only [Act.eval, eV]) <;> exact rfl) rfl (hA.cells_reads sZ _ _) (idL_one (r1, t1)) (by unfold maxLen; omega) (by omega) ?_
              intro v71 w1 hB
              rw [show flatI g.gs ++ [.int .i64 r1, .int .i64 t1] = flatI g.gs ++ idL (r1, t1) from rfl, rowI2_snoc] at hB
              obtain ⟨ga2, gc2, hv71, _, _, _⟩ := hB.row_form .here
              subst hv71
              have hS0 := (hB.get (A := Part.cells b14 [.int .i64 r1, .int .i64 t1] 38) sZ : (fun w' => BlockIs w' b14 [.int .i64 r1, .int .i64 t1] 38) w1)
              clear hA; have hA := hB; clear hB
              refine ⟨hS0, ?_⟩
              try go_frame
              refine tZ 13 72 (.pointer (some ⟨gO, K0.length, none⟩)) (r := (fun w' hS => by simp [execOp, go_sem, Act.eval, Act.put]; omega)) (s := hS0) (h := ?_)
              try go_frame
              refine wpAnyH_one (i := 14) (by kernel_rfl) ?_
              refine opStore_at (b := gO) (j := K0.length) (vs := [.slice ga2 (g.gs ++ [(r1, t1)]).length gc2]) rfl rfl (by kernel_rfl) rfl (by exact rfl) (by exact rfl) rfl hA sZ (by kernel_rfl) rfl (by show K0.length + 1 ≤ cO.length; omega) ?_
              intro w1 hB
              have hS0 := (hB.get (A := Part.cells b14 [.int .i64 r1, .int .i64 t1] 38) sZ : (fun w' => BlockIs w' b14 [.int .i64 r1, .int .i64 t1] 38) w1)
              clear hA; have hA := hB; clear hB
              refine ⟨hS0, ?_⟩
              try go_frame
              refine wpAnyH_done (by kernel_rfl) ?_ _
              try go_frame
              clear hS0
              have hB := knot_shut hO2 hO3 hO4'.out hcpq (hA.pick (K := Part.cells gO (setL cO K0.length [.slice ga2 (g.gs ++ [(r1, t1)]).length gc2]) 31 :: rowI2 (.slice ga2 (g.gs ++ [(r1, t1)]).length gc2) (g.gs ++ [(r1, t1)]) :: restG (K0 ++ []) :: rowI2 (.slice (some ⟨bt, offt, none⟩) Lo.length capo) Lo :: mapC mb (ofE L) :: kcL p m es f R b4 b7 axn capn sv wv cnt n L) pZ)
              clear hA; have hA := hB; clear hB
              (try simp only [uA] at hA); have hF := hA.facts; (try simp only [fZ] at hF)
              go_wp2_with (first | ((with_reducible refine gst ?_); refine wS hA ?_; clear hF hA; intro w1 hA; (try simp only [uA] at hA); have hF := hA.facts; (try simp only [fZ] at hF)) | ((with_reducible refine gbx ?_); refine wB hA ?_; clear hF hA; intro b1 w1 hA hb1; (try simp only [uA] at hA); have hF := hA.facts; (try simp only [fZ] at hF)))
              go_roundg (gk - 1)
              case measure => omega
              case rel =>
                refine ⟨i + 1, K0 ++ [⟨ga2, gc2, g.gs ++ [(r1, t1)]⟩], by simp, by rw [hsn2'.out], by omega, by rw [← hK1'.out]; simp, ?_⟩
                exact hA
            · skip
              refine opOne_at (i := 11) (d := some 70) (e := 38) rfl rfl rfl rfl (by (try simp only [Act.eval, eV]) <;> exact rfl) (vs := [.int .i64 r1, .int .i64 t1]) (fun _ => by kernel_rfl) hA ?_
              intro b70 w1 hB
              have hS0 := (hB.get (A := Part.cells b14 [.int .i64 r1, .int .i64 t1] 38) sZ : (fun w' => BlockIs w' b14 [.int .i64 r1, .int .i64 t1] 38) w1)
              clear hA; have hA := hB; clear hB
              refine ⟨hS0, ?_⟩
              try go_frame
              refine wpAnyH_one (i := 9) (by kernel_rfl) ?_
              refine opLoad1_at (i := 9) (d := some 68) rfl rfl (by kernel_rfl) (ty := 31) rfl (b := gO) (j := K0.length) (by exact rfl) hA sZ (by kernel_rfl) hcx ?_
              refine ⟨hS0, ?_⟩
              try go_frame
              refine wpAnyH_one (i := 12) (by kernel_rfl) ?_
              refine opAppend_at (k := 12) (d := some 71) (e := 38) (size := 2) (v := .slice g.ga g.gs.length g.gc) (xs := flatI g.gs) (n := g.gs.length) (m := 1) (news := [.int .i64 r1, .int .i64 t1]) rfl rfl rfl rfl _ _ 31 rfl Try.underlying31 hi0 hz0 hz1 hz2 rfl (by omega) hA sZ (by (try simp only [Act.eval, eV]) <;> exact rfl) (by (try simp only [Act.eval, eV]) <;> exact rfl) rfl (hA.cells_reads sZ _ _) (idL_one (r1, t1)) (by unfold maxLen; omega) (by omega) ?_
              intro v71 w1 hB
              rw [show flatI g.gs ++ [.int .i64 r1, .int .i64 t1] = flatI g.gs ++ idL (r1, t1) from rfl, rowI2_snoc] at hB
              obtain ⟨ga2, gc2, hv71, _, _, _⟩ := hB.row_form .here
              subst hv71
              have hS0 := (hB.get (A := Part.cells b14 [.int .i64 r1, .int .i64 t1] 38) sZ : (fun w' => BlockIs w' b14 [.int .i64 r1, .int .i64 t1] 38) w1)
              clear hA; have hA := hB; clear hB
              refine ⟨hS0, ?_⟩
              try go_frame
              refine tZ 13 72 (.pointer (some ⟨gO, K0.length, none⟩)) (r := (fun w' hS => by simp [execOp, go_sem, Act.eval, Act.put]; omega)) (s := hS0) (h := ?_)
              try go_frame
              refine wpAnyH_one (i := 14) (by kernel_rfl) ?_
              refine opStore_at (b := gO) (j := K0.length) (vs := [.slice ga2 (g.gs ++ [(r1, t1)]).length gc2]) rfl rfl (by kernel_rfl) rfl (by exact rfl) (by exact rfl) rfl hA sZ (by kernel_rfl) rfl (by show K0.length + 1 ≤ cO.length; omega) ?_
              intro w1 hB
              have hS0 := (hB.get (A := Part.cells b14 [.int .i64 r1, .int .i64 t1] 38) sZ : (fun w' => BlockIs w' b14 [.int .i64 r1, .int .i64 t1] 38) w1)
              clear hA; have hA := hB; clear hB
              refine ⟨hS0, ?_⟩
              try go_frame
              refine wpAnyH_done (by kernel_rfl) ?_ _
              try go_frame
              clear hS0
              have hB := knot_shut hO2 hO3 hO4'.out hcpq (hA.pick (K := Part.cells gO (setL cO K0.length [.slice ga2 (g.gs ++ [(r1, t1)]).length gc2]) 31 :: rowI2 (.slice ga2 (g.gs ++ [(r1, t1)]).length gc2) (g.gs ++ [(r1, t1)]) :: restG (K0 ++ []) :: rowI2 (.slice (some ⟨bt, offt, none⟩) Lo.length capo) Lo :: mapC mb (ofE L) :: kcL p m es f R b4 b7 axn capn sv wv cnt n L) pZ)
              clear hA; have hA := hB; clear hB
              (try simp only [uA] at hA); have hF := hA.facts; (try simp only [fZ] at hF)
              go_wp2_with (first | ((with_reducible refine gst ?_); refine wS hA ?_; clear hF hA; intro w1 hA; (try simp only [uA] at hA); have hF := hA.facts; (try simp only [fZ] at hF)) | ((with_reducible refine gbx ?_); refine wB hA ?_; clear hF hA; intro b1 w1 hA hb1; (try simp only [uA] at hA); have hF := hA.facts; (try simp only [fZ] at hF)))
              go_roundg (gk - 1)
              case measure => omega
              case rel =>
                refine ⟨i + 1, K0 ++ [⟨ga2, gc2, g.gs ++ [(r1, t1)]⟩], by simp, by rw [hsn2'.out], by omega, by rw [← hK1'.out]; simp, ?_⟩
                exact hA
        · have hi2 : i = ord.length := by rw [← hLl.out]; omega
          subst hi2
          rw [List.take_of_length_le (Nat.le_refl _)] at hK'
          (try simp only [uA] at hA); have hF := hA.facts; (try simp only [fZ] at hF)
          go_wp2_with (first | ((with_reducible refine gst ?_); refine wS hA ?_; clear hF hA; intro w1 hA; (try simp only [uA] at hA); have hF := hA.facts; (try simp only [fZ] at hF)) | ((with_reducible refine gbx ?_); refine wB hA ?_; clear hF hA; intro b1 w1 hA hb1; (try simp only [uA] at hA); have hF := hA.facts; (try simp only [fZ] at hF)))
          go_ret
          refine ⟨_, K, knF L, n, rfl, ?_, ?_, hA.pick pZ⟩
          · rw [← hL'.out.nx, ← hL'.out.len]; exact hL'.out.kn
          · rw [hK'.out, hcut'.out, hidq'.out]
end Go.Proofs.Ytgicohkmfbbbdaa.Gr
end
