/- GrcB, joined. -/
import Derived.Test.YtgicohkmfbbbdaaK27
import Derived.Test.YtgicohkmfbbbdaaK28
section
namespace Go.Proofs.Ytgicohkmfbbbdaa.Gr
open Go.RowKit
open Attr (A8 thro)
open Tar (mostL most_snoc)
set_option linter.unusedSimpArgs false
set_option linter.unusedVariables false
attribute [-go_sem] run_eql_struct run_neq_struct run_eqGuard_agg

def dE (dd : I2 → Nat) (l : List I2) : List (Value × Value) := l.map fun x => (idV x, .int .i64 (dd x : Int))
theorem dE_snoc (dd : I2 → Nat) (l : List I2) (x : I2) : dE dd l ++ [(idV x, .int .i64 (dd x : Int))] = dE dd (l ++ [x]) := by simp [dE]
theorem dE_no {dd : I2 → Nat} {l : List I2} {x : I2} (h : x ∉ l) : ∀ p ∈ dE dd l, p.1 ≠ idV x := by
  intro p hp e
  obtain ⟨y, hy, rfl⟩ := List.mem_map.1 hp
  exact h (by rw [← idV_inj e]; exact hy)
theorem dE_yes {dd : I2 → Nat} {l : List I2} {x : I2} (h : x ∈ l) : (idV x, Value.int .i64 (dd x : Int)) ∈ dE dd l := List.mem_map.2 ⟨x, h, rfl⟩
def DgRel (w : World) (L0 C : List Part) (md : Nat) (dd : I2 → Nat) (KG : List (List I2)) (k : Nat) (u1 u2 : Value) (wr : World) : Prop :=
  ∃ j : Nat, u1 = .int .i64 j ∧ u2 = .int .i64 (mostL ((KG.take j).flatten.map dd) : Nat) ∧ j + k = KG.length ∧ At L0 w (mapC md (dE dd (KG.take j).flatten) :: C) wr
def DiRel (w : World) (L0 C : List Part) (es : List (I2 × A8)) (f : F7) (dd : I2 → Nat) (pre gs : List I2) (k : Nat) (u1 u2 : Value) (wr : World) : Prop :=
  ∃ i : Nat, u1 = .int .i64 i ∧ u2 = .int .i64 (mostL (needK es f dd pre gs (gs.take i)) : Nat) ∧ i + k = gs.length ∧ At L0 w C wr
def DjRel (w : World) (L0 C : List Part) (dd : I2 → Nat) (pre gs ls : List I2) (nn : List Nat) (vl : Value) (k : Nat) (u1 u2 : Value) (wr : World) : Prop :=
  ∃ c : Nat, u1 = .int .i64 c ∧ u2 = .int .i64 (mostL (nn ++ (ls.take c).map (valK dd pre gs)) : Nat) ∧ c + k = ls.length ∧ At L0 w (rowI2 vl ls :: C) wr
def DkRel (w : World) (L0 C : List Part) (md : Nat) (dd : I2 → Nat) (pre gs : List I2) (k : Nat) (u : Value) (wr : World) : Prop :=
  ∃ i : Nat, u = .int .i64 i ∧ i + k = gs.length ∧ At L0 w (mapC md (dE dd (pre ++ gs.take i)) :: C) wr
theorem take_next {α : Type} {l : List α} {i : Nat} {x : α} (h : l[i]? = some x) : l.take (i + 1) = l.take i ++ [x] := by rw [List.take_add_one, h]; rfl
theorem val_le {dd : I2 → Nat} {pre gs : List I2} {n : Nat} (h : ∀ x ∈ pre, dd x ≤ n) (y : I2) : valK dd pre gs y ≤ n := by
  unfold valK
  split
  · exact Nat.zero_le _
  · split
    · exact h y ‹_›
    · exact Nat.zero_le _
theorem need_le {es : List (I2 × A8)} {f : F7} {dd : I2 → Nat} {pre gs l : List I2} {n : Nat} (h : ∀ x ∈ pre, dd x ≤ n) : ∀ d ∈ needK es f dd pre gs l, d ≤ n := fun d hd => by
  obtain ⟨x, _, h1⟩ := List.mem_flatMap.1 hd
  obtain ⟨y, _, rfl⟩ := List.mem_map.1 h1
  exact val_le h y
theorem nd_take {α : Type} {pre l : List α} {i : Nat} {x : α} (h : (pre ++ l).Nodup) (hx : l[i]? = some x) : x ∉ pre ++ l.take i := by
  obtain ⟨hi, rfl⟩ := List.getElem?_eq_some_iff.1 hx
  have e : pre ++ l = (pre ++ l.take i) ++ l[i] :: l.drop (i + 1) := by rw [List.append_assoc, ← List.drop_eq_getElem_cons hi, List.take_append_drop]
  rw [e] at h
  exact fun q => (List.nodup_append.1 h).2.2 _ q _ List.mem_cons_self rfl
def DeepPost (p m : Nat) (es : List (I2 × A8)) (f : F7) (R : Part) (l : List I2) (w : World) (e : Ending) (w' : World) : Prop :=
  e = .returned (.int .i64 (deepG es f (lstG es l) : Nat)) ∧ At [R, GrP p m es] w [R, GrP p m es] w'
set_option maxRecDepth 100000 in
set_option maxHeartbeats 8000000 in
theorem deep_any {w : World} {R : Part} {v : Value} {l : List I2} {p m : Nat} {es : List (I2 × A8)} (h : Sep [R, GrP p m es] w) (hr : ReadsIn R v l) (hl : l.length ≤ 1000) (hok : ∀ x ∈ l, okD x) (f : F7) (hd : Deps es) (hoke : ∀ e ∈ es, okD e.1) (hu : Uq es) :
    Calls Try.prog 33 #[.pointer (some ⟨p, 0, none⟩), f.val, v] w (DeepPost p m es f R l w) := by
  have hA := At.start h
  have hF := hA.facts
  have hr' := Lib.hid hr
  have hok' := Lib.hid hok
  have hd' := Lib.hid hd
  have hoke' := Lib.hid hoke
  have hu' := Lib.hid hu
  clear h hr hok hd hoke hu
  simp only [F7.val] at *
  (try simp only [uA] at hA); have hF := hA.facts; (try simp only [fZ] at hF)
  go_enter Try.func33, Try.ntmps33
  go_wp2_with (first | ((with_reducible refine gbx ?_); refine wX 24 (.agg #[.int .i64 f.f0, .int .i64 f.f1, .int .i64 f.f2, .int .i64 f.f3, .int .i64 f.f4, .int .i64 f.f5, .int .i64 f.f6]) [.int .i64 f.f0, .int .i64 f.f1, .int .i64 f.f2, .int .i64 f.f3, .int .i64 f.f4, .int .i64 f.f5, .int .i64 f.f6] hA ?_; clear hF hA; intro b4 w1 hA hb4; (try simp only [uA] at hA); have hF := hA.facts; (try simp only [fZ] at hF)) | ((with_reducible refine gmm ?_); refine wpList_makeMap_at Try.prog 38 rfl rfl hA ?_; intro md w1 hB hmd; clear hF hA; have hA := hB; clear hB; (try simp only [uA] at hA); have hF := hA.facts; (try simp only [fZ] at hF)) | ((with_reducible refine gst ?_); refine wS hA ?_; clear hF hA; intro w1 hA; (try simp only [uA] at hA); have hF := hA.facts; (try simp only [fZ] at hF)) | ((with_reducible refine gbx ?_); refine wB hA ?_; clear hF hA; intro b1 w1 hA hb1; (try simp only [uA] at hA); have hF := hA.facts; (try simp only [fZ] at hF)))
  refine (knots_any (R := R) (v := v) (l := l) (p := p) (m := m) (es := es) (hA.sep2 (A := R) (B := GrP p m es) sZ sZ) hr'.out hl hok'.out f hd'.out hoke'.out hu'.out).mono ?_
  rintro e w1 ⟨gv, K, kn, found, rfl, hkn, hKg, hT⟩
  have hB := hA.call2 (A := R) (B := GrP p m es) sZ sZ hT
  clear hF hA hT; have hA := hB; clear hB
  simp only [List.cons_append, List.nil_append] at hA
  have hDp := dpF_of (lstG_sorted es l) hkn hKg
  have hokK : ∀ x ∈ (K.map Gp.gs).flatten, okD x := fun x hx => by
    rw [hKg, show idK (enL es (lstG es l)) = idsG es (lstG es l) from rfl, knots_flat hkn, (ordG_perm es f (lstG es l)).mem_iff] at hx
    exact hok'.out x (lstG_mem.1 hx).1
  have hokK' := Lib.hid hokK
  have hDp' := Lib.hid hDp
  have hn1 : (lstG es l).length ≤ 1000 := Nat.le_trans (lstG_len es l) hl
  clear hKg hkn hDp hokK
  obtain ⟨dd, hdd⟩ : ∃ z, ddK es f (lstG es l) = z := ⟨_, rfl⟩
  obtain ⟨mst, hmst⟩ : ∃ z, deepG es f (lstG es l) = z := ⟨_, rfl⟩
  rw [hdd, hmst] at hDp'
  have hmst' := Lib.hid hmst
  clear hdd hmst
  generalize (lstG es l).length = n at *
  obtain ⟨axg, capg, hgv, _, hcpg, _⟩ := hA.row_form (e := 31) (size := 1) (n := K.length) (v := gv) (xs := flatG K) sZ
  subst hgv
  have hKl : K.length ≤ 1000 := by
    have h1 := Tar.flat_ge (G := K.map Gp.gs) hDp'.out.ne
    have h2 := hDp'.out.len
    rw [List.length_map] at h1
    omega
  have hKm := Lib.hid (show (K.map Gp.gs).length = K.length from List.length_map ..)
  (try simp only [uA] at hA); have hF := hA.facts; (try simp only [fZ] at hF)
  go_wp2_with (first | ((with_reducible refine gst ?_); refine wS hA ?_; clear hF hA; intro w1 hA; (try simp only [uA] at hA); have hF := hA.facts; (try simp only [fZ] at hF)) | ((with_reducible refine gbx ?_); refine wB hA ?_; clear hF hA; intro b1 w1 hA hb1; (try simp only [uA] at hA); have hF := hA.facts; (try simp only [fZ] at hF)))
  try go_frame
  go_loopg [24, 8] K.length (DgRel w [R, GrP p m es] [rowG (.slice axg K.length capg) K, restG K, R, GrP p m es, Part.cells b4 [.int .i64 f.f0, .int .i64 f.f1, .int .i64 f.f2, .int .i64 f.f3, .int .i64 f.f4, .int .i64 f.f5, .int .i64 f.f6] 24] md dd (K.map Gp.gs))
  case atStart => exact ⟨0, rfl, rfl, by rw [List.length_map, Nat.zero_add], hA.pick pZ⟩
  case round =>
    obtain ⟨j, rfl, rfl, hjk, hB⟩ := hrel
    rw [hKm.out] at hjk
    clear hF hA; have hA := hB; clear hB
    by_cases hj : j < K.length
    · skip
      obtain ⟨g, hg⟩ : ∃ g, K[j]? = some g := ⟨_, List.getElem?_eq_getElem hj⟩
      have hgK : (K.map Gp.gs)[j]? = some g.gs := by rw [List.getElem?_map, hg]; rfl
      have hstep := Lib.hid (hDp'.out.step j g.gs hgK)
      have hgm : g.gs ∈ K.map Gp.gs := List.mem_of_getElem? hgK
      have hgn := Lib.hid (hDp'.out.ne g.gs hgm)
      have htj := take_next hgK
      have hfj : ((K.map Gp.gs).take (j + 1)).flatten = ((K.map Gp.gs).take j).flatten ++ g.gs := by rw [htj]; simp
      have hsubm : ∀ x ∈ ((K.map Gp.gs).take (j + 1)).flatten, x ∈ (K.map Gp.gs).flatten := fun x hx => by
        obtain ⟨y, hy, hxy⟩ := List.mem_flatten.1 hx
        exact List.mem_flatten.2 ⟨y, List.take_subset _ _ hy, hxy⟩
      have hnd : (((K.map Gp.gs).take j).flatten ++ g.gs).Nodup := by
        rw [← hfj]
        have h1 := hDp'.out.nodup
        rw [← List.take_append_drop (j + 1) (K.map Gp.gs), List.flatten_append] at h1
        exact (List.nodup_append.1 h1).1
      rw [hfj] at hsubm
      have hgl : g.gs.length ≤ 1000 := by
        have h1 := (List.sublist_flatten_of_mem hgm).length_le
        have h2 := hDp'.out.len
        omega
      have hml : mostL (((K.map Gp.gs).take j).flatten.map dd) ≤ 1000 := Tar.most_le fun d hd => by
        obtain ⟨x, hx, rfl⟩ := List.mem_map.1 hd
        exact Nat.le_trans (hDp'.out.le x (hsubm x (List.mem_append_left _ hx))) hn1
      have hple : ∀ x ∈ ((K.map Gp.gs).take j).flatten, dd x ≤ 1000 := fun x hx => Nat.le_trans (hDp'.out.le x (hsubm x (List.mem_append_left _ hx))) hn1
      have hokg : ∀ x ∈ g.gs, okD x := fun x hx => hokK'.out x (hsubm x (List.mem_append_right _ hx))
      have hokg' := Lib.hid hokg
      have hple' := Lib.hid hple
      have hnd' := Lib.hid hnd
      have hfj' := Lib.hid hfj
      clear htj hsubm hgm hgK hokg hple hnd hfj
      generalize ((K.map Gp.gs).take j).flatten = pre at *
      obtain ⟨bk, offk, hax2, hce2⟩ := row_elemG (enc := Gp.cells) (size := 1) (fun _ => rfl) (by omega) (l := K) (x := g) (hA.row_reads (v := .slice axg K.length capg) (n := K.length) (xs := flatG K) sZ) hg
      subst hax2
      have hc : wr.cell? ⟨bk, offk + j, none⟩ = some (.slice g.ga g.gs.length g.gc) := by have := hce2 0 _ rfl; simpa using this
      have hspG := Lib.hid (split_at hg)
      have hB := outG hspG.out hA sZ
      simp only [Gp.part, Gp.v] at hB
      clear hA hce2 hg; have hA := hB; clear hB
      (try simp only [uA] at hA); have hF := hA.facts; (try simp only [fZ] at hF)
      go_wp2_with (first | ((with_reducible refine gst ?_); refine wS hA ?_; clear hF hA; intro w1 hA; (try simp only [uA] at hA); have hF := hA.facts; (try simp only [fZ] at hF)) | ((with_reducible refine gbx ?_); refine wB hA ?_; clear hF hA; intro b1 w1 hA hb1; (try simp only [uA] at hA); have hF := hA.facts; (try simp only [fZ] at hF)))
      try go_frame
      have hjG : j + 1 + (gk - 1) = K.length := by omega
      obtain ⟨G, hG⟩ : ∃ G, gk - 1 = G := ⟨_, rfl⟩
      rw [hG] at hjG
      have hGk := Lib.hid (show G < gk from by omega)
      have hjG' := Lib.hid hjG
      clear hG hjG hjk hc
      obtain ⟨mm, hmm⟩ : ∃ z, mostL (pre.map dd) = z := ⟨_, rfl⟩
      rw [hmm] at hml
      rw [hmm]
      have hmm' := Lib.hid hmm
      clear hmm
      go_loopg [30, 11] g.gs.length (DiRel w [R, GrP p m es] [rowI2 (.slice g.ga g.gs.length g.gc) g.gs, restG (K.take j ++ K.drop (j + 1)), mapC md (dE dd pre), rowG (.slice (some ⟨bk, offk, none⟩) K.length capg) K, R, GrP p m es, Part.cells b4 [.int .i64 f.f0, .int .i64 f.f1, .int .i64 f.f2, .int .i64 f.f3, .int .i64 f.f4, .int .i64 f.f5, .int .i64 f.f6] 24] es f dd pre g.gs)
      case atStart => exact ⟨0, rfl, rfl, by omega, hA.pick pZ⟩
      case round =>
        obtain ⟨i, rfl, rfl, hik, hB⟩ := hrel
        clear hF hA; have hA := hB; clear hB
        have hnl : mostL (needK es f dd pre g.gs (g.gs.take i)) ≤ 1000 := Tar.most_le (need_le hple'.out)
        by_cases hi : i < g.gs.length
        · skip
          obtain ⟨x, hx⟩ : ∃ x, g.gs[i]? = some x := ⟨_, List.getElem?_eq_getElem hi⟩
          have hxk := hokg'.out x (List.mem_of_getElem? hx)
          have hnx := Lib.hid (show needK es f dd pre g.gs (g.gs.take (i + 1)) = needK es f dd pre g.gs (g.gs.take i) ++ (leadsG es f x).map (valK dd pre g.gs) by rw [take_next hx, needK_snoc])
          have hle := Lib.hid (fun (w1 : World) (q : Sep [GrP p m es] w1) => leads_any q f x hxk (fun a ha => hd'.out x a ha))
          have hl7 := leadsG_len es f x
          have hlok := Lib.hid (fun y (hy : y ∈ leadsG es f x) => leadsG_ok hd'.out (x := x) (f := f) hy)
          obtain ⟨ls, hls⟩ : ∃ z, leadsG es f x = z := ⟨_, rfl⟩
          rw [hls] at hle hl7 hnx hlok
          clear hls hxk
          have hrr := row_elem (hA.row_reads (v := .slice g.ga g.gs.length g.gc) (n := g.gs.length) (xs := flatI g.gs) sZ) hx
          clear hx
          obtain ⟨r1, t1⟩ := x
          have hle2 := hle.out
          simp only [idV, F7.val] at hle2
          have hle' := Lib.hid hle2
          clear hle hle2
          obtain ⟨bt, offt, hax2, hce⟩ := hrr
          have hr2' := Lib.hid (show ∀ (k : Nat) u, ([.int .i64 r1, .int .i64 t1] : List Value)[k]? = some u → wr.cell? ⟨bt, offt + i * 2 + k, none⟩ = some u from hce)
          clear hce
          rw [hax2] at hA ⊢
          have hax2' := Lib.hid hax2
          clear hax2
          (try simp only [uA] at hA); have hF := hA.facts; (try simp only [fZ] at hF)
          go_wp2_with (first | ((with_reducible refine gal ?_); refine wA 38 (.agg #[.int .i64 0, .int .i64 0]) [.int .i64 0, .int .i64 0] hA ?_; clear hF hA; intro b13 w1 hA hb13; (try simp only [uA] at hA); have hF := hA.facts; (try simp only [fZ] at hF)) | ((with_reducible show wpList _ _ _ ({ dst := some 33, op := Op.load _ _, type := _, pos := _, after := _, guard := _ } :: _) _ _); refine wpList_loadRow_at (vs := [.int .i64 r1, .int .i64 t1]) rfl rfl (by (try simp only [Act.eval, eV]) <;> exact rfl) hr2'.out (by kernel_rfl) (by kernel_rfl) ?_) | ((with_reducible refine gst ?_); refine wS hA ?_; clear hF hA; intro w1 hA; (try simp only [uA] at hA); have hF := hA.facts; (try simp only [fZ] at hF)) | ((with_reducible refine gbx ?_); refine wB hA ?_; clear hF hA; intro b1 w1 hA hb1; (try simp only [uA] at hA); have hF := hA.facts; (try simp only [fZ] at hF)))
          refine (hle'.out _ (hA.sep1 (A := GrP p m es) sZ)).mono ?_
          rintro e w1 ⟨vl, rfl, hT⟩
          have hB := hA.call1 (A := GrP p m es) sZ hT
          clear hF hA hT hr2' hle'; have hA := hB; clear hB
          simp only [List.cons_append, List.nil_append] at hA
          rw [← hax2'.out] at hA ⊢
          clear hax2'
          obtain ⟨axl, capl, hvl, _, hcpl, _⟩ := hA.row_form .here
          subst hvl
          (try simp only [uA] at hA); have hF := hA.facts; (try simp only [fZ] at hF)
          go_wp2_with (first | ((with_reducible refine gst ?_); refine wS hA ?_; clear hF hA; intro w1 hA; (try simp only [uA] at hA); have hF := hA.facts; (try simp only [fZ] at hF)) | ((with_reducible refine gbx ?_); refine wB hA ?_; clear hF hA; intro b1 w1 hA hb1; (try simp only [uA] at hA); have hF := hA.facts; (try simp only [fZ] at hF)))
          try go_frame
          have hikG : i + 1 + (gk - 1) = g.gs.length := by omega
          obtain ⟨G2, hG2⟩ : ∃ G2, gk - 1 = G2 := ⟨_, rfl⟩
          rw [hG2] at hikG
          have hGk2 := Lib.hid (show G2 < gk from by omega)
          have hikG' := Lib.hid hikG
          clear hG2 hikG hik
          obtain ⟨nn, hnn⟩ : ∃ z, needK es f dd pre g.gs (g.gs.take i) = z := ⟨_, rfl⟩
          rw [hnn] at hnx hnl
          rw [hnn]
          clear hnn
          have hnle := Lib.hid hnl
          go_loopg [39, 11] ls.length (DjRel w [R, GrP p m es] [rowI2 (.slice g.ga g.gs.length g.gc) g.gs, restG (K.take j ++ K.drop (j + 1)), mapC md (dE dd pre), rowG (.slice (some ⟨bk, offk, none⟩) K.length capg) K, R, GrP p m es, Part.cells b4 [.int .i64 f.f0, .int .i64 f.f1, .int .i64 f.f2, .int .i64 f.f3, .int .i64 f.f4, .int .i64 f.f5, .int .i64 f.f6] 24] dd pre g.gs ls nn (.slice axl ls.length capl))
          case atStart => exact ⟨0, rfl, by rw [List.take_zero, List.map_nil, List.append_nil], by omega, hA.pick pZ⟩
          case round =>
            obtain ⟨c, rfl, rfl, hck, hB⟩ := hrel
            clear hF hA hnl; have hA := hB; clear hB
            have hnl : mostL (nn ++ (ls.take c).map (valK dd pre g.gs)) ≤ 1000 := Tar.most_le fun d hd => by
              rcases List.mem_append.1 hd with q | q
              · exact Nat.le_trans (Tar.most_ge q) hnle.out
              · obtain ⟨y, _, rfl⟩ := List.mem_map.1 q
                exact val_le hple'.out y
            by_cases hcl : c < ls.length
            · skip
              obtain ⟨y, hy⟩ : ∃ y, ls[c]? = some y := ⟨_, List.getElem?_eq_getElem hcl⟩
              have hyk : okD y := hlok.out y (List.mem_of_getElem? hy)
              obtain ⟨kl2, hk2⟩ := keyI hyk
              have hnx2 : mostL (nn ++ (ls.take (c + 1)).map (valK dd pre g.gs)) = max (mostL (nn ++ (ls.take c).map (valK dd pre g.gs))) (valK dd pre g.gs y) := by rw [take_next hy, List.map_append, ← List.append_assoc]; exact most_snoc _ _
              obtain ⟨mc, hmc⟩ : ∃ z, mostL (nn ++ (ls.take c).map (valK dd pre g.gs)) = z := ⟨_, rfl⟩
              rw [hmc] at hnx2 hnl
              rw [hmc]
              clear hmc hyk
              have hcon := Lib.hid (fun (w1 : World) (q : Sep [rowI2 (.slice g.ga g.gs.length g.gc) g.gs] w1) => contains_any q y (by omega))
              have hrr := row_elem (hA.row_reads (v := .slice axl ls.length capl) (n := ls.length) (xs := flatI ls) sZ) hy
              clear hy
              by_cases hyg : y ∈ g.gs
              · have hv0 : valK dd pre g.gs y = 0 := if_pos hyg
                rw [hv0, Nat.max_zero] at hnx2
                have hcn := fun w1 q => by have := hcon.out w1 q; rw [decide_eq_true hyg] at this; exact this
                have hnx2' := Lib.hid hnx2
                clear hcon hv0 hnx2 hyg
                obtain ⟨r2, t2⟩ := y
                simp only [idV] at hk2 hcn
                have hcn' := Lib.hid hcn
                clear hcn
                obtain ⟨bt2, offt2, hax3, hce⟩ := hrr
                have hr3' := Lib.hid (show ∀ (k : Nat) u, ([.int .i64 r2, .int .i64 t2] : List Value)[k]? = some u → wr.cell? ⟨bt2, offt2 + c * 2 + k, none⟩ = some u from hce)
                clear hce
                subst hax3
                (try simp only [uA] at hA); have hF := hA.facts; (try simp only [fZ] at hF)
                go_wp2_with (first | ((with_reducible refine gal ?_); refine wA 38 (.agg #[.int .i64 0, .int .i64 0]) [.int .i64 0, .int .i64 0] hA ?_; clear hF hA; intro b15 w1 hA hb15; (try simp only [uA] at hA); have hF := hA.facts; (try simp only [fZ] at hF)) | ((with_reducible show wpList _ _ _ ({ dst := some 42, op := Op.load _ _, type := _, pos := _, after := _, guard := _ } :: _) _ _); refine wpList_loadRow_at (vs := [.int .i64 r2, .int .i64 t2]) rfl rfl (by (try simp only [Act.eval, eV]) <;> exact rfl) hr3'.out (by kernel_rfl) (by kernel_rfl) ?_) | ((with_reducible refine gst ?_); refine wS hA ?_; clear hF hA; intro w1 hA; (try simp only [uA] at hA); have hF := hA.facts; (try simp only [fZ] at hF)) | ((with_reducible refine gbx ?_); refine wB hA ?_; clear hF hA; intro b1 w1 hA hb1; (try simp only [uA] at hA); have hF := hA.facts; (try simp only [fZ] at hF)))
                refine (hcn'.out _ (hA.sep1 (A := rowI2 (.slice g.ga g.gs.length g.gc) g.gs) sZ)).mono ?_
                rintro e w1 ⟨rfl, hT⟩
                have hB := hA.call1 (A := rowI2 (.slice g.ga g.gs.length g.gc) g.gs) sZ hT
                clear hF hA hT; have hA := hB; clear hB
                simp only [List.cons_append, List.nil_append] at hA
                (try simp only [uA] at hA); have hF := hA.facts; (try simp only [fZ] at hF)
                go_wp2_with (first | ((with_reducible refine gst ?_); refine wS hA ?_; clear hF hA; intro w1 hA; (try simp only [uA] at hA); have hF := hA.facts; (try simp only [fZ] at hF)) | ((with_reducible refine gbx ?_); refine wB hA ?_; clear hF hA; intro b1 w1 hA hb1; (try simp only [uA] at hA); have hF := hA.facts; (try simp only [fZ] at hF)))
                go_roundg (gk - 1)
                case measure => omega
                case rel => exact ⟨c + 1, by simp, by rw [hnx2'.out], by omega, hA.pick pZ⟩
              · have hcn := fun w1 q => by have := hcon.out w1 q; rw [decide_eq_false hyg] at this; exact this
                by_cases hyp : y ∈ pre
                · skip
                  have hv0 : valK dd pre g.gs y = dd y := by unfold valK; rw [if_neg hyg, if_pos hyp]
                  rw [hv0] at hnx2
                  have hpy := Lib.hid (dE_yes (dd := dd) hyp)
                  have hdy : dd y ≤ 1000 := hple'.out y hyp
                  have hnx2' := Lib.hid hnx2
                  generalize dd y = dy at *
                  clear hcon hv0 hnx2 hyg hyp
                  obtain ⟨r2, t2⟩ := y
                  simp only [idV] at hk2 hcn hpy
                  have hcn' := Lib.hid hcn
                  clear hcn
                  obtain ⟨bt2, offt2, hax3, hce⟩ := hrr
                  have hr3' := Lib.hid (show ∀ (k : Nat) u, ([.int .i64 r2, .int .i64 t2] : List Value)[k]? = some u → wr.cell? ⟨bt2, offt2 + c * 2 + k, none⟩ = some u from hce)
                  clear hce
                  subst hax3
                  (try simp only [uA] at hA); have hF := hA.facts; (try simp only [fZ] at hF)
                  go_wp2_with (first | ((with_reducible refine gal ?_); refine wA 38 (.agg #[.int .i64 0, .int .i64 0]) [.int .i64 0, .int .i64 0] hA ?_; clear hF hA; intro b15 w1 hA hb15; (try simp only [uA] at hA); have hF := hA.facts; (try simp only [fZ] at hF)) | ((with_reducible show wpList _ _ _ ({ dst := some 42, op := Op.load _ _, type := _, pos := _, after := _, guard := _ } :: _) _ _); refine wpList_loadRow_at (vs := [.int .i64 r2, .int .i64 t2]) rfl rfl (by (try simp only [Act.eval, eV]) <;> exact rfl) hr3'.out (by kernel_rfl) (by kernel_rfl) ?_) | ((with_reducible refine gst ?_); refine wS hA ?_; clear hF hA; intro w1 hA; (try simp only [uA] at hA); have hF := hA.facts; (try simp only [fZ] at hF)) | ((with_reducible refine gbx ?_); refine wB hA ?_; clear hF hA; intro b1 w1 hA hb1; (try simp only [uA] at hA); have hF := hA.facts; (try simp only [fZ] at hF)))
                  refine (hcn'.out _ (hA.sep1 (A := rowI2 (.slice g.ga g.gs.length g.gc) g.gs) sZ)).mono ?_
                  rintro e w1 ⟨rfl, hT⟩
                  have hB := hA.call1 (A := rowI2 (.slice g.ga g.gs.length g.gc) g.gs) sZ hT
                  clear hF hA hT; have hA := hB; clear hB
                  simp only [List.cons_append, List.nil_append] at hA
                  (try simp only [uA] at hA); have hF := hA.facts; (try simp only [fZ] at hF)
                  go_wp2_with (first | ((with_reducible refine glk ?_); refine wpList_look1_some_at (b := md) rfl rfl (by (try simp only [Act.eval, eV]) <;> exact rfl) (key := .agg #[.int .i64 r2, .int .i64 t2]) (by (try simp only [Act.eval, eV]) <;> exact rfl) hA (k := 38) (es := dE dd pre) (v := .int .i64 dy) sR lawI Try.underlying85 hk2 hpy.out ?_) | ((with_reducible refine gst ?_); refine wS hA ?_; clear hF hA; intro w1 hA; (try simp only [uA] at hA); have hF := hA.facts; (try simp only [fZ] at hF)) | ((with_reducible refine gbx ?_); refine wB hA ?_; clear hF hA; intro b1 w1 hA hb1; (try simp only [uA] at hA); have hF := hA.facts; (try simp only [fZ] at hF)))
                  go_roundg (gk - 1)
                  case measure => omega
                  case rel => exact ⟨c + 1, by simp, by rw [hnx2'.out] <;> (try (congr 1; omega)), by omega, hA.pick pZ⟩
                · skip
                  have hv0 : valK dd pre g.gs y = 0 := by unfold valK; rw [if_neg hyg, if_neg hyp]
                  rw [hv0, Nat.max_zero] at hnx2
                  have hpy := Lib.hid (dE_no (dd := dd) hyp)
                  have hnx2' := Lib.hid hnx2
                  clear hcon hv0 hnx2 hyg hyp
                  obtain ⟨r2, t2⟩ := y
                  simp only [idV] at hk2 hcn hpy
                  have hcn' := Lib.hid hcn
                  clear hcn
                  obtain ⟨bt2, offt2, hax3, hce⟩ := hrr
                  have hr3' := Lib.hid (show ∀ (k : Nat) u, ([.int .i64 r2, .int .i64 t2] : List Value)[k]? = some u → wr.cell? ⟨bt2, offt2 + c * 2 + k, none⟩ = some u from hce)
                  clear hce
                  subst hax3
                  (try simp only [uA] at hA); have hF := hA.facts; (try simp only [fZ] at hF)
                  go_wp2_with (first | ((with_reducible refine gal ?_); refine wA 38 (.agg #[.int .i64 0, .int .i64 0]) [.int .i64 0, .int .i64 0] hA ?_; clear hF hA; intro b15 w1 hA hb15; (try simp only [uA] at hA); have hF := hA.facts; (try simp only [fZ] at hF)) | ((with_reducible show wpList _ _ _ ({ dst := some 42, op := Op.load _ _, type := _, pos := _, after := _, guard := _ } :: _) _ _); refine wpList_loadRow_at (vs := [.int .i64 r2, .int .i64 t2]) rfl rfl (by (try simp only [Act.eval, eV]) <;> exact rfl) hr3'.out (by kernel_rfl) (by kernel_rfl) ?_) | ((with_reducible refine gst ?_); refine wS hA ?_; clear hF hA; intro w1 hA; (try simp only [uA] at hA); have hF := hA.facts; (try simp only [fZ] at hF)) | ((with_reducible refine gbx ?_); refine wB hA ?_; clear hF hA; intro b1 w1 hA hb1; (try simp only [uA] at hA); have hF := hA.facts; (try simp only [fZ] at hF)))
                  refine (hcn'.out _ (hA.sep1 (A := rowI2 (.slice g.ga g.gs.length g.gc) g.gs) sZ)).mono ?_
                  rintro e w1 ⟨rfl, hT⟩
                  have hB := hA.call1 (A := rowI2 (.slice g.ga g.gs.length g.gc) g.gs) sZ hT
                  clear hF hA hT; have hA := hB; clear hB
                  simp only [List.cons_append, List.nil_append] at hA
                  (try simp only [uA] at hA); have hF := hA.facts; (try simp only [fZ] at hF)
                  go_wp2_with (first | ((with_reducible refine glk ?_); refine wpList_look1_none_at (b := md) rfl rfl (by (try simp only [Act.eval, eV]) <;> exact rfl) (key := .agg #[.int .i64 r2, .int .i64 t2]) (by (try simp only [Act.eval, eV]) <;> exact rfl) hA (k := 38) (es := dE dd pre) (z := .int .i64 0) sR lawI Try.underlying85 hk2 hpy.out (fun _ => by kernel_rfl) ?_) | ((with_reducible refine gst ?_); refine wS hA ?_; clear hF hA; intro w1 hA; (try simp only [uA] at hA); have hF := hA.facts; (try simp only [fZ] at hF)) | ((with_reducible refine gbx ?_); refine wB hA ?_; clear hF hA; intro b1 w1 hA hb1; (try simp only [uA] at hA); have hF := hA.facts; (try simp only [fZ] at hF)))
                  go_roundg (gk - 1)
                  case measure => omega
                  case rel => exact ⟨c + 1, by simp, by rw [hnx2'.out] <;> (try (congr 1; omega)), by omega, hA.pick pZ⟩
            · have hc2 : c = ls.length := by omega
              subst hc2
              rw [List.take_of_length_le (Nat.le_refl _)] at hnl ⊢
              (try simp only [uA] at hA); have hF := hA.facts; (try simp only [fZ] at hF)
              go_wp2_with (first | ((with_reducible refine gst ?_); refine wS hA ?_; clear hF hA; intro w1 hA; (try simp only [uA] at hA); have hF := hA.facts; (try simp only [fZ] at hF)) | ((with_reducible refine gbx ?_); refine wB hA ?_; clear hF hA; intro b1 w1 hA hb1; (try simp only [uA] at hA); have hF := hA.facts; (try simp only [fZ] at hF)))
              go_roundg G2
              case measure => exact hGk2.out
              case rel => exact ⟨i + 1, by simp, by rw [hnx.out], hikG'.out, hA.pick pZ⟩
        · have hi2 : i = g.gs.length := by omega
          subst hi2
          rw [List.take_of_length_le (Nat.le_refl _)] at hnl ⊢
          have hst2 := hstep.out
          obtain ⟨nn, hnn⟩ : ∃ z, mostL (needK es f dd pre g.gs g.gs) = z := ⟨_, rfl⟩
          rw [hnn] at hnl hst2
          rw [hnn]
          have hst3 := Lib.hid hst2
          clear hnn hst2 hik
          (try simp only [uA] at hA); have hF := hA.facts; (try simp only [fZ] at hF)
          go_wp2_with (first | ((with_reducible refine gst ?_); refine wS hA ?_; clear hF hA; intro w1 hA; (try simp only [uA] at hA); have hF := hA.facts; (try simp only [fZ] at hF)) | ((with_reducible refine gbx ?_); refine wB hA ?_; clear hF hA; intro b1 w1 hA hb1; (try simp only [uA] at hA); have hF := hA.facts; (try simp only [fZ] at hF)))
          try go_frame
          go_loopg [56] g.gs.length (DkRel w [R, GrP p m es] [rowI2 (.slice g.ga g.gs.length g.gc) g.gs, restG (K.take j ++ K.drop (j + 1)), rowG (.slice (some ⟨bk, offk, none⟩) K.length capg) K, R, GrP p m es, Part.cells b4 [.int .i64 f.f0, .int .i64 f.f1, .int .i64 f.f2, .int .i64 f.f3, .int .i64 f.f4, .int .i64 f.f5, .int .i64 f.f6] 24] md dd pre g.gs)
          case atStart => exact ⟨0, rfl, by omega, by rw [List.take_zero, List.append_nil]; exact hA.pick pZ⟩
          case round =>
            obtain ⟨i, rfl, hik, hB⟩ := hrel
            clear hF hA hi; have hA := hB; clear hB
            by_cases hi : i < g.gs.length
            · skip
              obtain ⟨x, hx⟩ : ∃ x, g.gs[i]? = some x := ⟨_, List.getElem?_eq_getElem hi⟩
              have hxm := List.mem_of_getElem? hx
              obtain ⟨kl1, hk1⟩ := keyI (hokg'.out x hxm)
              have hni := Lib.hid (dE_no (dd := dd) (nd_take hnd'.out hx))
              have hps := dE_snoc dd (pre ++ g.gs.take i) x
              rw [List.append_assoc, ← take_next hx, ← hst3.out x hxm] at hps
              have hps' := Lib.hid (show dE dd (pre ++ g.gs.take i) ++ [(idV x, Value.int .i64 ((nn : Int) + 1))] = dE dd (pre ++ g.gs.take (i + 1)) from hps)
              have hrr := row_elem (hA.row_reads (v := .slice g.ga g.gs.length g.gc) (n := g.gs.length) (xs := flatI g.gs) sZ) hx
              clear hx hxm hps
              obtain ⟨r1, t1⟩ := x
              simp only [idV] at hk1 hni hps'
              obtain ⟨bt, offt, hax2, hce⟩ := hrr
              have hr2' := Lib.hid (show ∀ (k : Nat) u, ([.int .i64 r1, .int .i64 t1] : List Value)[k]? = some u → wr.cell? ⟨bt, offt + i * 2 + k, none⟩ = some u from hce)
              clear hce
              rw [hax2] at hA ⊢
              have hax2' := Lib.hid hax2
              clear hax2
              (try simp only [uA] at hA); have hF := hA.facts; (try simp only [fZ] at hF)
              go_wp2_with (first | ((with_reducible refine gal ?_); refine wA 38 (.agg #[.int .i64 0, .int .i64 0]) [.int .i64 0, .int .i64 0] hA ?_; clear hF hA; intro b17 w1 hA hb17; (try simp only [uA] at hA); have hF := hA.facts; (try simp only [fZ] at hF)) | ((with_reducible show wpList _ _ _ ({ dst := some 59, op := Op.load _ _, type := _, pos := _, after := _, guard := _ } :: _) _ _); refine wpList_loadRow_at (vs := [.int .i64 r1, .int .i64 t1]) rfl rfl (by (try simp only [Act.eval, eV]) <;> exact rfl) hr2'.out (by kernel_rfl) (by kernel_rfl) ?_) | ((with_reducible refine gmu ?_); refine wpList_put_new_at (b := md) (key := .agg #[.int .i64 r1, .int .i64 t1]) (val := .int .i64 ((nn : Int) + 1)) (es := dE dd (pre ++ g.gs.take i)) rfl rfl (by (try simp only [Act.eval, eV]) <;> exact rfl) (by (try simp only [Act.eval, eV]) <;> exact rfl) (by (try simp only [Act.eval, eV]) <;> exact rfl) hA sR lawI Try.underlying85 hk1 hni.out ?_; intro w1 hB; rw [hps'.out] at hB; clear hF hA; have hA := hB; clear hB; (try simp only [uA] at hA); have hF := hA.facts; (try simp only [fZ] at hF)) | ((with_reducible refine gst ?_); refine wS hA ?_; clear hF hA; intro w1 hA; (try simp only [uA] at hA); have hF := hA.facts; (try simp only [fZ] at hF)) | ((with_reducible refine gbx ?_); refine wB hA ?_; clear hF hA; intro b1 w1 hA hb1; (try simp only [uA] at hA); have hF := hA.facts; (try simp only [fZ] at hF)))
              rw [← hax2'.out] at hA ⊢
              go_roundg (gk - 1)
              case measure => omega
              case rel =>
                exact ⟨i + 1, by simp, by omega, hA.pick pZ⟩
            · have hi2 : i = g.gs.length := by omega
              subst hi2
              rw [List.take_of_length_le (Nat.le_refl _)] at hA
              (try simp only [uA] at hA); have hF := hA.facts; (try simp only [fZ] at hF)
              go_wp2_with (first | ((with_reducible refine gst ?_); refine wS hA ?_; clear hF hA; intro w1 hA; (try simp only [uA] at hA); have hF := hA.facts; (try simp only [fZ] at hF)) | ((with_reducible refine gbx ?_); refine wB hA ?_; clear hF hA; intro b1 w1 hA hb1; (try simp only [uA] at hA); have hF := hA.facts; (try simp only [fZ] at hF)))
              go_roundg G
              case measure => exact hGk.out
              case rel =>
                have hmx : mostL (((K.map Gp.gs).take (j + 1)).flatten.map dd) = max mm (nn + 1) := by
                  rw [hfj'.out, List.map_append, Tar.most_const (c := nn + 1) (fun q => hgn.out (List.map_eq_nil_iff.1 q)) (fun d hd => by obtain ⟨x, hx, rfl⟩ := List.mem_map.1 hd; exact (hst3.out x hx).symm), hmm'.out]
                have hB := inG (d := g) hspG.out hA sZ sZ
                refine ⟨j + 1, by simp, by rw [hmx]; congr 1; omega, by rw [hKm.out]; exact hjG'.out, ?_⟩
                rw [hfj'.out]
                exact hB.pick pZ
    · have hj2 : j = K.length := by omega
      subst hj2
      have hall : mostL (((K.map Gp.gs).take K.length).flatten.map dd) = mst := by rw [List.take_of_length_le (by rw [List.length_map]; exact Nat.le_refl _)]; exact hDp'.out.all
      rw [hall]
      clear hall
      (try simp only [uA] at hA); have hF := hA.facts; (try simp only [fZ] at hF)
      go_wp2_with (first | ((with_reducible refine gst ?_); refine wS hA ?_; clear hF hA; intro w1 hA; (try simp only [uA] at hA); have hF := hA.facts; (try simp only [fZ] at hF)) | ((with_reducible refine gbx ?_); refine wB hA ?_; clear hF hA; intro b1 w1 hA hb1; (try simp only [uA] at hA); have hF := hA.facts; (try simp only [fZ] at hF)))
      go_ret
      refine ⟨?_, hA.pick pZ⟩
      rw [hmst'.out]
      rfl
end Go.Proofs.Ytgicohkmfbbbdaa.Gr
end
