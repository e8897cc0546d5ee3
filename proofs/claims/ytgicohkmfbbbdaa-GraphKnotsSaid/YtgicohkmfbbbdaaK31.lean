/- GrcE, joined. -/
import Derived.Test.YtgicohkmfbbbdaaK25
import Derived.Test.YtgicohkmfbbbdaaK15
import Derived.Test.YtgicohkmfbbbdaaK26
import Derived.Test.YtgicohkmfbbbdaaK27
import Derived.Test.YtgicohkmfbbbdaaK29
import Derived.Test.YtgicohkmfbbbdaaK30
import Derived.Test.YtgicohkmfbbbdaaK5
import Derived.Deep.CutBlock
import Derived.Deep.CutRange
section
namespace Go.Proofs.Ytgicohkmfbbbdaa.Gr
open _root_.Go.Proofs.Ytgicohkmfbbbdaa.Mark (ltID sortID cmpID)
open _root_.Go.Proofs.Ytgicohkmfbbbdaa.Attr (rightI rightI_iff guardI eqlI_any neqI_any guardJ eqlJ_any neqJ_any guardF eqlF_any neqF_any eq7)
open _root_.Go.Proofs.Ytgicohkmfbbbdaa.Ref (rowD flatD cellsD cellsD_len elemD IA findD find_any rowJ rowJ_snoc infoJ sortedD sortedD_len sortedD_get sortedD_own sortedD_sorted leadsN_any LnPost)
open Go.RowKit
open Attr (A8 thro)
set_option linter.unusedSimpArgs false
set_option linter.unusedVariables false
attribute [-go_sem] run_eql_struct run_neq_struct run_eqGuard_agg
attribute [local go_sem] guardI eqlI_any neqI_any guardJ eqlJ_any neqJ_any guardF eqlF_any neqF_any
open _root_.Go.Proofs.Ytgicohkmfbbbdaa.Ref (sorted_any wpList_rowN_at rowD_snoc row_nilD infoD cellsD_one sortedD_sub sortedD_names StD rowT restB flatB flatB_get Sq Br reach_any reads_cell pool_cell tF)
def ChRel (w : World) (p m b4 : Nat) (es : List IA) (f : F7) (xv : Value) (xs : List IA) (sm : List I2) (k : Nat) (u1 u2 : Value) (wr : World) : Prop :=
  ∃ i : Nat, u1 = .int .i64 i ∧ i + k = sm.length ∧ At [Part.old w] w [rowD u2 (chF xs (sm.take i)), GrP p m es, rowD xv xs, Part.cells b4 [.int .i64 f.f0, .int .i64 f.f1, .int .i64 f.f2, .int .i64 f.f3, .int .i64 f.f4, .int .i64 f.f5, .int .i64 f.f6] 24, Part.old w] wr
def LgRel (w : World) (C : List Part) (Lk : List I2) (KG : List (List I2)) (k : Nat) (u1 u2 u3 : Value) (wr : World) : Prop :=
  ∃ j : Nat, u1 = .int .i64 j ∧ u2 = .int .i64 ((KG.take j).flatten.length : Nat) ∧ u3 = .int .i64 (lastZ Lk (KG.take j).flatten) ∧ j + k = KG.length ∧ At [Part.old w] w C wr
def LiRel (w : World) (C : List Part) (Lk pre gs : List I2) (k : Nat) (u1 u2 u3 : Value) (wr : World) : Prop :=
  ∃ i : Nat, u1 = .int .i64 i ∧ u2 = .int .i64 (pre.length + i : Nat) ∧ u3 = .int .i64 (lastZ Lk (pre ++ gs.take i)) ∧ i + k = gs.length ∧ At [Part.old w] w C wr
section
variable {P : Program} {o : Oper} {a : Act} {L0 L F : List Part} {w0 : World} {K : Act → Prop}
/-- an element of a row, in a quiet walk -/
theorem quiet_elem_at {ty e : TypeId} {x : Operand} {g n cap j size : Nat} {xs vs : List Value} (hop : o.op = .load ty x) (hx : a.eval x = .pointer (some ⟨g, j, none⟩)) (s : Sel (Part.row e size (.slice (some ⟨g, 0, none⟩) n cap) n xs) L F)
    (hv : (xs.drop j).take vs.length = vs) (hu : (P.underlying ty).map (·.isRow) = some true) (hi : (P.info? ty).map (·.size) = some vs.length) (hk : K (a.put o.dst (.agg vs.toArray))) : o.quiet P a (Cl L0 w0 L) K :=
  quiet_at _ (fun w' hw => by
    have hc : ∀ (k : Nat) u, vs[k]? = some u → w'.cell? ⟨g, j + k, none⟩ = some u := fun k u hk => by
      have hl := (List.getElem?_eq_some_iff.1 hk).1
      refine reads_cell ((show At L0 w0 L w' from hw).row_reads s) ?_
      rw [← List.getElem?_drop, ← hk, ← hv, List.getElem?_take, if_pos hl]
    obtain ⟨d, hu, hd⟩ := Option.map_eq_some_iff.1 hu
    simp [execOp, hop, hx, run_loadAt_mid w' g j ty vs d hc hu hd hi, Result.andThen]) hk
end
theorem flat_split {α : Type} {G : List (List α)} {j : Nat} {g : List α} (h : G[j]? = some g) : G.flatten = (G.take j).flatten ++ (g ++ (G.drop (j + 1)).flatten) := by
  obtain ⟨hl, e⟩ := List.getElem?_eq_some_iff.1 h
  have e2 : G = G.take j ++ g :: G.drop (j + 1) := by rw [← e, ← List.drop_eq_getElem_cons hl, List.take_append_drop]
  have := congrArg List.flatten e2
  rwa [List.flatten_append, List.flatten_cons] at this
theorem name_cut3 (l : List I2) {i : Nat} {x : I2} (h : l[i]? = some x) : ((flatI l).drop (i * 2)).take 2 = idL x := cut_cells idL_len (c := flatI l) (l := l) (by rw [List.take_of_length_le (by rw [flatI_len]; omega)]; rfl) h
set_option maxRecDepth 100000 in
set_option maxHeartbeats 16000000 in
theorem knots_law {w : World} {v sv : Value} {l : List IA} {sm : List I2} (hl0 : ∀ w', (Part.old w).holds w' → Reads w' v l.length (l.flatMap cellsD)) (hokl : ∀ n ∈ l, okD n.1) (hlen : l.length ≤ 9223372036854775807) (f : F7)
    (hs0 : ∀ w', (Part.old w).holds w' → Reads w' sv sm.length (sm.flatMap idL)) (hoks : ∀ y ∈ sm, okD y) (hslen : sm.length ≤ 9223372036854775807) :
    Calls Try.prog 8 #[v, f.val, sv] w fun e w' => e = .returned (.bool true) ∧ Below w.heap.size w w' := by
  obtain ⟨i0, hi0, hz0, hz1, hz2⟩ := info_parts infoD
  have hA := old_start w
  obtain ⟨ax, cap, rfl, _, _⟩ := hl0 w (hA.get .here)
  obtain ⟨as_, caps, rfl, _, _⟩ := hs0 w (hA.get .here)
  have hl0' := Lib.hid hl0
  have hokl' := Lib.hid hokl
  have hs0' := Lib.hid hs0
  have hoks' := Lib.hid hoks
  clear hl0 hokl hs0 hoks
  simp only [F7.val]
  (try simp only [uA] at hA); have hF := hA.facts; (try simp only [fZ] at hF)
  go_enter Try.func8, Try.ntmps8
  go_wp2_with (first | ((with_reducible refine gbx ?_); refine wX 24 (.agg #[.int .i64 f.f0, .int .i64 f.f1, .int .i64 f.f2, .int .i64 f.f3, .int .i64 f.f4, .int .i64 f.f5, .int .i64 f.f6]) [.int .i64 f.f0, .int .i64 f.f1, .int .i64 f.f2, .int .i64 f.f3, .int .i64 f.f4, .int .i64 f.f5, .int .i64 f.f6] hA ?_; clear hF hA; intro b4 w1 hA hb4; (try simp only [uA] at hA); have hF := hA.facts; (try simp only [fZ] at hF)) | ((with_reducible refine gst ?_); refine wS hA ?_; clear hF hA; intro w1 hA; (try simp only [uA] at hA); have hF := hA.facts; (try simp only [fZ] at hF)) | ((with_reducible refine gbx ?_); refine wB hA ?_; clear hF hA; intro b1 w1 hA hb1; (try simp only [uA] at hA); have hF := hA.facts; (try simp only [fZ] at hF)))
  refine (anchor_any _).mono ?_
  rintro e w1 ⟨rfl, hxx⟩
  have hB := hA.ext hxx
  clear hxx
  clear hF hA; have hA := hB; clear hB
  try simp only [List.cons_append, List.nil_append] at hA
  (try simp only [uA] at hA); have hF := hA.facts; (try simp only [fZ] at hF)
  by_cases h20 : l.length ≤ 20
  · by_cases h21 : sm.length ≤ 20
    · have hgt : ¬ (20 : Int) < l.length := by omega
      have hgs : ¬ (20 : Int) < sm.length := by omega
      go_wp2_with (first | ((with_reducible refine gst ?_); refine wS hA ?_; clear hF hA; intro w1 hA; (try simp only [uA] at hA); have hF := hA.facts; (try simp only [fZ] at hF)) | ((with_reducible refine gbx ?_); refine wB hA ?_; clear hF hA; intro b1 w1 hA hb1; (try simp only [uA] at hA); have hF := hA.facts; (try simp only [fZ] at hF)))
      refine (right_any _ f).mono ?_
      rintro e w2 ⟨c, rfl, hc, hxx⟩
      have hB := hA.ext hxx
      clear hxx
      clear hF hA; have hA := hB; clear hB
      try simp only [List.cons_append, List.nil_append] at hA
      (try simp only [uA] at hA); have hF := hA.facts; (try simp only [fZ] at hF)
      cases c
      · go_wp2_with (first | ((with_reducible refine gst ?_); refine wS hA ?_; clear hF hA; intro w1 hA; (try simp only [uA] at hA); have hF := hA.facts; (try simp only [fZ] at hF)) | ((with_reducible refine gbx ?_); refine wB hA ?_; clear hF hA; intro b1 w1 hA hb1; (try simp only [uA] at hA); have hF := hA.facts; (try simp only [fZ] at hF)))
        go_ret
        exact ⟨rfl, below_old hA sZ⟩
      · have hfo := Lib.hid (show FOk f from hc.1 rfl)
        clear hc
        go_wp2_with (first | ((with_reducible refine gst ?_); refine wS hA ?_; clear hF hA; intro w1 hA; (try simp only [uA] at hA); have hF := hA.facts; (try simp only [fZ] at hF)) | ((with_reducible refine gbx ?_); refine wB hA ?_; clear hF hA; intro b1 w1 hA hb1; (try simp only [uA] at hA); have hF := hA.facts; (try simp only [fZ] at hF)))
        refine (built_any (R := Part.old w) (v := .slice ax l.length cap) (l := l) (hA.sep1 (A := Part.old w) sZ) hl0'.out (by omega) hokl'.out).mono ?_
        rintro e w4 ⟨p, m, u, rfl, hT⟩
        have hB := hA.call1 (A := Part.old w) sZ hT
        clear hT
        clear hF hA; have hA := hB; clear hB
        try simp only [List.cons_append, List.nil_append] at hA
        (try simp only [uA] at hA); have hF := hA.facts; (try simp only [fZ] at hF)
        have hown := Lib.hid (builtE_own l)
        have hesl := builtE_len l
        generalize builtE l = es at *
        have hxsl := sortedD_len es
        have hxg := Lib.hid (sortedD_get hown.out.uq)
        have hxo := Lib.hid (sortedD_own hown.out)
        generalize sortedD es = xs at *
        obtain ⟨axx, capx, hvx, _, hcpx, _⟩ := hA.row_form (e := 52) (size := 10) (n := xs.length) (v := u) (xs := flatD xs) sZ
        subst hvx
        have hes1 : es.length ≤ 20 := by omega
        (try simp only [uA] at hA); have hF := hA.facts; (try simp only [fZ] at hF)
        go_wp2_with (first | ((with_reducible refine gst ?_); refine wS hA ?_; clear hF hA; intro w1 hA; (try simp only [uA] at hA); have hF := hA.facts; (try simp only [fZ] at hF)) | ((with_reducible refine gbx ?_); refine wB hA ?_; clear hF hA; intro b1 w1 hA hb1; (try simp only [uA] at hA); have hF := hA.facts; (try simp only [fZ] at hF)))
        try go_frame
        have hB := row_nilD hA
        clear hF hA
        go_loopg [48, 10] sm.length (ChRel w p m b4 es f (.slice axx xs.length capx) xs sm)
        case atStart => exact ⟨0, rfl, by omega, hB.pick pZ⟩
        case round =>
          obtain ⟨i2, rfl, hik2, hA⟩ := hrel
          clear hB
          by_cases hi2 : i2 < sm.length
          · obtain ⟨y, hy⟩ : ∃ y, sm[i2]? = some y := ⟨_, List.getElem?_eq_getElem hi2⟩
            have hrr := row_elem (hs0'.out _ (hA.get (A := Part.old w) sZ)) hy
            have hnx := Lib.hid (chF_next (xs := xs) hy)
            have hcl := chF_len xs (sm.take i2)
            rw [List.length_take] at hcl
            have hcl1 : (chF xs (sm.take i2)).length ≤ 20 := by omega
            clear hcl hy
            generalize chF xs (sm.take i2) = ch at *
            obtain ⟨axc, capc, hvc, _, hcpc, _⟩ := hA.row_form (e := 52) (size := 10) (n := ch.length) (xs := flatD ch) .here
            subst hvc
            obtain ⟨ry, ty⟩ := y
            obtain ⟨bt, offt, hax2, hce⟩ := hrr
            have hr2' := Lib.hid (show ∀ (k : Nat) u, ([.int .i64 ry, .int .i64 ty] : List Value)[k]? = some u → wr.cell? ⟨bt, offt + i2 * 2 + k, none⟩ = some u from hce)
            clear hce
            subst hax2
            have hiI2 : (i2 : Int) < sm.length := by omega
            (try simp only [uA] at hA); have hF := hA.facts; (try simp only [fZ] at hF)
            go_wp2_with (first | ((with_reducible refine gal ?_); refine wA 38 (.agg #[.int .i64 0, .int .i64 0]) [.int .i64 0, .int .i64 0] hA ?_; clear hF hA; intro b12 w1 hA hb12; (try simp only [uA] at hA); have hF := hA.facts; (try simp only [fZ] at hF)) | ((with_reducible show wpList _ _ _ ({ dst := some 51, op := Op.load _ _, type := _, pos := _, after := _, guard := _ } :: _) _ _); refine wpList_loadRow_at (vs := [.int .i64 ry, .int .i64 ty]) rfl rfl (by (try simp only [Act.eval, eV]) <;> exact rfl) hr2'.out (by kernel_rfl) (by kernel_rfl) ?_) | ((with_reducible refine gst ?_); refine wS hA ?_; clear hF hA; intro w1 hA; (try simp only [uA] at hA); have hF := hA.facts; (try simp only [fZ] at hF)) | ((with_reducible refine gbx ?_); refine wB hA ?_; clear hF hA; intro b1 w1 hA hb1; (try simp only [uA] at hA); have hF := hA.facts; (try simp only [fZ] at hF)))
            refine (find_any (hA.sep1 (A := rowD (.slice axx xs.length capx) xs) sZ) (ry, ty) (by omega)).mono ?_
            rintro e w11 ⟨rfl, hT⟩
            have hB := hA.call1 (A := rowD (.slice axx xs.length capx) xs) sZ hT
            clear hT
            clear hF hA; have hA := hB; clear hB
            try simp only [List.cons_append, List.nil_append] at hA
            (try simp only [uA] at hA); have hF := hA.facts; (try simp only [fZ] at hF)
            cases hg : getA xs (ry, ty) with
            | none =>
              rw [find_none hg]
              have hnx2 := Lib.hid (show chF xs (sm.take (i2 + 1)) = ch from by rw [hnx.out, hg, List.append_nil])
              clear hg
              go_wp2_with (first | ((with_reducible refine gst ?_); refine wS hA ?_; clear hF hA; intro w1 hA; (try simp only [uA] at hA); have hF := hA.facts; (try simp only [fZ] at hF)) | ((with_reducible refine gbx ?_); refine wB hA ?_; clear hF hA; intro b1 w1 hA hb1; (try simp only [uA] at hA); have hF := hA.facts; (try simp only [fZ] at hF)))
              go_roundg (gk - 1)
              case measure => omega
              case rel => exact ⟨i2 + 1, by simp, by omega, by rw [hnx2.out]; exact hA.pick pZ⟩
            | some a =>
              obtain ⟨k, hfk, hkl, hke⟩ := find_some hg
              rw [hfk]
              have hk0 : (0 : Int) ≤ (k : Int) := by omega
              have hkI : (k : Int) < xs.length := by omega
              have hnx2 := Lib.hid (show chF xs (sm.take (i2 + 1)) = ch ++ [((ry, ty), a)] from by rw [hnx.out, hg])
              have hec := elem_cut3 xs hke
              obtain ⟨gx, cx, hgx3, _, _, _, _, _⟩ := hA.row_open (e := 52) (size := 10) (ax := axx) (cap := capx) (n := xs.length) (xs := flatD xs) sZ (by omega)
              subst hgx3
              obtain ⟨ss, d0, d1, d2, d3, d4, d5, d6⟩ := a
              have hec' := Lib.hid (show ((flatD xs).drop (k * 10)).take (List.length (α := Value) [.int .i64 ry, .int .i64 ty, .int .i64 ss, .int .i64 d0, .int .i64 d1, .int .i64 d2, .int .i64 d3, .int .i64 d4, .int .i64 d5, .int .i64 d6]) = [.int .i64 ry, .int .i64 ty, .int .i64 ss, .int .i64 d0, .int .i64 d1, .int .i64 d2, .int .i64 d3, .int .i64 d4, .int .i64 d5, .int .i64 d6] from hec)
              clear hg hec hke hfk
              (try simp only [uA] at hA); have hF := hA.facts; (try simp only [fZ] at hF)
              go_wp2_with (first | ((with_reducible show wpList _ _ _ ({ dst := some 61, op := Op.load _ _, type := _, pos := _, after := _, guard := _ } :: _) _ _); refine wpList_rowN_at (g := gx) (j := k * 10) (vs := [.int .i64 ry, .int .i64 ty, .int .i64 ss, .int .i64 d0, .int .i64 d1, .int .i64 d2, .int .i64 d3, .int .i64 d4, .int .i64 d5, .int .i64 d6]) rfl rfl (by (try simp only [Act.eval, eV]) <;> exact rfl) hA sZ hec'.out (by kernel_rfl) (by kernel_rfl) ?_) | ((with_reducible show wpList _ _ _ ({ dst := _, op := Op.buildSlice _ _ _, type := _, pos := _, after := _, guard := _ } :: _) _ _); refine wpList_one_at (e := 52) (vs := cellsD ((ry, ty), (⟨ss, d0, d1, d2, d3, d4, d5, d6⟩ : A8))) rfl rfl (by (try simp only [Act.eval, eV]) <;> exact rfl) (fun _ => by kernel_rfl) hA ?_; intro b51 w1 hB hb51; clear hF hA; have hA := hB; clear hB; (try simp only [uA] at hA); have hF := hA.facts; (try simp only [fZ] at hF)) | ((with_reducible show wpList _ _ _ ({ dst := _, op := Op.call { callee := Callee.builtin Builtin.append, args := _, argTypes := _ }, type := _, pos := _, after := _, guard := _ } :: _) _ _); refine wpList_append_at (e := 52) (size := 10) (v := .slice axc ch.length capc) (xs := flatD ch) (n := ch.length) (m := 1) (news := cellsD ((ry, ty), (⟨ss, d0, d1, d2, d3, d4, d5, d6⟩ : A8))) rfl _ _ 28 rfl Try.underlying28 hi0 hz0 hz1 hz2 rfl (by omega) hA sZ (by (try simp only [Act.eval, eV]) <;> exact rfl) (by (try simp only [Act.eval, eV]) <;> exact rfl) rfl (hA.cells_reads sZ _ _) (cellsD_one _) (by unfold maxLen; omega) (by omega) ?_; intro v9 w1 hB; rw [rowD_snoc] at hB; clear hF hA; have hA := hB; clear hB; (try simp only [uA] at hA); have hF := hA.facts; (try simp only [fZ] at hF)) | ((with_reducible refine gst ?_); refine wS hA ?_; clear hF hA; intro w1 hA; (try simp only [uA] at hA); have hF := hA.facts; (try simp only [fZ] at hF)) | ((with_reducible refine gbx ?_); refine wB hA ?_; clear hF hA; intro b1 w1 hA hb1; (try simp only [uA] at hA); have hF := hA.facts; (try simp only [fZ] at hF)))
              go_roundg (gk - 1)
              case measure => omega
              case rel => exact ⟨i2 + 1, by simp, by omega, by rw [hnx2.out]; exact hA.pick pZ⟩
          · have hiI2 : ¬ (i2 : Int) < sm.length := by omega
            rw [List.take_of_length_le (by omega)] at hA
            have hcl := chF_len xs sm
            have hchn := ch_names hxg.out sm
            have hchs : ∀ y ∈ sortedD (chF xs sm), getA es y.1 = some y.2 := fun y hy => by rw [← hxg.out]; exact (chF_mem.1 (sortedD_sub hy)).2
            have hchl := sortedD_len (chF xs sm)
            have hchu : Uq (sortedD (chF xs sm)) := StD.uq (sortedD_sorted (chF xs sm))
            generalize chF xs sm = ch at *
            obtain ⟨axc, capc, hvc, _, hcpc, _⟩ := hA.row_form (e := 52) (size := 10) (n := ch.length) (xs := flatD ch) .here
            subst hvc
            have hss : ∀ x ∈ lstG es sm, getA (sortedD ch) x = getA es x := fun x hx => by
              rw [← hchn] at hx
              obtain ⟨y, hy, rfl⟩ := List.mem_map.1 hx
              rw [hchs y hy]
              exact getA_of_mem hchu hy
            have hdep : Deps (sortedD ch) := fun x a h => hown.out.deps x a (hchs (x, a) (getA_mem h))
            have hLl : (sortedD ch).length = (lstG es sm).length := by rw [← hchn, List.length_map]
            have hLs := lstG_sorted es sm
            have hLn := lstG_len es sm
            have hch' := Lib.hid (And.intro hchn (And.intro hchs (And.intro hchu (And.intro hss (And.intro hdep (And.intro hLl hLs))))))
            have hsd20 : (sortedD ch).length ≤ 20 := by omega
            clear hchn hchs hchu hss hdep hLs hLl
            have hord := fun (w1 : World) (q : Sep [Part.old w, GrP p m es] w1) => order_any (R := Part.old w) (v := .slice as_ sm.length caps) (l := sm) q hs0'.out (by omega) hoks'.out f hown.out.deps hown.out.ok hown.out.uq
            have hkno := fun (w1 : World) (q : Sep [Part.old w, GrP p m es] w1) => knots_any (R := Part.old w) (v := .slice as_ sm.length caps) (l := sm) q hs0'.out (by omega) hoks'.out f hown.out.deps hown.out.ok hown.out.uq
            have hdee := fun (w1 : World) (q : Sep [Part.old w, GrP p m es] w1) => deep_any (R := Part.old w) (v := .slice as_ sm.length caps) (l := sm) q hs0'.out (by omega) hoks'.out f hown.out.deps hown.out.ok hown.out.uq
            have hrea := fun (w1 : World) (u : Value) (q : Sep [rowD u (sortedD ch)] w1) => reach_any q f hch'.out.2.2.1 hch'.out.2.2.2.2.1 (by omega)
            simp only [F7.val] at hord hkno hdee hrea
            have hord' := Lib.hid hord
            have hkno' := Lib.hid hkno
            have hdee' := Lib.hid hdee
            have hrea' := Lib.hid hrea
            clear hord hkno hdee hrea hik2
            (try simp only [uA] at hA); have hF := hA.facts; (try simp only [fZ] at hF)
            go_wp2_with (first | ((with_reducible refine gst ?_); refine wS hA ?_; clear hF hA; intro w1 hA; (try simp only [uA] at hA); have hF := hA.facts; (try simp only [fZ] at hF)) | ((with_reducible refine gbx ?_); refine wB hA ?_; clear hF hA; intro b1 w1 hA hb1; (try simp only [uA] at hA); have hF := hA.facts; (try simp only [fZ] at hF)))
            refine (sorted_any (hA.sep1 (A := rowD (.slice axc ch.length capc) ch) sZ) (by omega)).mono ?_
            rintro e w12 ⟨vs, rfl, hT⟩
            have hB := hA.call1 (A := rowD (.slice axc ch.length capc) ch) sZ hT
            clear hT
            clear hF hA; have hA := hB; clear hB
            try simp only [List.cons_append, List.nil_append] at hA
            (try simp only [uA] at hA); have hF := hA.facts; (try simp only [fZ] at hF)
            generalize sortedD ch = sd at *
            obtain ⟨axs, capsd, hvs, _, _, _⟩ := hA.row_form (e := 52) (size := 10) (n := sd.length) (v := vs) (xs := flatD sd) sZ
            subst hvs
            (try simp only [uA] at hA); have hF := hA.facts; (try simp only [fZ] at hF)
            go_wp2_with (first | ((with_reducible refine gst ?_); refine wS hA ?_; clear hF hA; intro w1 hA; (try simp only [uA] at hA); have hF := hA.facts; (try simp only [fZ] at hF)) | ((with_reducible refine gbx ?_); refine wB hA ?_; clear hF hA; intro b1 w1 hA hb1; (try simp only [uA] at hA); have hF := hA.facts; (try simp only [fZ] at hF)))
            refine (hrea'.out _ _ (hA.sep1 (A := rowD (.slice axs sd.length capsd) sd) sZ)).mono ?_
            rintro e w13 ⟨tv, T, rfl, hsq, hrch, hT⟩
            have hB := hA.call1 (A := rowD (.slice axs sd.length capsd) sd) sZ hT
            clear hT
            clear hF hA; have hA := hB; clear hB
            try simp only [List.cons_append, List.nil_append] at hA
            (try simp only [uA] at hA); have hF := hA.facts; (try simp only [fZ] at hF)
            have hLl := hch'.out.2.2.2.2.2.1
            have htt : ∀ i k, i < (lstG es sm).length → k < (lstG es sm).length → (tF T i k = true ↔ Tar.R (nxL es f (lstG es sm)) i k) := fun i k hi hk => by
              rw [hrch i k (by omega) (by omega), hch'.out.1, nxL_same hch'.out.2.2.2.1]
            have htt' := Lib.hid htt
            have hsq' := Lib.hid hsq
            clear hrch htt hrea' hsq hLl
            obtain ⟨axT, capT, hvT, _, _, _⟩ := hA.row_form (e := 60) (size := 1) (n := T.length) (v := tv) (xs := flatB T) sZ
            subst hvT
            (try simp only [uA] at hA); have hF := hA.facts; (try simp only [fZ] at hF)
            go_wp2_with (first | ((with_reducible refine gst ?_); refine wS hA ?_; clear hF hA; intro w1 hA; (try simp only [uA] at hA); have hF := hA.facts; (try simp only [fZ] at hF)) | ((with_reducible refine gbx ?_); refine wB hA ?_; clear hF hA; intro b1 w1 hA hb1; (try simp only [uA] at hA); have hF := hA.facts; (try simp only [fZ] at hF)))
            refine (hord'.out _ (hA.sep2 (A := Part.old w) (B := GrP p m es) sZ sZ)).mono ?_
            rintro e w14 ⟨ov, rfl, hT⟩
            have hB := hA.call2 (A := Part.old w) (B := GrP p m es) sZ sZ hT
            clear hT
            clear hF hA; have hA := hB; clear hB
            try simp only [List.cons_append, List.nil_append] at hA
            (try simp only [uA] at hA); have hF := hA.facts; (try simp only [fZ] at hF)
            obtain ⟨axo, capo, hvo, _, _, _⟩ := hA.row_form (e := 38) (size := 2) (n := (ordG es f (lstG es sm)).length) (v := ov) (xs := flatI (ordG es f (lstG es sm))) sZ
            subst hvo
            clear hord'
            (try simp only [uA] at hA); have hF := hA.facts; (try simp only [fZ] at hF)
            go_wp2_with (first | ((with_reducible refine gst ?_); refine wS hA ?_; clear hF hA; intro w1 hA; (try simp only [uA] at hA); have hF := hA.facts; (try simp only [fZ] at hF)) | ((with_reducible refine gbx ?_); refine wB hA ?_; clear hF hA; intro b1 w1 hA hb1; (try simp only [uA] at hA); have hF := hA.facts; (try simp only [fZ] at hF)))
            refine (hkno'.out _ (hA.sep2 (A := Part.old w) (B := GrP p m es) sZ sZ)).mono ?_
            rintro e w15 ⟨gv, K, kn, found, rfl, hkn, hKg, hT⟩
            have hB := hA.call2 (A := Part.old w) (B := GrP p m es) sZ sZ hT
            clear hT
            clear hF hA; have hA := hB; clear hB
            try simp only [List.cons_append, List.nil_append] at hA
            (try simp only [uA] at hA); have hF := hA.facts; (try simp only [fZ] at hF)
            have hfl := knots_flat (es := es) (f := f) hkn
            have hKF : KnF (lstG es sm) 20 (tF T) (K.map Gp.gs) := ⟨fun g hg x hx y hy => pair_in hch'.out.2.2.2.2.2.2 hkn htt'.out hKg hg hx hy, fun j g hg x hx y hy => pair_out hch'.out.2.2.2.2.2.2 hkn htt'.out hKg hg hx hy, fun x hx => by rw [hKg, show idK (enL es (lstG es sm)) = idsG es (lstG es sm) from rfl, hfl, (ordG_perm es f (lstG es sm)).mem_iff] at hx; exact hx, fun g hg q => by
              rw [hKg] at hg
              obtain ⟨g0, h0, rfl⟩ := List.mem_map.1 hg
              exact ((Tar.grpP_is hkn _ []).one g0 h0).1 (List.map_eq_nil_iff.1 q), by rw [hKg, show idK (enL es (lstG es sm)) = idsG es (lstG es sm) from rfl, hfl, (ordG_perm es f (lstG es sm)).length_eq]; omega⟩
            have hog : ordG es f (lstG es sm) = (K.map Gp.gs).flatten := by rw [hKg]; exact hfl.symm
            rw [hog] at hA ⊢
            have hLl := hch'.out.2.2.2.2.2.1
            have hdsm := Lib.hid (deep_same (es := es) (f := f) htt'.out)
            have htrs := Lib.hid (show ∀ i j k, i < sd.length → j < sd.length → k < sd.length → tF T i j = true → tF T j k = true → tF T i k = true from fun i j k hi hj hk h1 h2 => (htt'.out i k (by omega) (by omega)).2 (((htt'.out i j (by omega) (by omega)).1 h1).trans ((htt'.out j k (by omega) (by omega)).1 h2)))
            have hKF' := Lib.hid hKF
            clear hfl hKg hkn hkno' hKF hog htt'
            obtain ⟨FL, hFL⟩ : ∃ z, (K.map Gp.gs).flatten = z := ⟨_, rfl⟩
            rw [hFL] at hA ⊢
            have hFL' := Lib.hid hFL
            have hFLl : FL.length ≤ 20 := by rw [← hFL]; exact hKF'.out.len
            clear hFL
            obtain ⟨axg, capg, hgv, _, _, _⟩ := hA.row_form (e := 31) (size := 1) (n := K.length) (v := gv) (xs := flatG K) sZ
            subst hgv
            have hKl : K.length ≤ 20 := by
              have h1 := Tar.flat_ge (G := K.map Gp.gs) hKF'.out.ne
              have h2 := hKF'.out.len
              rw [List.length_map] at h1
              omega
            have hKm := Lib.hid (show (K.map Gp.gs).length = K.length from List.length_map ..)
            have hTl := Lib.hid hsq'.out.1
            obtain ⟨Lk, hLk⟩ : ∃ z, lstG es sm = z := ⟨_, rfl⟩
            have hLnd := Lib.hid (nodupL hch'.out.2.2.2.2.2.2)
            have hsdn := Lib.hid hch'.out.1
            rw [hLk] at hKF' hLnd hsdn hLl
            have hLk' := Lib.hid hLk
            have hLl' := Lib.hid hLl
            clear hLk hLl hch'
            (try simp only [uA] at hA); have hF := hA.facts; (try simp only [fZ] at hF)
            go_wp2_with (first | ((with_reducible refine gst ?_); refine wS hA ?_; clear hF hA; intro w1 hA; (try simp only [uA] at hA); have hF := hA.facts; (try simp only [fZ] at hF)) | ((with_reducible refine gbx ?_); refine wB hA ?_; clear hF hA; intro b1 w1 hA hb1; (try simp only [uA] at hA); have hF := hA.facts; (try simp only [fZ] at hF)))
            try go_frame
            clear hF
            go_loopg [79, 16, 17] K.length (LgRel w [rowG (.slice axg K.length capg) K, restG K, rowI2 (.slice axo FL.length capo) FL, rowT (.slice axT T.length capT) T, restB T, rowD (.slice axs sd.length capsd) sd, GrP p m es, Part.cells b4 [.int .i64 f.f0, .int .i64 f.f1, .int .i64 f.f2, .int .i64 f.f3, .int .i64 f.f4, .int .i64 f.f5, .int .i64 f.f6] 24, Part.old w] Lk (K.map Gp.gs))
            case atStart => exact ⟨0, rfl, rfl, rfl, by rw [hKm.out, Nat.zero_add], hA.pick pZ⟩
            case round =>
              obtain ⟨j, rfl, rfl, rfl, hjk, hB⟩ := hrel
              rw [hKm.out] at hjk
              clear hA; have hA := hB; clear hB
              by_cases hj : j < K.length
              · skip
                obtain ⟨g, hg⟩ : ∃ g, K[j]? = some g := ⟨_, List.getElem?_eq_getElem hj⟩
                have hgK : (K.map Gp.gs)[j]? = some g.gs := by rw [List.getElem?_map, hg]; rfl
                have hgm : g.gs ∈ K.map Gp.gs := List.mem_of_getElem? hgK
                have hgn := hKF'.out.ne g.gs hgm
                have hpin := Lib.hid (hKF'.out.pin g.gs hgm)
                have hpout := Lib.hid (hKF'.out.pout j g.gs hgK)
                have hfs := flat_split hgK
                have hfj : ((K.map Gp.gs).take (j + 1)).flatten = ((K.map Gp.gs).take j).flatten ++ g.gs := by rw [List.take_add_one, hgK]; simp
                rw [hFL'.out] at hfs
                have hfj' := Lib.hid hfj
                have hmL := Lib.hid (show ∀ x ∈ FL, x ∈ Lk from fun x hx => hKF'.out.mem x (by rw [hFL'.out]; exact hx))
                generalize ((K.map Gp.gs).drop (j + 1)).flatten = post at *
                generalize ((K.map Gp.gs).take j).flatten = pre at *
                have hgl : pre.length + g.gs.length ≤ 20 := by
                  have := congrArg List.length hfs
                  simp only [List.length_append] at this
                  omega
                have hfs' := Lib.hid hfs
                have hz : ¬ ((g.gs.length : Int) = 0) := fun q => hgn (List.length_eq_zero_iff.1 (by omega))
                have hzb : ((g.gs.length : Int) == 0) = false := beq_eq_false_iff_ne.2 hz
                clear hgK hgm hgn hfs hfj
                obtain ⟨bk, offk, hax2, hce2⟩ := row_elemG (enc := Gp.cells) (size := 1) (fun _ => rfl) (by omega) (l := K) (x := g) (hA.row_reads (v := .slice axg K.length capg) (n := K.length) (xs := flatG K) sZ) hg
                subst hax2
                have hc : wr.cell? ⟨bk, offk + j, none⟩ = some (.slice g.ga g.gs.length g.gc) := by have := hce2 0 _ rfl; simpa using this
                have hspG := Lib.hid (split_at hg)
                have hB := outG hspG.out hA sZ
                simp only [Gp.part, Gp.v] at hB
                clear hA hce2 hg; have hA := hB; clear hB
                (try simp only [uA] at hA); have hF := hA.facts; (try simp only [fZ] at hF)
                go_wp2_with (first | ((with_reducible refine gst ?_); refine wS hA ?_; clear hF hA; intro w1 hA; (try simp only [uA] at hA); have hF := hA.facts; (try simp only [fZ] at hF)) | ((with_reducible refine gbx ?_); refine wB hA ?_; clear hF hA; intro b1 w1 hA hb1; (try simp only [uA] at hA); have hF := hA.facts; (try simp only [fZ] at hF)))
                try go_frame
                have hjG : j + 1 + (gk - 1) = K.length := by omega
                obtain ⟨G, hG⟩ : ∃ G, gk - 1 = G := ⟨_, rfl⟩
                rw [hG] at hjG
                have hGk := Lib.hid (show G < gk from by omega)
                have hjG' := Lib.hid hjG
                clear hG hjG hjk hc hF hz hzb
                go_loopg [88, 16, 17] g.gs.length (LiRel w [rowI2 (.slice g.ga g.gs.length g.gc) g.gs, restG (K.take j ++ K.drop (j + 1)), rowG (.slice (some ⟨bk, offk, none⟩) K.length capg) K, rowI2 (.slice axo FL.length capo) FL, rowT (.slice axT T.length capT) T, restB T, rowD (.slice axs sd.length capsd) sd, GrP p m es, Part.cells b4 [.int .i64 f.f0, .int .i64 f.f1, .int .i64 f.f2, .int .i64 f.f3, .int .i64 f.f4, .int .i64 f.f5, .int .i64 f.f6] 24, Part.old w] Lk pre g.gs)
                case atStart => exact ⟨0, rfl, rfl, by rw [List.take_zero, List.append_nil], by omega, hA.pick pZ⟩
                case round =>
                  obtain ⟨i, rfl, rfl, rfl, hik, hB⟩ := hrel
                  clear hA; have hA := hB; clear hB
                  by_cases hi : i < g.gs.length
                  · skip
                    obtain ⟨x, hx⟩ : ∃ x, g.gs[i]? = some x := ⟨_, List.getElem?_eq_getElem hi⟩
                    have hxm := List.mem_of_getElem? hx
                    have hFx : FL[pre.length + i]? = some x := by rw [hfs'.out, List.getElem?_append_right (by omega), Nat.add_sub_cancel_left, List.getElem?_append_left hi]; exact hx
                    have hNF := (List.getElem?_eq_some_iff.1 hFx).1
                    have hxL := hmL.out x (List.mem_of_getElem? hFx)
                    have hFv := name_cut3 FL hFx
                    have hnl := Lib.hid (show lastZ Lk (pre ++ g.gs.take (i + 1)) = (Lk.idxOf x : Nat) by rw [List.take_add_one, hx, ← List.append_assoc]; exact lastZ_snoc _ _ _)
                    have hfd : findD sd x = (Lk.idxOf x : Nat) := by unfold findD idxI; rw [hsdn.out, if_pos hxL]
                    have hkx := List.idxOf_lt_length_of_mem hxL
                    have hkx2 : Lk.idxOf x < T.length := by rw [hTl.out, hLl'.out]; exact hkx
                    have hcase : (0 < i ∧ ∃ q : Nat, q < T.length ∧ lastZ Lk (pre ++ g.gs.take i) = q ∧ tF T (Lk.idxOf x) q = true ∧ tF T q (Lk.idxOf x) = true) ∨ (i = 0 ∧ lastZ Lk (pre ++ g.gs.take i) = -1) ∨ (i = 0 ∧ ∃ q : Nat, q < T.length ∧ lastZ Lk (pre ++ g.gs.take i) = q ∧ ¬ (tF T (Lk.idxOf x) q = true ∧ tF T q (Lk.idxOf x) = true)) := by
                      have hlt : ∀ y ∈ FL, Lk.idxOf y < T.length := fun y hy => by rw [hTl.out, hLl'.out]; exact List.idxOf_lt_length_of_mem (hmL.out y hy)
                      rcases Nat.eq_zero_or_pos i with h0 | h0
                      · subst h0
                        rw [List.take_zero, List.append_nil]
                        rcases last_pre Lk pre with e | ⟨y, hy, e⟩
                        · exact .inr (.inl ⟨rfl, e⟩)
                        · exact .inr (.inr ⟨rfl, _, hlt y (by rw [hfs'.out]; exact List.mem_append_left _ hy), e, hpout.out x hxm y hy⟩)
                      · obtain ⟨y, hy, e⟩ := last_in (Lk := Lk) (pre := pre) h0 (Nat.le_of_lt hi)
                        exact .inl ⟨h0, _, hlt y (by rw [hfs'.out]; exact List.mem_append_right _ (List.mem_append_left _ hy)), e, hpin.out x hxm y hy, hpin.out y hy x hxm⟩
                    obtain ⟨N, hN⟩ : ∃ N, pre.length + i = N := ⟨_, rfl⟩
                    rw [hN] at hFv hNF
                    rw [hN]
                    have hN' := Lib.hid hN
                    have hN20 : N ≤ 20 := by omega
                    clear hFx hN hxm hxL hkx
                    generalize Lk.idxOf x = kx at *
                    generalize lastZ Lk (pre ++ g.gs.take i) = lz at *
                    obtain ⟨go, co, hgo, _, _, _, _, _⟩ := hA.row_open (e := 38) (size := 2) (ax := axo) (cap := capo) (n := FL.length) (xs := flatI FL) sZ (by omega)
                    have hrr := row_elem (hA.row_reads (v := .slice g.ga g.gs.length g.gc) (n := g.gs.length) (xs := flatI g.gs) sZ) hx
                    clear hx
                    obtain ⟨r1, t1⟩ := x
                    obtain ⟨bt, offt, hax2, hce⟩ := hrr
                    have hr2' := Lib.hid (show ∀ (k : Nat) u, ([.int .i64 r1, .int .i64 t1] : List Value)[k]? = some u → wr.cell? ⟨bt, offt + i * 2 + k, none⟩ = some u from hce)
                    have hFv' : ((flatI FL).drop (N * 2)).take (List.length (α := Value) [.int .i64 r1, .int .i64 t1]) = [.int .i64 r1, .int .i64 t1] := hFv
                    rw [hax2, hgo] at hA ⊢
                    have hax2' := Lib.hid hax2
                    have hgo' := Lib.hid hgo
                    clear hce hax2 hFv hgo
                    have hNI : (N : Int) < FL.length := by omega
                    have hge : decide ((FL.length : Int) ≤ (N : Int)) = false := decide_eq_false (by omega)
                    have hge2 : decide (FL.length ≤ N) = false := decide_eq_false (by omega)
                    (try simp only [uA] at hA); have hF := hA.facts; (try simp only [fZ] at hF)
                    go_wp2_with (first | ((with_reducible refine gal ?_); refine wA 38 (.agg #[.int .i64 0, .int .i64 0]) [.int .i64 0, .int .i64 0] hA ?_; clear hF hA; intro b21 w1 hA hb21; (try simp only [uA] at hA); have hF := hA.facts; (try simp only [fZ] at hF)) | ((with_reducible show wpList _ _ _ ({ dst := some 92, op := Op.load _ _, type := _, pos := _, after := _, guard := _ } :: _) _ _); refine wpList_loadRow_at (vs := [.int .i64 r1, .int .i64 t1]) rfl rfl (by (try simp only [Act.eval, eV]) <;> exact rfl) hr2'.out (by kernel_rfl) (by kernel_rfl) ?_) | ((with_reducible refine gst ?_); refine wS hA ?_; clear hF hA; intro w1 hA; (try simp only [uA] at hA); have hF := hA.facts; (try simp only [fZ] at hF)) | ((with_reducible refine gbx ?_); refine wB hA ?_; clear hF hA; intro b1 w1 hA hb1; (try simp only [uA] at hA); have hF := hA.facts; (try simp only [fZ] at hF)))
                    try go_frame
                    (refine wp_region_all (Cl _ _ _) (by kernel_rfl) (by kernel_rfl) (Cl.drew hA) ?_); (have hn1 := Cl.none hA); (have hn2 := Cl.none2 hA); (repeat (first | go_big_quiet_skip | (go_big_quiet_want; (first | (refine quiet_loads_at (ty := 38) (n := 2) rfl rfl sR (by kernel_rfl) (by kernel_rfl) (by first | assumption | ((try simp only [List.drop_succ_cons, List.drop_zero, List.take_succ_cons, List.take_zero]) <;> exact rfl)) (by exact rfl) ?_; go_frame; go_big_quiet_on) | ((refine quiet_elem_at (g := go) (j := N * 2) (vs := [.int .i64 r1, .int .i64 t1]) rfl rfl sR hFv' (by kernel_rfl) (by kernel_rfl) ?_); go_frame; go_big_quiet_on) | (refine quiet_load_at rfl rfl sR (by kernel_rfl) (by first | assumption | exact rfl) ?_; go_frame; go_big_quiet_on) | (go_big_quiet_op; (first | go_big_quiet_on | ((apply Exists.intro); (refine ⟨fun w1 hw => ?_, ?_⟩); (focus ((have hw := Cl.out hw); (fail))); (go_big_quiet_on))))))))
                    (refine wpQuiet_nil ?_); (intro w1 hB); (clear hF hA hn1 hn2); (have hA := Cl.out hB); (clear hB); (try simp only [uA] at hA); have hF := hA.facts; (try simp only [fZ] at hF)
                    go_wp2_with (first | ((with_reducible refine gst ?_); refine wS hA ?_; clear hF hA; intro w1 hA; (try simp only [uA] at hA); have hF := hA.facts; (try simp only [fZ] at hF)) | ((with_reducible refine gbx ?_); refine wB hA ?_; clear hF hA; intro b1 w1 hA hb1; (try simp only [uA] at hA); have hF := hA.facts; (try simp only [fZ] at hF)))
                    refine (find_any (hA.sep1 (A := rowD (.slice axs sd.length capsd) sd) sZ) (r1, t1) (by omega)).mono ?_
                    rintro e w16 ⟨rfl, hT⟩
                    have hB := hA.call1 (A := rowD (.slice axs sd.length capsd) sd) sZ hT
                    clear hT
                    clear hF hA; have hA := hB; clear hB
                    try simp only [List.cons_append, List.nil_append] at hA
                    (try simp only [uA] at hA); have hF := hA.facts; (try simp only [fZ] at hF)
                    rw [hfd]
                    rw [← hax2'.out, ← hgo'.out] at hA ⊢
                    clear hfd hax2' hgo' hr2' hFv'
                    obtain ⟨gT, cT, hgT, _, _, _, _, _⟩ := hA.row_open (e := 60) (size := 1) (ax := axT) (cap := capT) (n := T.length) (xs := flatB T) sZ (by omega)
                    subst hgT
                    have hk0 : decide ((kx : Int) < 0) = false := decide_eq_false (by omega)
                    rcases hcase with ⟨h0, q, hq, rfl, hv1, hv2⟩ | ⟨rfl, rfl⟩ | ⟨rfl, q, hq, rfl, hnb⟩
                    · skip
                      obtain ⟨xi, hxi, hik2⟩ := hsq'.out.cell (i := kx) (k := q) (by have := hTl.out; omega) (by have := hTl.out; omega)
                      obtain ⟨xq, hxq, hki2⟩ := hsq'.out.cell (i := q) (k := kx) (by have := hTl.out; omega) (by have := hTl.out; omega)
                      have hli := hsq'.out.2 kx xi hxi
                      have hlq := hsq'.out.2 q xq hxq
                      have d2 : w16.cell? ⟨gT, kx, none⟩ = some xi.v := reads_cell (hA.row_reads (v := .slice (some ⟨gT, 0, none⟩) T.length capT) (n := T.length) (xs := flatB T) sZ) (flatB_get hxi)
                      have d3 : w16.cell? ⟨gT, q, none⟩ = some xq.v := reads_cell (hA.row_reads (v := .slice (some ⟨gT, 0, none⟩) T.length capT) (n := T.length) (xs := flatB T) sZ) (flatB_get hxq)
                      have d4 := pool_cell hA sZ hxi hik2
                      have d5 := pool_cell hA sZ hxq hki2
                      obtain ⟨gi, ci, bi⟩ := xi
                      obtain ⟨gq, cq, bq⟩ := xq
                      simp only [Br.v] at d2 d3 d4 d5 hli hlq
                      have hl1 : (q : Int) < bi.length := by have := hTl.out; omega
                      have hl2 : (kx : Int) < bq.length := by have := hTl.out; omega
                      have hl3 : (kx : Int) < T.length := by omega
                      have hl4 : (q : Int) < T.length := by omega
                      clear hxi hxq hik2 hki2 hli hlq
                      rw [hv1] at d4
                      rw [hv2] at d5
                      have g1 : decide (0 < i) = true := decide_eq_true h0
                      have g2 : decide ((i : Int) = 0) = false := decide_eq_false (by omega)
                      have g3 : decide (i = 0) = false := decide_eq_false (by omega)
                      clear hv1 hv2
                      (try simp only [uA] at hA); have hF := hA.facts; (try simp only [fZ] at hF)
                      go_wp2_with (first | ((with_reducible refine gst ?_); refine wS hA ?_; clear hF hA; intro w1 hA; (try simp only [uA] at hA); have hF := hA.facts; (try simp only [fZ] at hF)) | ((with_reducible refine gbx ?_); refine wB hA ?_; clear hF hA; intro b1 w1 hA hb1; (try simp only [uA] at hA); have hF := hA.facts; (try simp only [fZ] at hF)))
                      go_roundg (gk - 1)
                      case measure => omega
                      case rel => exact ⟨i + 1, by simp, by congr 1; have := hN'.out; omega, by rw [hnl.out], by omega, hA.pick pZ⟩
                    · skip
                      (try simp only [uA] at hA); have hF := hA.facts; (try simp only [fZ] at hF)
                      go_wp2_with (first | ((with_reducible refine gst ?_); refine wS hA ?_; clear hF hA; intro w1 hA; (try simp only [uA] at hA); have hF := hA.facts; (try simp only [fZ] at hF)) | ((with_reducible refine gbx ?_); refine wB hA ?_; clear hF hA; intro b1 w1 hA hb1; (try simp only [uA] at hA); have hF := hA.facts; (try simp only [fZ] at hF)))
                      go_roundg (gk - 1)
                      case measure => omega
                      case rel => exact ⟨0 + 1, rfl, by congr 1; have := hN'.out; omega, by rw [hnl.out], by omega, hA.pick pZ⟩
                    · skip
                      obtain ⟨xi, hxi, hik2⟩ := hsq'.out.cell (i := kx) (k := q) (by have := hTl.out; omega) (by have := hTl.out; omega)
                      obtain ⟨xq, hxq, hki2⟩ := hsq'.out.cell (i := q) (k := kx) (by have := hTl.out; omega) (by have := hTl.out; omega)
                      have hli := hsq'.out.2 kx xi hxi
                      have hlq := hsq'.out.2 q xq hxq
                      have d2 : w16.cell? ⟨gT, kx, none⟩ = some xi.v := reads_cell (hA.row_reads (v := .slice (some ⟨gT, 0, none⟩) T.length capT) (n := T.length) (xs := flatB T) sZ) (flatB_get hxi)
                      have d3 : w16.cell? ⟨gT, q, none⟩ = some xq.v := reads_cell (hA.row_reads (v := .slice (some ⟨gT, 0, none⟩) T.length capT) (n := T.length) (xs := flatB T) sZ) (flatB_get hxq)
                      have d4 := pool_cell hA sZ hxi hik2
                      have d5 := pool_cell hA sZ hxq hki2
                      obtain ⟨gi, ci, bi⟩ := xi
                      obtain ⟨gq, cq, bq⟩ := xq
                      simp only [Br.v] at d2 d3 d4 d5 hli hlq
                      have hl1 : (q : Int) < bi.length := by have := hTl.out; omega
                      have hl2 : (kx : Int) < bq.length := by have := hTl.out; omega
                      have hl3 : (kx : Int) < T.length := by omega
                      have hl4 : (q : Int) < T.length := by omega
                      clear hxi hxq hik2 hki2 hli hlq
                      have hq0 : (0 : Int) ≤ (q : Int) := by omega
                      obtain ⟨v1, hv1⟩ : ∃ b, tF T kx q = b := ⟨_, rfl⟩
                      obtain ⟨v2, hv2⟩ : ∃ b, tF T q kx = b := ⟨_, rfl⟩
                      rw [hv1] at d4
                      rw [hv2] at d5
                      have hnb' := Lib.hid (show ¬ (v1 = true ∧ v2 = true) from by rw [← hv1, ← hv2]; exact hnb)
                      clear hv1 hv2 hnb
                      (try simp only [uA] at hA); have hF := hA.facts; (try simp only [fZ] at hF)
                      cases v1
                      · skip
                        go_wp2_with (first | ((with_reducible refine gst ?_); refine wS hA ?_; clear hF hA; intro w1 hA; (try simp only [uA] at hA); have hF := hA.facts; (try simp only [fZ] at hF)) | ((with_reducible refine gbx ?_); refine wB hA ?_; clear hF hA; intro b1 w1 hA hb1; (try simp only [uA] at hA); have hF := hA.facts; (try simp only [fZ] at hF)))
                        go_roundg (gk - 1)
                        case measure => omega
                        case rel => exact ⟨0 + 1, rfl, by congr 1; have := hN'.out; omega, by rw [hnl.out], by omega, hA.pick pZ⟩
                      · cases v2
                        · skip
                          go_wp2_with (first | ((with_reducible refine gst ?_); refine wS hA ?_; clear hF hA; intro w1 hA; (try simp only [uA] at hA); have hF := hA.facts; (try simp only [fZ] at hF)) | ((with_reducible refine gbx ?_); refine wB hA ?_; clear hF hA; intro b1 w1 hA hb1; (try simp only [uA] at hA); have hF := hA.facts; (try simp only [fZ] at hF)))
                          go_roundg (gk - 1)
                          case measure => omega
                          case rel => exact ⟨0 + 1, rfl, by congr 1; have := hN'.out; omega, by rw [hnl.out], by omega, hA.pick pZ⟩
                        · exact absurd ⟨rfl, rfl⟩ hnb'.out
                  · have hi2 : i = g.gs.length := by omega
                    subst hi2
                    rw [List.take_of_length_le (Nat.le_refl _)]
                    (try simp only [uA] at hA); have hF := hA.facts; (try simp only [fZ] at hF)
                    go_wp2_with (first | ((with_reducible refine gst ?_); refine wS hA ?_; clear hF hA; intro w1 hA; (try simp only [uA] at hA); have hF := hA.facts; (try simp only [fZ] at hF)) | ((with_reducible refine gbx ?_); refine wB hA ?_; clear hF hA; intro b1 w1 hA hb1; (try simp only [uA] at hA); have hF := hA.facts; (try simp only [fZ] at hF)))
                    go_roundg G
                    case measure => exact hGk.out
                    case rel =>
                      have hB := inG (d := g) hspG.out hA sZ sZ
                      exact ⟨j + 1, by simp, by rw [hfj'.out, List.length_append], by rw [hfj'.out], by rw [hKm.out]; exact hjG'.out, hB.pick pZ⟩
              · have hj2 : j = K.length := by omega
                subst hj2
                have hall : ((K.map Gp.gs).take K.length).flatten = FL := by rw [List.take_of_length_le (by rw [hKm.out]; exact Nat.le_refl _), hFL'.out]
                rw [hall]
                clear hall hjk hj
                (try simp only [uA] at hA); have hF := hA.facts; (try simp only [fZ] at hF)
                go_wp2_with (first | ((with_reducible refine gst ?_); refine wS hA ?_; clear hF hA; intro w1 hA; (try simp only [uA] at hA); have hF := hA.facts; (try simp only [fZ] at hF)) | ((with_reducible refine gbx ?_); refine wB hA ?_; clear hF hA; intro b1 w1 hA hb1; (try simp only [uA] at hA); have hF := hA.facts; (try simp only [fZ] at hF)))
                refine (hdee'.out _ (hA.sep2 (A := Part.old w) (B := GrP p m es) sZ sZ)).mono ?_
                rintro e w16 ⟨rfl, hT⟩
                have hB := hA.call2 (A := Part.old w) (B := GrP p m es) sZ sZ hT
                clear hT
                clear hF hA; have hA := hB; clear hB
                try simp only [List.cons_append, List.nil_append] at hA
                (try simp only [uA] at hA); have hF := hA.facts; (try simp only [fZ] at hF)
                go_wp2_with (first | ((with_reducible refine gst ?_); refine wS hA ?_; clear hF hA; intro w1 hA; (try simp only [uA] at hA); have hF := hA.facts; (try simp only [fZ] at hF)) | ((with_reducible refine gbx ?_); refine wB hA ?_; clear hF hA; intro b1 w1 hA hb1; (try simp only [uA] at hA); have hF := hA.facts; (try simp only [fZ] at hF)))
                refine (deepest_any (T := T) (n := sd.length) (hA.sep2 (A := rowT (.slice axT T.length capT) T) (B := restB T) sZ sZ) hsq'.out htrs.out (by omega)).mono ?_
                rintro e w17 ⟨rfl, hT⟩
                have hB := hA.call2 (A := rowT (.slice axT T.length capT) T) (B := restB T) sZ sZ hT
                clear hT
                clear hF hA; have hA := hB; clear hB
                try simp only [List.cons_append, List.nil_append] at hA
                (try simp only [uA] at hA); have hF := hA.facts; (try simp only [fZ] at hF)
                have hde : Tar.mostL ((List.range sd.length).map (Tar.dpt sd.length (tF T))) = deepG es f (lstG es sm) := by rw [← hdsm.out, hLk'.out, hLl'.out]
                rw [hde]
                generalize deepG es f (lstG es sm) = dg at *
                clear hde
                go_wp2_with (first | ((with_reducible refine gst ?_); refine wS hA ?_; clear hF hA; intro w1 hA; (try simp only [uA] at hA); have hF := hA.facts; (try simp only [fZ] at hF)) | ((with_reducible refine gbx ?_); refine wB hA ?_; clear hF hA; intro b1 w1 hA hb1; (try simp only [uA] at hA); have hF := hA.facts; (try simp only [fZ] at hF)))
                go_ret
                exact ⟨rfl, below_old hA sZ⟩
    · have hgt : ¬ (20 : Int) < l.length := by omega
      have hgs : (20 : Int) < sm.length := by omega
      go_wp2_with (first | ((with_reducible refine gst ?_); refine wS hA ?_; clear hF hA; intro w1 hA; (try simp only [uA] at hA); have hF := hA.facts; (try simp only [fZ] at hF)) | ((with_reducible refine gbx ?_); refine wB hA ?_; clear hF hA; intro b1 w1 hA hb1; (try simp only [uA] at hA); have hF := hA.facts; (try simp only [fZ] at hF)))
      go_ret
      exact ⟨rfl, below_old hA sZ⟩
  · have hgt : (20 : Int) < l.length := by omega
    go_wp2_with (first | ((with_reducible refine gst ?_); refine wS hA ?_; clear hF hA; intro w1 hA; (try simp only [uA] at hA); have hF := hA.facts; (try simp only [fZ] at hF)) | ((with_reducible refine gbx ?_); refine wB hA ?_; clear hF hA; intro b1 w1 hA hb1; (try simp only [uA] at hA); have hF := hA.facts; (try simp only [fZ] at hF)))
    go_ret
    exact ⟨rfl, below_old hA sZ⟩
end Go.Proofs.Ytgicohkmfbbbdaa.Gr
end
