/- RefX, joined. -/
import Derived.Test.YtgicohkmfbbbdaaK22
import Derived.Test.YtgicohkmfbbbdaaK23
section
namespace Go.Proofs.Ytgicohkmfbbbdaa.Ref
open _root_.Go.Proofs.Ytgicohkmfbbbdaa.Gr
open _root_.Go.Proofs.Ytgicohkmfbbbdaa.Mark (ltID)
open _root_.Go.Proofs.Ytgicohkmfbbbdaa.Attr (A8)
open Go.RowKit
open Tar (ordR ordD sortS insS mutL DordS freeD)
set_option linter.unusedSimpArgs false
set_option linter.unusedVariables false
attribute [-go_sem] run_eql_struct run_neq_struct run_eqGuard_agg

def xat (xs : List IA) (i : Nat) : IA := xs[i]?.getD ((0, 0), A8.zero)
def sqX (xs : List IA) (i : Nat) : Int := (xat xs i).2.s
theorem seq_cell (l : List IA) {i : Nat} {e : IA} (h : l[i]? = some e) : (flatD l)[i * 10 + 2]? = some (.int .i64 e.2.s) := by
  have := flat_at cellsD 10 cellsD_len l i e h 2 (by omega)
  exact this
theorem elem_cut (l : List IA) {i : Nat} {e : IA} (h : l[i]? = some e) : ((flatD l).drop (i * 10)).take 10 = cellsD e :=
  cut_cells cellsD_len (c := flatD l) (l := l) (by rw [List.take_of_length_le (by rw [flatD_len]; omega)]; rfl) h
abbrev odL (b3 : Nat) (xs : List IA) (f : F7) (xv tv cv : Value) (T : List Br) (come : List Bool) : List Part := [rowB cv come, rowT tv T, restB T, rowD xv xs, Part.cells b3 [.int .i64 f.f0, .int .i64 f.f1, .int .i64 f.f2, .int .i64 f.f3, .int .i64 f.f4, .int .i64 f.f5, .int .i64 f.f6] 23]
def OdRel (w : World) (b3 : Nat) (xs : List IA) (f : F7) (xv tv cv : Value) (T : List Br) (k : Nat) (u7 : Value) (wr : World) : Prop :=
  ∃ (come : List Bool) (pre : List Nat), come.length = xs.length ∧ DordS (nxL xs f (xs.map Prod.fst)) xs.length (tF T) (sqX xs) (cF come) pre k ∧ At [rowD xv xs] w (rowD u7 (pre.map (xat xs)) :: odL b3 xs f xv tv cv T come) wr
def OkRel (w : World) (b3 : Nat) (xs : List IA) (f : F7) (xv tv cv ov : Value) (T : List Br) (come : List Bool) (P : List IA) (at_ : Nat) (k : Nat) (u10 u9 : Value) (wr : World) : Prop :=
  ∃ (q : Nat) (come2 : List Bool), u10 = .int .i64 q ∧ q + k = xs.length ∧ come2.length = xs.length ∧ (∀ j, j < xs.length → cF come2 j = (cF come j || (decide (j < q) && (tF T at_ j && tF T j at_)))) ∧
    At [rowD xv xs] w (rowD u9 ((sortS (sqX xs) (mutL (tF T) at_ q)).map (xat xs)) :: rowD ov P :: odL b3 xs f xv tv cv T come2) wr
def OiRel (w : World) (b3 : Nat) (xs : List IA) (f : F7) (xv tv cv ov kv : Value) (T : List Br) (come2 : List Bool) (P : List IA) (ks : List Nat) (q : Nat) (k : Nat) (u11 : Value) (wr : World) : Prop :=
  ∃ i : Nat, u11 = .int .i64 i ∧ i + k = ks.length ∧ (∀ y ∈ ks.take i, sqX xs y ≤ sqX xs q) ∧ At [rowD xv xs] w (rowD kv (ks.map (xat xs)) :: rowD ov P :: odL b3 xs f xv tv cv T come2) wr
def OrderPost (xs : List IA) (f : F7) (xv : Value) (w : World) (e : Ending) (w' : World) : Prop :=
  ∃ u, e = .returned u ∧ At [rowD xv xs] w [rowD u ((ordR (nxL xs f (xs.map Prod.fst)) xs.length (sqX xs)).map (xat xs)), rowD xv xs] w'
set_option maxRecDepth 100000 in
set_option maxHeartbeats 16000000 in
theorem orderD_any {w : World} {xv : Value} {xs : List IA} (h : Sep [rowD xv xs] w) (f : F7) (hu : Uq xs) (hd : Deps xs) (hmax : xs.length ≤ 1000) :
    Calls Try.prog 23 #[xv, f.val] w (OrderPost xs f xv w) := by
  obtain ⟨i0, hi0, hz0, hz1, hz2⟩ := info_parts infoD
  obtain ⟨i1, hi1, hz3, hz4, hz5⟩ := info_parts infoB
  have hA := At.start h
  have hu' := Lib.hid hu
  have hd' := Lib.hid hd
  clear h hu hd
  obtain ⟨axx, capx, hvx, _, hcpx, _⟩ := hA.row_form (e := 52) (size := 10) (n := xs.length) (v := xv) (xs := flatD xs) (by repeat (first | exact Sel.here | apply Sel.there))
  subst hvx
  simp only [F7.val]
  (try simp only [uA] at hA); have hF := hA.facts; (try simp only [fZ] at hF)
  go_enter Try.func23, Try.ntmps23
  go_wp2_with (first | ((with_reducible refine gbx ?_); refine wX 23 (.agg #[.int .i64 f.f0, .int .i64 f.f1, .int .i64 f.f2, .int .i64 f.f3, .int .i64 f.f4, .int .i64 f.f5, .int .i64 f.f6]) [.int .i64 f.f0, .int .i64 f.f1, .int .i64 f.f2, .int .i64 f.f3, .int .i64 f.f4, .int .i64 f.f5, .int .i64 f.f6] hA ?_; clear hF hA; intro b3 w1 hA hb3; (try simp only [uA] at hA); have hF := hA.facts; (try simp only [fZ] at hF)) | ((with_reducible refine gst ?_); refine wS hA ?_; clear hF hA; intro w1 hA; (try simp only [uA] at hA); have hF := hA.facts; (try simp only [fZ] at hF)) | ((with_reducible refine gbx ?_); refine wB hA ?_; clear hF hA; intro b1 w1 hA hb1; (try simp only [uA] at hA); have hF := hA.facts; (try simp only [fZ] at hF)))
  refine (reach_any (hA.sep1 (A := rowD (.slice axx xs.length capx) xs) (by repeat (first | exact Sel.here | apply Sel.there))) f hu'.out hd'.out hmax).mono ?_
  rintro e w1 ⟨tv, T, rfl, hsq, htf, hT⟩
  have hB := hA.call1 (A := rowD (.slice axx xs.length capx) xs) (by repeat (first | exact Sel.here | apply Sel.there)) hT
  clear hT
  clear hF hA; have hA := hB; clear hB
  try simp only [List.cons_append, List.nil_append] at hA
  (try simp only [uA] at hA); have hF := hA.facts; (try simp only [fZ] at hF)
  have hsq' := Lib.hid hsq
  have htf' := Lib.hid (show Tar.TabOk (nxL xs f (xs.map Prod.fst)) xs.length (tF T) from fun i k hi hk => htf i k hi hk)
  have hTl := Lib.hid hsq.1
  clear hsq htf
  obtain ⟨axT, capT, hvT, _, _, _⟩ := hA.row_form (e := 60) (size := 1) (n := T.length) (v := tv) (xs := flatB T) (by repeat (first | exact Sel.here | apply Sel.there))
  subst hvT
  (try simp only [uA] at hA); have hF := hA.facts; (try simp only [fZ] at hF)
  go_wp2_with (first | ((with_reducible refine gms ?_); refine wpList_makeRow_at (e := 4) rfl _ _ rfl Try.underlying60 hi1 hz3 hz4 xs.length (by (try simp only [Act.eval, eV]) <;> exact rfl) (by (try simp only [Act.eval, eV]) <;> exact rfl) (by rw [hz5]; omega) (by unfold maxLen; omega) hA ?_; intro bC w1 hB; have hB := madeB hB; clear hF hA; have hA := hB; clear hB; (try simp only [uA] at hA); have hF := hA.facts; (try simp only [fZ] at hF)) | ((with_reducible refine gst ?_); refine wS hA ?_; clear hF hA; intro w1 hA; (try simp only [uA] at hA); have hF := hA.facts; (try simp only [fZ] at hF)) | ((with_reducible refine gbx ?_); refine wB hA ?_; clear hF hA; intro b1 w1 hA hb1; (try simp only [uA] at hA); have hF := hA.facts; (try simp only [fZ] at hF)))
  try go_frame
  have hB := row_nilD hA
  clear hF hA
  go_loopg [7] xs.length (OdRel w b3 xs f (.slice axx xs.length capx) (.slice axT T.length capT) (.slice (some ⟨bC, 0, none⟩) xs.length xs.length) T)
  case atStart => exact ⟨List.replicate xs.length false, [], List.length_replicate .., DordS.start (fun q hq => cF_get (by rw [List.getElem?_replicate, if_pos hq])), hB.pick (by repeat (first | exact Picks.nil | refine Picks.cons (by repeat (first | exact Sel.here | apply Sel.there)) ?_))⟩
  case round =>
    obtain ⟨come, pre, hcl, hds, hC⟩ := hrel
    clear hB
    simp only [odL] at hC
    have hA := hC
    clear hC
    have hds' := Lib.hid hds
    have hcl' := Lib.hid hcl
    have hpl := hds.le
    have hPe := Lib.hid (show (pre.map (xat xs)).length = pre.length from List.length_map ..)
    have hPl := Lib.hid (show (pre.map (xat xs)).length ≤ 1000 from by rw [List.length_map]; omega)
    clear hds hcl hpl
    generalize hP : pre.map (xat xs) = P at *
    have hP' := Lib.hid hP
    clear hP
    obtain ⟨axP, capP, hvP, _, hcpP, _⟩ := hA.row_form .here
    subst hvP
    by_cases hlt : P.length < xs.length
    · skip
      have hlt2 : pre.length < xs.length := by rw [← hPe.out]; exact hlt
      have hltI : (P.length : Int) < xs.length := by omega
      obtain ⟨gx, cx, hgx2, _, _, _, _, _⟩ := hA.row_open (e := 52) (size := 10) (ax := axx) (cap := capx) (n := xs.length) (xs := flatD xs) (by repeat (first | exact Sel.here | apply Sel.there)) (by omega)
      subst hgx2
      obtain ⟨gT, cT, hgT, _, _, _, _, _⟩ := hA.row_open (e := 60) (size := 1) (ax := axT) (cap := capT) (n := T.length) (xs := flatB T) (by repeat (first | exact Sel.here | apply Sel.there)) (by have := hTl.out; omega)
      subst hgT
      (try simp only [uA] at hA); have hF := hA.facts; (try simp only [fZ] at hF)
      go_wp2_with (first | ((with_reducible refine gst ?_); refine wS hA ?_; clear hF hA; intro w1 hA; (try simp only [uA] at hA); have hF := hA.facts; (try simp only [fZ] at hF)) | ((with_reducible refine gbx ?_); refine wB hA ?_; clear hF hA; intro b1 w1 hA hb1; (try simp only [uA] at hA); have hF := hA.facts; (try simp only [fZ] at hF)))
      have hfz : Calls Try.prog 48 #[.slice (some ⟨gT, 0, none⟩) T.length capT, .slice (some ⟨bC, 0, none⟩) xs.length xs.length] _ (FirstPost (.slice (some ⟨gT, 0, none⟩) T.length capT) (.slice (some ⟨bC, 0, none⟩) xs.length xs.length) T come xs.length _) :=
        first_any (hA.sep3 (A := rowT (.slice (some ⟨gT, 0, none⟩) T.length capT) T) (B := restB T) (C := rowB (.slice (some ⟨bC, 0, none⟩) xs.length xs.length) come) (by repeat (first | exact Sel.here | apply Sel.there)) (by repeat (first | exact Sel.here | apply Sel.there)) (by repeat (first | exact Sel.here | apply Sel.there))) hsq'.out hcl'.out hmax
      refine hfz.mono ?_
      clear hfz
      rintro e w2 ⟨rfl, hT⟩
      have hB := hA.call3 (A := rowT (.slice (some ⟨gT, 0, none⟩) T.length capT) T) (B := restB T) (C := rowB (.slice (some ⟨bC, 0, none⟩) xs.length xs.length) come) (by repeat (first | exact Sel.here | apply Sel.there)) (by repeat (first | exact Sel.here | apply Sel.there)) (by repeat (first | exact Sel.here | apply Sel.there)) hT
      clear hT
      clear hF hA; have hA := hB; clear hB
      try simp only [List.cons_append, List.nil_append] at hA
      (try simp only [uA] at hA); have hF := hA.facts; (try simp only [fZ] at hF)
      unfold firstZ
      cases hfd : (List.range xs.length).find? (freeD xs.length (tF T) (cF come)) with
      | none =>
        have hst := hds'.out.stuck hfd
        simp only
        go_wp2_with (first | ((with_reducible refine gst ?_); refine wS hA ?_; clear hF hA; intro w1 hA; (try simp only [uA] at hA); have hF := hA.facts; (try simp only [fZ] at hF)) | ((with_reducible refine gbx ?_); refine wB hA ?_; clear hF hA; intro b1 w1 hA hb1; (try simp only [uA] at hA); have hF := hA.facts; (try simp only [fZ] at hF)))
        go_ret
        exact ⟨.slice axP P.length capP, rfl, by rw [show ordR (nxL xs f (xs.map Prod.fst)) xs.length (sqX xs) = pre from by rw [hst]; exact (Tar.ordD_R (fun x _ y hy => by have := nxL_lt hy; rwa [List.length_map] at this) htf'.out (sqX xs) xs.length _ _ fun _ _ => rfl).symm, hP'.out]; exact hA.pick (by repeat (first | exact Picks.nil | refine Picks.cons (by repeat (first | exact Sel.here | apply Sel.there)) ?_))⟩
      | some at_ =>
        have hat : at_ < xs.length := List.mem_range.1 (List.mem_of_find?_eq_some hfd)
        have hatI : (at_ : Int) < T.length := by have := hTl.out; omega
        have hat0 : ¬ (at_ : Int) < 0 := by omega
        have hfd' := Lib.hid hfd
        clear hfd
        simp only
        go_wp2_with (first | ((with_reducible refine gst ?_); refine wS hA ?_; clear hF hA; intro w1 hA; (try simp only [uA] at hA); have hF := hA.facts; (try simp only [fZ] at hF)) | ((with_reducible refine gbx ?_); refine wB hA ?_; clear hF hA; intro b1 w1 hA hb1; (try simp only [uA] at hA); have hF := hA.facts; (try simp only [fZ] at hF)))
        try go_frame
        obtain ⟨G, hG⟩ : ∃ G, gk - 1 = G := ⟨_, rfl⟩
        have hG' := Lib.hid hG
        have hGk := Lib.hid (show G < gk from by have := hds'.out.fuel; omega)
        clear hG
        have hB := row_nilD hA
        clear hF hA
        go_loopg [10, 9] xs.length (OkRel w b3 xs f (.slice (some ⟨gx, 0, none⟩) xs.length capx) (.slice (some ⟨gT, 0, none⟩) T.length capT) (.slice (some ⟨bC, 0, none⟩) xs.length xs.length) (.slice axP P.length capP) T come P at_)
        case atStart => exact ⟨0, come, rfl, by omega, hcl'.out, fun j _ => by simp, hB.pick (by repeat (first | exact Picks.nil | refine Picks.cons (by repeat (first | exact Sel.here | apply Sel.there)) ?_))⟩
        case round =>
          obtain ⟨q, come2, rfl, hqk, hc2, hcm, hC⟩ := hrel
          clear hB
          simp only [odL] at hC
          have hA := hC
          clear hC
          have hc2' := Lib.hid hc2
          have hcm' := Lib.hid hcm
          clear hc2 hcm
          have hkl := Lib.hid (show (sortS (sqX xs) (mutL (tF T) at_ q)).length ≤ q from by rw [Tar.sortS_length]; exact Tar.mutL_len _ _ _)
          have hmn := Lib.hid (Tar.mutL_next (tF T) at_ q)
          by_cases hq : q < xs.length
          · skip
            have hqI : (q : Int) < T.length := by have := hTl.out; omega
            obtain ⟨xa, hxa, haq⟩ := hsq'.out.cell hat hq
            obtain ⟨xq, hxq, hqa⟩ := hsq'.out.cell hq hat
            have hla := hsq'.out.2 at_ xa hxa
            have hlq := hsq'.out.2 q xq hxq
            have d2 : wr.cell? ⟨gT, at_, none⟩ = some xa.v := reads_cell (hA.row_reads (v := .slice (some ⟨gT, 0, none⟩) T.length capT) (n := T.length) (xs := flatB T) (by repeat (first | exact Sel.here | apply Sel.there))) (flatB_get hxa)
            have d3 : wr.cell? ⟨gT, q, none⟩ = some xq.v := reads_cell (hA.row_reads (v := .slice (some ⟨gT, 0, none⟩) T.length capT) (n := T.length) (xs := flatB T) (by repeat (first | exact Sel.here | apply Sel.there))) (flatB_get hxq)
            have d4 := pool_cell hA (by repeat (first | exact Sel.here | apply Sel.there)) hxa haq
            have d5 := pool_cell hA (by repeat (first | exact Sel.here | apply Sel.there)) hxq hqa
            obtain ⟨ga, ca, ba⟩ := xa
            obtain ⟨gq, cq, bq⟩ := xq
            simp only [Br.v] at d2 d3 d4 d5 hla hlq
            have hl1 : (q : Int) < ba.length := by omega
            have hl2 : (at_ : Int) < bq.length := by omega
            obtain ⟨v1, hv1⟩ : ∃ b, tF T at_ q = b := ⟨_, rfl⟩
            obtain ⟨v2, hv2⟩ : ∃ b, tF T q at_ = b := ⟨_, rfl⟩
            rw [hv1] at d4
            rw [hv2] at d5
            have hv1' := Lib.hid hv1
            have hv2' := Lib.hid hv2
            clear hv1 hv2 hxa hxq haq hqa hla hlq
            (try simp only [uA] at hA); have hF := hA.facts; (try simp only [fZ] at hF)
            cases v1
            · go_wp2_with (first | ((with_reducible refine gst ?_); refine wS hA ?_; clear hF hA; intro w1 hA; (try simp only [uA] at hA); have hF := hA.facts; (try simp only [fZ] at hF)) | ((with_reducible refine gbx ?_); refine wB hA ?_; clear hF hA; intro b1 w1 hA hb1; (try simp only [uA] at hA); have hF := hA.facts; (try simp only [fZ] at hF)))
              go_roundg (gk - 1)
              case measure => omega
              case rel =>
                have hb : (tF T at_ q && tF T q at_) = false := by first | rw [hv1'.out]; rfl | rw [hv1'.out, hv2'.out]; rfl
                refine ⟨q + 1, come2, by simp, by omega, hc2'.out, fun j hj => ?_, ?_⟩
                · rw [hcm'.out j hj]
                  by_cases e : j = q
                  · subst e
                    rw [hb]
                    simp
                  · rw [show decide (j < q + 1) = decide (j < q) from by rw [decide_eq_decide]; omega]
                · rw [hmn.out, hb]
                  simp only [odL, if_neg (show ¬ (false = true) by simp), List.append_nil]
                  exact hA
            · cases v2
              · go_wp2_with (first | ((with_reducible refine gst ?_); refine wS hA ?_; clear hF hA; intro w1 hA; (try simp only [uA] at hA); have hF := hA.facts; (try simp only [fZ] at hF)) | ((with_reducible refine gbx ?_); refine wB hA ?_; clear hF hA; intro b1 w1 hA hb1; (try simp only [uA] at hA); have hF := hA.facts; (try simp only [fZ] at hF)))
                go_roundg (gk - 1)
                case measure => omega
                case rel =>
                  have hb : (tF T at_ q && tF T q at_) = false := by first | rw [hv1'.out]; rfl | rw [hv1'.out, hv2'.out]; rfl
                  refine ⟨q + 1, come2, by simp, by omega, hc2'.out, fun j hj => ?_, ?_⟩
                  · rw [hcm'.out j hj]
                    by_cases e : j = q
                    · subst e
                      rw [hb]
                      simp
                    · rw [show decide (j < q + 1) = decide (j < q) from by rw [decide_eq_decide]; omega]
                  · rw [hmn.out, hb]
                    simp only [odL, if_neg (show ¬ (false = true) by simp), List.append_nil]
                    exact hA
              · have hcl2 := hc2'.out
                generalize hks : sortS (sqX xs) (mutL (tF T) at_ q) = ks at *
                have hks' := Lib.hid hks
                have hksl : ks.length ≤ 1000 := by have := hkl.out; omega
                have hKl := Lib.hid (show (ks.map (xat xs)).length = ks.length from List.length_map ..)
                have hKL : (ks.map (xat xs)).length ≤ 1000 := by rw [List.length_map]; exact hksl
                generalize hKK : ks.map (xat xs) = KK at *
                have hKK' := Lib.hid hKK
                clear hks hKK
                obtain ⟨axk, capk, hvk, _, hcpk, _⟩ := hA.row_form .here
                subst hvk
                have hcb : rowB (.slice (some ⟨bC, 0, none⟩) xs.length xs.length) come2 = Part.row 4 1 (.slice (some ⟨bC, 0, none⟩) xs.length xs.length) xs.length (boolL come2) := by unfold rowB; rw [hcl2]
                rw [hcb] at hA
                obtain ⟨gc, cc, hgc, k1, k2, k3, k4, hB⟩ := hA.row_open (e := 4) (size := 1) (ax := some ⟨bC, 0, none⟩) (cap := xs.length) (n := xs.length) (xs := boolL come2) (by repeat (first | exact Sel.here | apply Sel.there)) (by omega)
                cases hgc
                clear hF hA
                have hA := hB
                clear hB hcb
                have hccl : q < cc.length := by omega
                have hst := Lib.hid (show (cc.set q (.bool true)).take (xs.length * 1) = boolL (come2.set q true) from by rw [List.take_set, k4, boolL_set])
                have hk3' := Lib.hid (show (cc.set q (.bool true)).length = xs.length * 1 from by rw [List.length_set]; exact k3)
                have hcm2 := Lib.hid (show ∀ j, j < xs.length → cF (come2.set q true) j = (cF come j || (decide (j < q + 1) && (tF T at_ j && tF T j at_))) from fun j hj => by
                  by_cases e : j = q
                  · subst e
                    rw [cF_get (List.getElem?_set_self (by rw [hcl2]; exact hj)), hv1'.out, hv2'.out]
                    simp
                  · have hcj := hcm'.out j hj
                    unfold cF at hcj ⊢
                    rw [List.getElem?_set_ne (fun z => e z.symm), hcj, show decide (j < q + 1) = decide (j < q) from by rw [decide_eq_decide]; omega])
                have hqC : (q : Int) < xs.length := by omega
                clear k3 k4 hcl2
                (try simp only [uA] at hA); have hF := hA.facts; (try simp only [fZ] at hF)
                go_wp2_with (first | ((with_reducible show wpList _ _ _ ({ dst := none, op := Op.store _ _ _, type := _, pos := _, after := _, guard := _ } :: _) _ _); refine wpList_store_at (b := bC) (j := q) (c := cc) (vs := [.bool true]) rfl rfl (by (try simp only [Act.eval, eV]) <;> exact rfl) (by (try simp only [Act.eval, eV]) <;> exact rfl) (by exact rfl) hA (by repeat (first | exact Sel.here | apply Sel.there)) (by kernel_rfl) rfl (by show q + 1 ≤ cc.length; omega) ?_; intro w1 hB; simp only [uA] at hB; clear hF hA; have hA := hB; clear hB; (try simp only [uA] at hA); have hF := hA.facts; (try simp only [fZ] at hF)) | ((with_reducible refine gst ?_); refine wS hA ?_; clear hF hA; intro w1 hA; (try simp only [uA] at hA); have hF := hA.facts; (try simp only [fZ] at hF)) | ((with_reducible refine gbx ?_); refine wB hA ?_; clear hF hA; intro b1 w1 hA hb1; (try simp only [uA] at hA); have hF := hA.facts; (try simp only [fZ] at hF)))
                try go_frame
                have hC := hA.row_shut (e := 4) (size := 1) (g := bC) (n := xs.length) (cap := xs.length) (xs := boolL (come2.set q true)) (by repeat (first | exact Sel.here | apply Sel.there)) hk3'.out (Nat.le_refl _) k2 hst.out
                have hcb : rowB (.slice (some ⟨bC, 0, none⟩) xs.length xs.length) (come2.set q true) = Part.row 4 1 (.slice (some ⟨bC, 0, none⟩) xs.length xs.length) xs.length (boolL (come2.set q true)) := by unfold rowB; rw [List.length_set, hc2'.out]
                rw [← hcb] at hC
                have hqG : q + 1 + (gk - 1) = xs.length ∧ gk - 1 < gk := by omega
                obtain ⟨G2, hG2⟩ : ∃ G, gk - 1 = G := ⟨_, rfl⟩
                rw [hG2] at hqG
                have hGq := Lib.hid hqG
                obtain ⟨e, hxe⟩ : ∃ e, xs[q]? = some e := ⟨_, List.getElem?_eq_getElem hq⟩
                have hee' := Lib.hid (show xat xs q = e from by unfold xat; rw [hxe]; rfl)
                have hsq2 := seq_cell xs hxe
                have hsqe := Lib.hid (show sqX xs q = e.2.s from by unfold sqX; rw [hee'.out])
                have he10 := elem_cut xs hxe
                obtain ⟨⟨r, t⟩, ss, d0, d1, d2, d3, d4, d5, d6⟩ := e
                have he10' := Lib.hid (show ((flatD xs).drop (q * 10)).take (List.length (α := Value) [.int .i64 r, .int .i64 t, .int .i64 ss, .int .i64 d0, .int .i64 d1, .int .i64 d2, .int .i64 d3, .int .i64 d4, .int .i64 d5, .int .i64 d6]) = [.int .i64 r, .int .i64 t, .int .i64 ss, .int .i64 d0, .int .i64 d1, .int .i64 d2, .int .i64 d3, .int .i64 d4, .int .i64 d5, .int .i64 d6] from he10)
                simp only at hsq2 hsqe
                clear hF hA hcb hG2 hqG hqk he10 hxe
                go_loopg [11] ks.length (OiRel w b3 xs f (.slice (some ⟨gx, 0, none⟩) xs.length capx) (.slice (some ⟨gT, 0, none⟩) T.length capT) (.slice (some ⟨bC, 0, none⟩) xs.length xs.length) (.slice axP P.length capP) (.slice axk KK.length capk) T (come2.set q true) P ks q)
                case atStart => exact ⟨0, rfl, by omega, by simp, by rw [hKK'.out]; simp only [odL]; exact hC.pick (by repeat (first | exact Picks.nil | refine Picks.cons (by repeat (first | exact Sel.here | apply Sel.there)) ?_))⟩
                case round =>
                  obtain ⟨i, rfl, hik, hle, hB⟩ := hrel
                  clear hC
                  rw [hKK'.out] at hB
                  simp only [odL] at hB
                  have hA := hB
                  clear hB
                  have hle' := Lib.hid hle
                  clear hle
                  by_cases hi : i < KK.length
                  · have hik2 : i < ks.length := by have := hKl.out; omega
                    obtain ⟨y, hy⟩ : ∃ y, ks[i]? = some y := ⟨_, List.getElem?_eq_getElem (by have := hKl.out; omega)⟩
                    have hyk : KK[i]? = some (xat xs y) := by rw [← hKK'.out, List.getElem?_map, hy]; rfl
                    have hsy : (flatD KK)[i * 10 + 2]? = some (.int .i64 (sqX xs y)) := seq_cell KK hyk
                    have hiI : (i : Int) < KK.length := by omega
                    obtain ⟨gk2, ck2, hgk2, _, _, _, _, _⟩ := hA.row_open (e := 52) (size := 10) (ax := axk) (cap := capk) (n := KK.length) (xs := flatD KK) (by repeat (first | exact Sel.here | apply Sel.there)) (by omega)
                    subst hgk2
                    have hy' := Lib.hid hy
                    clear hy hyk
                    obtain ⟨sy, hsyv⟩ : ∃ z, sqX xs y = z := ⟨_, rfl⟩
                    rw [hsyv] at hsy
                    have hsyv' := Lib.hid hsyv
                    clear hsyv
                    obtain ⟨c, hc⟩ : ∃ c, decide (sy ≤ ss) = c := ⟨_, rfl⟩
                    have hc' := Lib.hid hc
                    (try simp only [uA] at hA); have hF := hA.facts; (try simp only [fZ] at hF)
                    cases c
                    · go_wp2_with (first | ((with_reducible refine gst ?_); refine wS hA ?_; clear hF hA; intro w1 hA; (try simp only [uA] at hA); have hF := hA.facts; (try simp only [fZ] at hF)) | ((with_reducible refine gbx ?_); refine wB hA ?_; clear hF hA; intro b1 w1 hA hb1; (try simp only [uA] at hA); have hF := hA.facts; (try simp only [fZ] at hF)))
                      try go_frame
                      (refine wp_region_all (Cl _ _ _) (by kernel_rfl) (by kernel_rfl) (Cl.drew hA) ?_); (have hn1 := Cl.none hA); (have hn2 := Cl.none2 hA); (repeat (first | go_big_quiet_skip | (go_big_quiet_want; (first | ((first | ((with_reducible show Oper.quiet _ { dst := _, op := Op.load 3 _, type := _, pos := _, after := _, guard := _ } _ _ _); first | refine quiet_rowN_at (g := gk2) (j := i * 10 + 2) rfl rfl (by with_reducible repeat (first | exact Sel.here | apply Sel.there)) (by kernel_rfl) hsy ?_ | refine quiet_rowN_at (g := gx) (j := q * 10 + 2) rfl rfl (by with_reducible repeat (first | exact Sel.here | apply Sel.there)) (by kernel_rfl) hsq2 ?_)); go_frame; go_big_quiet_on) | (refine quiet_load_at rfl rfl (by with_reducible repeat (first | exact Sel.here | apply Sel.there)) (by kernel_rfl) (by first | assumption | exact rfl) ?_; go_frame; go_big_quiet_on) | (go_big_quiet_op; (first | go_big_quiet_on | ((apply Exists.intro); (refine ⟨fun w1 hw => ?_, ?_⟩); (focus ((have hw := Cl.out hw); (fail))); (go_big_quiet_on))))))))
                      (refine wpQuiet_nil ?_); (intro w1 hB); (clear hF hA hn1 hn2); (have hA := Cl.out hB); (clear hB); (try simp only [uA] at hA); have hF := hA.facts; (try simp only [fZ] at hF)
                      clear hc hsy hsq2
                      have hB := row_nilD hA
                      clear hF hA; have hA := hB; clear hB
                      have hiK : i ≤ KK.length := by have := hKl.out; omega
                      have hl1 : (KK.take i).length = i := by rw [List.length_take]; omega
                      have hl2 : (KK.drop i).length = KK.length - i := List.length_drop
                      (try simp only [uA] at hA); have hF := hA.facts; (try simp only [fZ] at hF)
                      go_wp2_with (first | ((with_reducible show wpList _ _ _ ({ dst := _, op := Op.slice _ _ _ _ _, type := _, pos := _, after := _, guard := _ } :: _) _ _); refine wpList_slice_to (e := 52) (size := 10) (n := (KK).length) (xs := flatD (KK)) (v := .slice (some ⟨gk2, 0, none⟩) (KK).length capk) (k := i) rfl rfl Try.underlying28 hi0 hz1 (by (try simp only [Act.eval, eV]) <;> exact rfl) (by (try simp only [Act.eval, eV]) <;> exact rfl) (hA.get (A := Part.row 52 10 (.slice (some ⟨gk2, 0, none⟩) (KK).length capk) (KK).length (flatD (KK))) (by with_reducible repeat (first | exact Sel.here | apply Sel.there))) (by omega) ?_; intro xv hxv0; have hxv : Reads _ xv ((KK).take (i)).length (flatD ((KK).take (i))) := (by rw [hl1]; unfold flatD at hxv0 ⊢; rw [flat_take cellsD_len] at hxv0; exact hxv0); clear hxv0) | ((with_reducible show wpList _ _ _ ({ dst := _, op := Op.call { callee := Callee.builtin Builtin.append, args := _, argTypes := _ }, type := _, pos := _, after := _, guard := _ } :: _) _ _); refine wpList_append_at (e := 52) (size := 10) (v := .slice none 0 0) (xs := flatD []) (n := ([] : List IA).length) (m := ((KK).take (i)).length) (news := flatD ((KK).take (i))) rfl _ _ 28 rfl Try.underlying28 hi0 hz0 hz1 hz2 rfl (by omega) hA (by with_reducible repeat (first | exact Sel.here | apply Sel.there)) (by (try simp only [Act.eval, eV]) <;> exact rfl) (by (try simp only [Act.eval, eV]) <;> exact rfl) (flat_len _ _ cellsD_len _) hxv (flat_one cellsD_one _) (by unfold maxLen; simp; omega) (by simp; omega) ?_; intro v1 w1 hB; rw [rowD_app] at hB; simp only [List.nil_append] at hB; clear hF hA; have hA := hB; clear hB; (try simp only [uA] at hA); have hF := hA.facts; (try simp only [fZ] at hF)) | ((with_reducible show wpList _ _ _ ({ dst := _, op := Op.buildSlice _ _ _, type := _, pos := _, after := _, guard := _ } :: _) _ _); refine wpList_one_at (e := 52) (vs := cellsD ((r, t), (⟨ss, d0, d1, d2, d3, d4, d5, d6⟩ : A8))) rfl rfl (by (try simp only [Act.eval, eV]) <;> exact rfl) (fun _ => by kernel_rfl) hA ?_; intro b2 w1 hB hb2; clear hF hA; have hA := hB; clear hB; (try simp only [uA] at hA); have hF := hA.facts; (try simp only [fZ] at hF)) | ((with_reducible show wpList _ _ _ ({ dst := _, op := Op.call { callee := Callee.builtin Builtin.append, args := _, argTypes := _ }, type := _, pos := _, after := _, guard := _ } :: _) _ _); refine wpList_append_at (e := 52) (size := 10) (v := v1) (xs := flatD ((KK).take (i))) (n := ((KK).take (i)).length) (m := 1) (news := cellsD ((r, t), (⟨ss, d0, d1, d2, d3, d4, d5, d6⟩ : A8))) rfl _ _ 28 rfl Try.underlying28 hi0 hz0 hz1 hz2 rfl (by omega) hA (by with_reducible repeat (first | exact Sel.here | apply Sel.there)) (by (try simp only [Act.eval, eV]) <;> exact rfl) (by (try simp only [Act.eval, eV]) <;> exact rfl) (rfl) (hA.cells_reads (by with_reducible repeat (first | exact Sel.here | apply Sel.there)) _ _) (cellsD_one _) (by unfold maxLen; simp; omega) (by simp; omega) ?_; intro v2 w1 hB; rw [rowD_snoc] at hB; clear hF hA; have hA := hB; clear hB; (try simp only [uA] at hA); have hF := hA.facts; (try simp only [fZ] at hF)) | ((with_reducible show wpList _ _ _ ({ dst := _, op := Op.slice _ _ _ _ _, type := _, pos := _, after := _, guard := _ } :: _) _ _); refine wpList_slice_from (e := 52) (size := 10) (n := (KK).length) (xs := flatD (KK)) (v := .slice (some ⟨gk2, 0, none⟩) (KK).length capk) (k := i) rfl rfl Try.underlying28 hi0 hz1 (by (try simp only [Act.eval, eV]) <;> exact rfl) (by (try simp only [Act.eval, eV]) <;> exact rfl) (hA.get (A := Part.row 52 10 (.slice (some ⟨gk2, 0, none⟩) (KK).length capk) (KK).length (flatD (KK))) (by with_reducible repeat (first | exact Sel.here | apply Sel.there))) (by omega) ?_; intro yv hxv0; have hyv : Reads _ yv ((KK).drop (i)).length (flatD ((KK).drop (i))) := (by rw [hl2]; unfold flatD at hxv0 ⊢; rw [flat_drop cellsD_len] at hxv0; exact hxv0); clear hxv0) | ((with_reducible show wpList _ _ _ ({ dst := _, op := Op.call { callee := Callee.builtin Builtin.append, args := _, argTypes := _ }, type := _, pos := _, after := _, guard := _ } :: _) _ _); refine wpList_append_at (e := 52) (size := 10) (v := v2) (xs := flatD ((KK).take (i) ++ [((r, t), (⟨ss, d0, d1, d2, d3, d4, d5, d6⟩ : A8))])) (n := ((KK).take (i) ++ [((r, t), (⟨ss, d0, d1, d2, d3, d4, d5, d6⟩ : A8))]).length) (m := ((KK).drop (i)).length) (news := flatD ((KK).drop (i))) rfl _ _ 28 rfl Try.underlying28 hi0 hz0 hz1 hz2 rfl (by omega) hA (by with_reducible repeat (first | exact Sel.here | apply Sel.there)) (by (try simp only [Act.eval, eV]) <;> exact rfl) (by (try simp only [Act.eval, eV]) <;> exact rfl) (flat_len _ _ cellsD_len _) hyv (flat_one cellsD_one _) (by unfold maxLen; simp; omega) (by simp; omega) ?_; intro v3 w1 hB; rw [rowD_app] at hB; obtain ⟨ax3, n3, cap3, hv3, hn3⟩ := hB.row_hid .here; subst hv3; clear hF hA; have hA := hB; clear hB; (try simp only [uA] at hA); have hF := hA.facts; (try simp only [fZ] at hF)) | ((with_reducible show wpList _ _ _ ({ dst := some 85, op := Op.load _ _, type := _, pos := _, after := _, guard := _ } :: _) _ _); refine wpList_rowN_at (g := gx) (j := q * 10) (vs := [.int .i64 r, .int .i64 t, .int .i64 ss, .int .i64 d0, .int .i64 d1, .int .i64 d2, .int .i64 d3, .int .i64 d4, .int .i64 d5, .int .i64 d6]) rfl rfl (by (try simp only [Act.eval, eV]) <;> exact rfl) hA (by repeat (first | exact Sel.here | apply Sel.there)) he10'.out (by kernel_rfl) (by kernel_rfl) ?_) | ((with_reducible refine gst ?_); refine wS hA ?_; clear hF hA; intro w1 hA; (try simp only [uA] at hA); have hF := hA.facts; (try simp only [fZ] at hF)) | ((with_reducible refine gbx ?_); refine wB hA ?_; clear hF hA; intro b1 w1 hA hb1; (try simp only [uA] at hA); have hF := hA.facts; (try simp only [fZ] at hF)))
                      go_roundg G2
                      case measure => exact hGq.out.2
                      case rel =>
                        have hins := Tar.insS_at (sq := sqX xs) (x := q) (ks := ks) (i := i) (by have := hKl.out; omega) hle'.out (fun z hz => by rw [hy'.out] at hz; cases hz; rw [hsyv'.out, hsqe.out]; exact of_decide_eq_false hc'.out)
                        refine ⟨q + 1, come2.set q true, by simp, hGq.out.1, by rw [List.length_set]; exact hc2'.out, hcm2.out, ?_⟩
                        rw [hmn.out, if_pos (by rw [hv1'.out, hv2'.out]; rfl), Tar.sortS_snoc, hks'.out, hins, List.map_append, List.map_append, List.map_take, List.map_drop, hKK'.out, List.map_cons, List.map_nil, hee'.out]
                        simp only [odL]
                        exact hA.pick (by repeat (first | exact Picks.nil | refine Picks.cons (by repeat (first | exact Sel.here | apply Sel.there)) ?_))
                    · go_wp2_with (first | ((with_reducible refine gst ?_); refine wS hA ?_; clear hF hA; intro w1 hA; (try simp only [uA] at hA); have hF := hA.facts; (try simp only [fZ] at hF)) | ((with_reducible refine gbx ?_); refine wB hA ?_; clear hF hA; intro b1 w1 hA hb1; (try simp only [uA] at hA); have hF := hA.facts; (try simp only [fZ] at hF)))
                      try go_frame
                      (refine wp_region_all (Cl _ _ _) (by kernel_rfl) (by kernel_rfl) (Cl.drew hA) ?_); (have hn1 := Cl.none hA); (have hn2 := Cl.none2 hA); (repeat (first | go_big_quiet_skip | (go_big_quiet_want; (first | ((first | ((with_reducible show Oper.quiet _ { dst := _, op := Op.load 3 _, type := _, pos := _, after := _, guard := _ } _ _ _); first | refine quiet_rowN_at (g := gk2) (j := i * 10 + 2) rfl rfl (by with_reducible repeat (first | exact Sel.here | apply Sel.there)) (by kernel_rfl) hsy ?_ | refine quiet_rowN_at (g := gx) (j := q * 10 + 2) rfl rfl (by with_reducible repeat (first | exact Sel.here | apply Sel.there)) (by kernel_rfl) hsq2 ?_)); go_frame; go_big_quiet_on) | (refine quiet_load_at rfl rfl (by with_reducible repeat (first | exact Sel.here | apply Sel.there)) (by kernel_rfl) (by first | assumption | exact rfl) ?_; go_frame; go_big_quiet_on) | (go_big_quiet_op; (first | go_big_quiet_on | ((apply Exists.intro); (refine ⟨fun w1 hw => ?_, ?_⟩); (focus ((have hw := Cl.out hw); (fail))); (go_big_quiet_on))))))))
                      (refine wpQuiet_nil ?_); (intro w1 hB); (clear hF hA hn1 hn2); (have hA := Cl.out hB); (clear hB); (try simp only [uA] at hA); have hF := hA.facts; (try simp only [fZ] at hF)
                      go_wp2_with (first | ((with_reducible refine gst ?_); refine wS hA ?_; clear hF hA; intro w1 hA; (try simp only [uA] at hA); have hF := hA.facts; (try simp only [fZ] at hF)) | ((with_reducible refine gbx ?_); refine wB hA ?_; clear hF hA; intro b1 w1 hA hb1; (try simp only [uA] at hA); have hF := hA.facts; (try simp only [fZ] at hF)))
                      go_roundg (gk - 1)
                      case measure => omega
                      case rel =>
                        refine ⟨i + 1, by simp, by omega, fun z hz => ?_, by rw [hKK'.out]; simp only [odL]; exact hA⟩
                        rw [List.take_add_one, hy'.out] at hz
                        rcases List.mem_append.1 hz with hz | hz
                        · exact hle'.out z hz
                        · rw [show z = y from by simpa using hz, hsyv'.out, hsqe.out]
                          exact of_decide_eq_true hc'.out
                  · have hiI : ¬ (i : Int) < KK.length := by omega
                    have hiD : decide ((i : Int) < KK.length) = false := decide_eq_false hiI
                    (try simp only [uA] at hA); have hF := hA.facts; (try simp only [fZ] at hF)
                    go_wp2_with (first | ((with_reducible refine gst ?_); refine wS hA ?_; clear hF hA; intro w1 hA; (try simp only [uA] at hA); have hF := hA.facts; (try simp only [fZ] at hF)) | ((with_reducible refine gbx ?_); refine wB hA ?_; clear hF hA; intro b1 w1 hA hb1; (try simp only [uA] at hA); have hF := hA.facts; (try simp only [fZ] at hF)))
                    try go_frame
                    (refine wp_region_all (Cl _ _ _) (by kernel_rfl) (by kernel_rfl) (Cl.drew hA) ?_); (have hn1 := Cl.none hA); (have hn2 := Cl.none2 hA); (repeat (first | go_big_quiet_skip | (go_big_quiet_want; (first | (refine quiet_load_at rfl rfl (by with_reducible repeat (first | exact Sel.here | apply Sel.there)) (by kernel_rfl) (by first | assumption | exact rfl) ?_; go_frame; go_big_quiet_on) | (go_big_quiet_op; (first | go_big_quiet_on | ((apply Exists.intro); (refine ⟨fun w1 hw => ?_, ?_⟩); (focus ((have hw := Cl.out hw); (fail))); (go_big_quiet_on))))))))
                    (refine wpQuiet_nil ?_); (intro w1 hB); (clear hF hA hn1 hn2); (have hA := Cl.out hB); (clear hB); (try simp only [uA] at hA); have hF := hA.facts; (try simp only [fZ] at hF)
                    clear hsq2
                    have hB := row_nilD hA
                    clear hF hA; have hA := hB; clear hB
                    have hiK : i ≤ KK.length := by have := hKl.out; omega
                    have hl1 : (KK.take i).length = i := by rw [List.length_take]; omega
                    have hl2 : (KK.drop i).length = KK.length - i := List.length_drop
                    (try simp only [uA] at hA); have hF := hA.facts; (try simp only [fZ] at hF)
                    go_wp2_with (first | ((with_reducible show wpList _ _ _ ({ dst := _, op := Op.slice _ _ _ _ _, type := _, pos := _, after := _, guard := _ } :: _) _ _); refine wpList_slice_to (e := 52) (size := 10) (n := (KK).length) (xs := flatD (KK)) (v := .slice axk (KK).length capk) (k := i) rfl rfl Try.underlying28 hi0 hz1 (by (try simp only [Act.eval, eV]) <;> exact rfl) (by (try simp only [Act.eval, eV]) <;> exact rfl) (hA.get (A := Part.row 52 10 (.slice axk (KK).length capk) (KK).length (flatD (KK))) (by with_reducible repeat (first | exact Sel.here | apply Sel.there))) (by omega) ?_; intro xv hxv0; have hxv : Reads _ xv ((KK).take (i)).length (flatD ((KK).take (i))) := (by rw [hl1]; unfold flatD at hxv0 ⊢; rw [flat_take cellsD_len] at hxv0; exact hxv0); clear hxv0) | ((with_reducible show wpList _ _ _ ({ dst := _, op := Op.call { callee := Callee.builtin Builtin.append, args := _, argTypes := _ }, type := _, pos := _, after := _, guard := _ } :: _) _ _); refine wpList_append_at (e := 52) (size := 10) (v := .slice none 0 0) (xs := flatD []) (n := ([] : List IA).length) (m := ((KK).take (i)).length) (news := flatD ((KK).take (i))) rfl _ _ 28 rfl Try.underlying28 hi0 hz0 hz1 hz2 rfl (by omega) hA (by with_reducible repeat (first | exact Sel.here | apply Sel.there)) (by (try simp only [Act.eval, eV]) <;> exact rfl) (by (try simp only [Act.eval, eV]) <;> exact rfl) (flat_len _ _ cellsD_len _) hxv (flat_one cellsD_one _) (by unfold maxLen; simp; omega) (by simp; omega) ?_; intro v1 w1 hB; rw [rowD_app] at hB; simp only [List.nil_append] at hB; clear hF hA; have hA := hB; clear hB; (try simp only [uA] at hA); have hF := hA.facts; (try simp only [fZ] at hF)) | ((with_reducible show wpList _ _ _ ({ dst := _, op := Op.buildSlice _ _ _, type := _, pos := _, after := _, guard := _ } :: _) _ _); refine wpList_one_at (e := 52) (vs := cellsD ((r, t), (⟨ss, d0, d1, d2, d3, d4, d5, d6⟩ : A8))) rfl rfl (by (try simp only [Act.eval, eV]) <;> exact rfl) (fun _ => by kernel_rfl) hA ?_; intro b2 w1 hB hb2; clear hF hA; have hA := hB; clear hB; (try simp only [uA] at hA); have hF := hA.facts; (try simp only [fZ] at hF)) | ((with_reducible show wpList _ _ _ ({ dst := _, op := Op.call { callee := Callee.builtin Builtin.append, args := _, argTypes := _ }, type := _, pos := _, after := _, guard := _ } :: _) _ _); refine wpList_append_at (e := 52) (size := 10) (v := v1) (xs := flatD ((KK).take (i))) (n := ((KK).take (i)).length) (m := 1) (news := cellsD ((r, t), (⟨ss, d0, d1, d2, d3, d4, d5, d6⟩ : A8))) rfl _ _ 28 rfl Try.underlying28 hi0 hz0 hz1 hz2 rfl (by omega) hA (by with_reducible repeat (first | exact Sel.here | apply Sel.there)) (by (try simp only [Act.eval, eV]) <;> exact rfl) (by (try simp only [Act.eval, eV]) <;> exact rfl) (rfl) (hA.cells_reads (by with_reducible repeat (first | exact Sel.here | apply Sel.there)) _ _) (cellsD_one _) (by unfold maxLen; simp; omega) (by simp; omega) ?_; intro v2 w1 hB; rw [rowD_snoc] at hB; clear hF hA; have hA := hB; clear hB; (try simp only [uA] at hA); have hF := hA.facts; (try simp only [fZ] at hF)) | ((with_reducible show wpList _ _ _ ({ dst := _, op := Op.slice _ _ _ _ _, type := _, pos := _, after := _, guard := _ } :: _) _ _); refine wpList_slice_from (e := 52) (size := 10) (n := (KK).length) (xs := flatD (KK)) (v := .slice axk (KK).length capk) (k := i) rfl rfl Try.underlying28 hi0 hz1 (by (try simp only [Act.eval, eV]) <;> exact rfl) (by (try simp only [Act.eval, eV]) <;> exact rfl) (hA.get (A := Part.row 52 10 (.slice axk (KK).length capk) (KK).length (flatD (KK))) (by with_reducible repeat (first | exact Sel.here | apply Sel.there))) (by omega) ?_; intro yv hxv0; have hyv : Reads _ yv ((KK).drop (i)).length (flatD ((KK).drop (i))) := (by rw [hl2]; unfold flatD at hxv0 ⊢; rw [flat_drop cellsD_len] at hxv0; exact hxv0); clear hxv0) | ((with_reducible show wpList _ _ _ ({ dst := _, op := Op.call { callee := Callee.builtin Builtin.append, args := _, argTypes := _ }, type := _, pos := _, after := _, guard := _ } :: _) _ _); refine wpList_append_at (e := 52) (size := 10) (v := v2) (xs := flatD ((KK).take (i) ++ [((r, t), (⟨ss, d0, d1, d2, d3, d4, d5, d6⟩ : A8))])) (n := ((KK).take (i) ++ [((r, t), (⟨ss, d0, d1, d2, d3, d4, d5, d6⟩ : A8))]).length) (m := ((KK).drop (i)).length) (news := flatD ((KK).drop (i))) rfl _ _ 28 rfl Try.underlying28 hi0 hz0 hz1 hz2 rfl (by omega) hA (by with_reducible repeat (first | exact Sel.here | apply Sel.there)) (by (try simp only [Act.eval, eV]) <;> exact rfl) (by (try simp only [Act.eval, eV]) <;> exact rfl) (flat_len _ _ cellsD_len _) hyv (flat_one cellsD_one _) (by unfold maxLen; simp; omega) (by simp; omega) ?_; intro v3 w1 hB; rw [rowD_app] at hB; obtain ⟨ax3, n3, cap3, hv3, hn3⟩ := hB.row_hid .here; subst hv3; clear hF hA; have hA := hB; clear hB; (try simp only [uA] at hA); have hF := hA.facts; (try simp only [fZ] at hF)) | ((with_reducible show wpList _ _ _ ({ dst := some 85, op := Op.load _ _, type := _, pos := _, after := _, guard := _ } :: _) _ _); refine wpList_rowN_at (g := gx) (j := q * 10) (vs := [.int .i64 r, .int .i64 t, .int .i64 ss, .int .i64 d0, .int .i64 d1, .int .i64 d2, .int .i64 d3, .int .i64 d4, .int .i64 d5, .int .i64 d6]) rfl rfl (by (try simp only [Act.eval, eV]) <;> exact rfl) hA (by repeat (first | exact Sel.here | apply Sel.there)) he10'.out (by kernel_rfl) (by kernel_rfl) ?_) | ((with_reducible refine gst ?_); refine wS hA ?_; clear hF hA; intro w1 hA; (try simp only [uA] at hA); have hF := hA.facts; (try simp only [fZ] at hF)) | ((with_reducible refine gbx ?_); refine wB hA ?_; clear hF hA; intro b1 w1 hA hb1; (try simp only [uA] at hA); have hF := hA.facts; (try simp only [fZ] at hF)))
                    go_roundg G2
                    case measure => exact hGq.out.2
                    case rel =>
                      have hins := Tar.insS_at (sq := sqX xs) (x := q) (ks := ks) (i := i) (by have := hKl.out; omega) hle'.out (fun z hz => by rw [List.getElem?_eq_none (by have := hKl.out; omega)] at hz; cases hz)
                      refine ⟨q + 1, come2.set q true, by simp, hGq.out.1, by rw [List.length_set]; exact hc2'.out, hcm2.out, ?_⟩
                      rw [hmn.out, if_pos (by rw [hv1'.out, hv2'.out]; rfl), Tar.sortS_snoc, hks'.out, hins, List.map_append, List.map_append, List.map_take, List.map_drop, hKK'.out, List.map_cons, List.map_nil, hee'.out]
                      simp only [odL]
                      exact hA.pick (by repeat (first | exact Picks.nil | refine Picks.cons (by repeat (first | exact Sel.here | apply Sel.there)) ?_))
          · have hqI : ¬ (q : Int) < xs.length := by omega
            have hq2 : q = xs.length := by omega
            subst hq2
            have hkl2 : ((sortS (sqX xs) (mutL (tF T) at_ xs.length)).map (xat xs)).length ≤ 1000 := by rw [List.length_map]; exact Nat.le_trans hkl.out hmax
            generalize hKK : (sortS (sqX xs) (mutL (tF T) at_ xs.length)).map (xat xs) = KK at *
            have hKK' := Lib.hid hKK
            have hkl2' := Lib.hid hkl2
            clear hKK hkl2
            obtain ⟨axk, capk, hvk, _, hcpk, _⟩ := hA.row_form .here
            subst hvk
            (try simp only [uA] at hA); have hF := hA.facts; (try simp only [fZ] at hF)
            go_wp2_with (first | ((with_reducible show wpList _ _ _ ({ dst := _, op := Op.call { callee := Callee.builtin Builtin.append, args := _, argTypes := _ }, type := _, pos := _, after := _, guard := _ } :: _) _ _); refine wpList_append_at (e := 52) (size := 10) (v := .slice axP P.length capP) (xs := flatD P) (n := P.length) (m := KK.length) (news := flatD KK) rfl _ _ 28 rfl Try.underlying28 hi0 hz0 hz1 hz2 rfl (by omega) hA (by repeat (first | exact Sel.here | apply Sel.there)) (by (try simp only [Act.eval, eV]) <;> exact rfl) (by (try simp only [Act.eval, eV]) <;> exact rfl) (flatD_len _) (hA.row_reads (v := .slice axk KK.length capk) (n := KK.length) (xs := flatD KK) (by repeat (first | exact Sel.here | apply Sel.there))) (flat_one cellsD_one _) (by have := hPl.out; have := hkl2'.out; unfold maxLen; omega) (by have := hPl.out; have := hkl2'.out; omega) ?_; intro v7 w1 hB; rw [rowD_app] at hB; clear hF hA; have hA := hB; clear hB; (try simp only [uA] at hA); have hF := hA.facts; (try simp only [fZ] at hF)) | ((with_reducible refine gst ?_); refine wS hA ?_; clear hF hA; intro w1 hA; (try simp only [uA] at hA); have hF := hA.facts; (try simp only [fZ] at hF)) | ((with_reducible refine gbx ?_); refine wB hA ?_; clear hF hA; intro b1 w1 hA hb1; (try simp only [uA] at hA); have hF := hA.facts; (try simp only [fZ] at hF)))
            go_roundg G
            case measure => exact hGk.out
            case rel =>
              obtain ⟨h0, _, hs2⟩ := hds'.out.step htf'.out hlt2 hfd'.out (come2 := cF come2) fun j hj => by rw [hcm'.out j hj, decide_eq_true hj, Bool.true_and]
              rw [hG'.out] at hs2
              refine ⟨come2, _, hc2'.out, hs2, ?_⟩
              rw [List.map_append, hP'.out, hKK'.out]
              simp only [odL]
              exact hA.pick (by repeat (first | exact Picks.nil | refine Picks.cons (by repeat (first | exact Sel.here | apply Sel.there)) ?_))
    · have hltI : ¬ (P.length : Int) < xs.length := by omega
      have hdn := hds'.out.done (by have := hPe.out; omega)
      (try simp only [uA] at hA); have hF := hA.facts; (try simp only [fZ] at hF)
      go_wp2_with (first | ((with_reducible refine gst ?_); refine wS hA ?_; clear hF hA; intro w1 hA; (try simp only [uA] at hA); have hF := hA.facts; (try simp only [fZ] at hF)) | ((with_reducible refine gbx ?_); refine wB hA ?_; clear hF hA; intro b1 w1 hA hb1; (try simp only [uA] at hA); have hF := hA.facts; (try simp only [fZ] at hF)))
      go_ret
      exact ⟨.slice axP P.length capP, rfl, by rw [show ordR (nxL xs f (xs.map Prod.fst)) xs.length (sqX xs) = pre from by rw [hdn]; exact (Tar.ordD_R (fun x _ y hy => by have := nxL_lt hy; rwa [List.length_map] at this) htf'.out (sqX xs) xs.length _ _ fun _ _ => rfl).symm, hP'.out]; exact hA.pick (by repeat (first | exact Picks.nil | refine Picks.cons (by repeat (first | exact Sel.here | apply Sel.there)) ?_))⟩
end Go.Proofs.Ytgicohkmfbbbdaa.Ref
end
