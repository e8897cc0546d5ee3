/- GrbK, joined. -/
import Derived.Test.YtgicohkmfbbbdaaJ28
import Derived.Test.YtgicohkmfbbbdaaJ16
import Derived.Test.YtgicohkmfbbbdaaJ31
import Derived.Test.YtgicohkmfbbbdaaJ32
import Derived.Test.YtgicohkmfbbbdaaJ33
import Derived.Test.YtgicohkmfbbbdaaJ6
section
namespace Go.Proofs.Ytgicohkmfbbbdaa.Gr
open _root_.Go.Proofs.Ytgicohkmfbbbdaa.Mark (ltID sortID cmpID)
open _root_.Go.Proofs.Ytgicohkmfbbbdaa.Attr (rightI rightI_iff guardI eqlI_any neqI_any guardJ eqlJ_any neqJ_any guardF eqlF_any neqF_any eq7)
open _root_.Go.Proofs.Ytgicohkmfbbbdaa.Ref (rowD flatD cellsD cellsD_len elemD IA findD find_any rowJ rowJ_snoc infoJ sortedD sortedD_len sortedD_get sortedD_own sortedD_sorted leadsN_any LnPost)
open Go.RowKit
open Attr (A8 thro)
set_option linter.unusedSimpArgs false
set_option linter.unusedVariables false
attribute [-go_sem] run_eql_struct run_neq_struct run_eqGuard_agg
attribute [local go_sem] guardI eqlI_any neqI_any guardJ eqlJ_any neqJ_any guardF eqlF_any neqF_any
open _root_.Go.Proofs.Ytgicohkmfbbbdaa.Ref (rowT restB flatB flatB_get Sq Br reach_any reads_cell pool_cell tF quiet_row1_at quiet_pool_at quiet_rowN_at leadsG_sorted)
theorem seq_cell2 (l : List IA) {i : Nat} {e : IA} (h : l[i]? = some e) : (flatD l)[i * 10 + 2]? = some (.int .i64 e.2.s) := flat_at cellsD 10 cellsD_len l i e h 2 (by omega)
theorem RI_same {es xs : List IA} (h : ∀ f x, leadsG xs f x = leadsG es f x) {f : F7} {a b : I2} (r : RI es f a b) : RI xs f a b := by
  induction r with
  | refl => exact .refl
  | step _ hy ih => exact .step ih (by rw [h]; exact hy)
def GaRel (w : World) (gv xv tv : Value) (got : List I2) (xs : List IA) (T : List Br) (k : Nat) (u : Value) (wr : World) : Prop :=
  ∃ i : Nat, u = .int .i64 i ∧ i + k = got.length ∧ At [Part.old w] w [rowI2 gv got, rowD xv xs, rowT tv T, restB T, Part.old w] wr
def GbRel (w : World) (b10 : Nat) (r t : Int) (gv xv tv : Value) (got : List I2) (xs : List IA) (T : List Br) (i : Nat) (k : Nat) (u : Value) (wr : World) : Prop :=
  ∃ j : Nat, u = .int .i64 j ∧ j + k = i ∧ At [Part.old w] w [Part.cells b10 [.int .i64 r, .int .i64 t] 38, rowI2 gv got, rowD xv xs, rowT tv T, restB T, Part.old w] wr
set_option maxRecDepth 100000 in
set_option maxHeartbeats 16000000 in
theorem orders_law {w : World} {v : Value} {l : List IA} (hl0 : ∀ w', (Part.old w).holds w' → Reads w' v l.length (l.flatMap cellsD)) (hokl : ∀ n ∈ l, okD n.1) (hlen : l.length ≤ 9223372036854775807) :
    Calls Try.prog 5 #[v] w fun e w' => e = .returned (.bool true) ∧ Below w.heap.size w w' := by
  obtain ⟨i0, hi0, hz0, hz1, hz2⟩ := info_parts infoI
  have hA := old_start w
  obtain ⟨ax, cap, rfl, _, _⟩ := hl0 w (hA.get .here)
  have hl0' := Lib.hid hl0
  have hokl' := Lib.hid hokl
  clear hl0 hokl
  have hF := hA.facts
  (try simp only [uA] at hA); have hF := hA.facts; (try simp only [fA, facts_row, and_true, true_and] at hF)
  go_enter Try.func5, Try.ntmps5
  go_wp2_with (first | ((with_reducible refine gst ?_); refine wS hA ?_; clear hF hA; intro w1 hA; (try simp only [uA] at hA); have hF := hA.facts; (try simp only [fA, facts_row, and_true, true_and] at hF)) | ((with_reducible refine gbx ?_); refine wB hA ?_; clear hF hA; intro b1 w1 hA hb1; (try simp only [uA] at hA); have hF := hA.facts; (try simp only [fA, facts_row, and_true, true_and] at hF)))
  refine (anchor_any _).mono ?_
  rintro e w1 ⟨rfl, hxx⟩
  have hB := hA.ext hxx
  clear hxx
  clear hF hA
  have hA := hB
  clear hB
  try simp only [List.cons_append, List.nil_append] at hA
  have hF := hA.facts
  (try simp only [uA] at hA); have hF := hA.facts; (try simp only [fA, facts_row, and_true, true_and] at hF)
  by_cases h20 : l.length ≤ 24
  · skip
    have hgt : ¬ (24 : Int) < l.length := by omega
    go_wp2_with (first | ((with_reducible refine gst ?_); refine wS hA ?_; clear hF hA; intro w1 hA; (try simp only [uA] at hA); have hF := hA.facts; (try simp only [fA, facts_row, and_true, true_and] at hF)) | ((with_reducible refine gbx ?_); refine wB hA ?_; clear hF hA; intro b1 w1 hA hb1; (try simp only [uA] at hA); have hF := hA.facts; (try simp only [fA, facts_row, and_true, true_and] at hF)))
    refine (built_any (R := Part.old w) (v := .slice ax l.length cap) (l := l) (hA.sep1 (A := Part.old w) (by repeat (first | exact Sel.here | apply Sel.there))) hl0'.out (by omega) hokl'.out).mono ?_
    rintro e w4 ⟨p, m, u, rfl, hT⟩
    have hB := hA.call1 (A := Part.old w) (by repeat (first | exact Sel.here | apply Sel.there)) hT
    clear hT
    clear hF hA
    have hA := hB
    clear hB
    try simp only [List.cons_append, List.nil_append] at hA
    have hF := hA.facts
    (try simp only [uA] at hA); have hF := hA.facts; (try simp only [fA, facts_row, and_true, true_and] at hF)
    have hown := Lib.hid (builtE_own l)
    have hself := Lib.hid (builtE_self l)
    have hesl := builtE_len l
    generalize builtE l = es at *
    have hxsl := sortedD_len es
    have hxg := Lib.hid (sortedD_get hown.out.uq)
    have hxo := Lib.hid (sortedD_own hown.out)
    have hxlg := Lib.hid (fun f x => leadsG_sorted hown.out.uq f x)
    generalize sortedD es = xs at *
    obtain ⟨axx, capx, hvx, _, hcpx, _⟩ := hA.row_form (e := 52) (size := 10) (n := xs.length) (v := u) (xs := flatD xs) (by repeat (first | exact Sel.here | apply Sel.there))
    subst hvx
    have hes1 : es.length ≤ 24 := by omega
    have hF := hA.facts
    (try simp only [uA] at hA); have hF := hA.facts; (try simp only [fA, facts_row, and_true, true_and] at hF)
    go_wp2_with (first | ((with_reducible refine gst ?_); refine wS hA ?_; clear hF hA; intro w1 hA; (try simp only [uA] at hA); have hF := hA.facts; (try simp only [fA, facts_row, and_true, true_and] at hF)) | ((with_reducible refine gbx ?_); refine wB hA ?_; clear hF hA; intro b1 w1 hA hb1; (try simp only [uA] at hA); have hF := hA.facts; (try simp only [fA, facts_row, and_true, true_and] at hF)))
    refine (grun_any (hA.sep1 (A := GrP p m es) (by repeat (first | exact Sel.here | apply Sel.there))) f0F f0_ok hown.out (by omega)).mono ?_
    rintro e w5 ⟨gv, got, g, rfl, hrn, _, hrl, hT⟩
    have hB := hA.call1 (A := GrP p m es) (by repeat (first | exact Sel.here | apply Sel.there)) hT
    clear hT
    clear hF hA
    have hA := hB
    clear hB
    try simp only [List.cons_append, List.nil_append] at hA
    have hF := hA.facts
    (try simp only [uA] at hA); have hF := hA.facts; (try simp only [fA, facts_row, and_true, true_and] at hF)
    obtain ⟨hq1, _, hq3, _⟩ := run_pairs hown.out hself.out hrn f0_ok cl_start
    have hnd := Lib.hid (run_pairs hown.out hself.out hrn f0_ok cl_start).2.1
    have hq1' := Lib.hid hq1
    have hq3' := Lib.hid hq3
    clear hrn hq1 hq3
    obtain ⟨axg, capg, hvg, _, hcpg, _⟩ := hA.row_form (e := 38) (size := 2) (n := got.length) (v := gv) (xs := flatI got) (by repeat (first | exact Sel.here | apply Sel.there))
    subst hvg
    simp only [F7.val]
    have hF := hA.facts
    (try simp only [uA] at hA); have hF := hA.facts; (try simp only [fA, facts_row, and_true, true_and] at hF)
    go_wp2_with (first | ((with_reducible refine gal ?_); refine wA 24 (.agg #[.int .i64 0, .int .i64 0, .int .i64 0, .int .i64 0, .int .i64 0, .int .i64 0, .int .i64 0]) [.int .i64 0, .int .i64 0, .int .i64 0, .int .i64 0, .int .i64 0, .int .i64 0, .int .i64 0] hA ?_; clear hF hA; intro b7 w1 hA hb7; (try simp only [uA] at hA); have hF := hA.facts; (try simp only [fA, facts_row, and_true, true_and] at hF)) | ((with_reducible refine gst ?_); refine wS hA ?_; clear hF hA; intro w1 hA; (try simp only [uA] at hA); have hF := hA.facts; (try simp only [fA, facts_row, and_true, true_and] at hF)) | ((with_reducible refine gbx ?_); refine wB hA ?_; clear hF hA; intro b1 w1 hA hb1; (try simp only [uA] at hA); have hF := hA.facts; (try simp only [fA, facts_row, and_true, true_and] at hF)))
    refine (reach_any (hA.sep1 (A := rowD (.slice axx xs.length capx) xs) (by repeat (first | exact Sel.here | apply Sel.there))) f0F hxo.out.uq hxo.out.deps (by omega)).mono ?_
    rintro e w6 ⟨tv, T, rfl, hsq, htf, hT⟩
    have hB := hA.call1 (A := rowD (.slice axx xs.length capx) xs) (by repeat (first | exact Sel.here | apply Sel.there)) hT
    clear hT
    clear hF hA
    have hA := hB
    clear hB
    try simp only [List.cons_append, List.nil_append] at hA
    have hF := hA.facts
    (try simp only [uA] at hA); have hF := hA.facts; (try simp only [fA, facts_row, and_true, true_and] at hF)
    have hsq' := Lib.hid hsq
    have htf' := Lib.hid htf
    have hTl := Lib.hid hsq.1
    clear hsq htf
    obtain ⟨axT, capT, hvT, _, _, _⟩ := hA.row_form (e := 60) (size := 1) (n := T.length) (v := tv) (xs := flatB T) (by repeat (first | exact Sel.here | apply Sel.there))
    subst hvT
    have hF := hA.facts
    (try simp only [uA] at hA); have hF := hA.facts; (try simp only [fA, facts_row, and_true, true_and] at hF)
    go_wp2_with (first | ((with_reducible refine gst ?_); refine wS hA ?_; clear hF hA; intro w1 hA; (try simp only [uA] at hA); have hF := hA.facts; (try simp only [fA, facts_row, and_true, true_and] at hF)) | ((with_reducible refine gbx ?_); refine wB hA ?_; clear hF hA; intro b1 w1 hA hb1; (try simp only [uA] at hA); have hF := hA.facts; (try simp only [fA, facts_row, and_true, true_and] at hF)))
    try go_frame
    clear hF
    go_loopg [39] got.length (GaRel w (.slice axg got.length capg) (.slice axx xs.length capx) (.slice axT T.length capT) got xs T)
    case atStart => exact ⟨0, rfl, by omega, hA.pick (by repeat (first | exact Picks.nil | refine Picks.cons (by repeat (first | exact Sel.here | apply Sel.there)) ?_))⟩
    case round =>
      obtain ⟨i, rfl, hik, hB⟩ := hrel
      clear hA
      have hA := hB
      clear hB
      by_cases hi : i < got.length
      · skip
        obtain ⟨x, hx⟩ : ∃ x, got[i]? = some x := ⟨_, List.getElem?_eq_getElem hi⟩
        have hxs := (hq1'.out x (List.mem_of_getElem? hx)).1
        obtain ⟨a, ha⟩ : ∃ a, getA xs x = some a := by
          have := hxg.out x
          cases hq : getA es x with
          | none => rw [hq] at hxs; cases hxs
          | some a => exact ⟨a, by rw [this, hq]⟩
        obtain ⟨ka, hfa, hka, hxa⟩ := find_some ha
        have hsx : seqE es x = a.s := by unfold seqE; rw [← hxg.out x, ha]; rfl
        obtain ⟨gx, cx, hgx2, _, _, _, _, _⟩ := hA.row_open (e := 52) (size := 10) (ax := axx) (cap := capx) (n := xs.length) (xs := flatD xs) (by repeat (first | exact Sel.here | apply Sel.there)) (by omega)
        subst hgx2
        obtain ⟨gT, cT, hgT, _, _, _, _, _⟩ := hA.row_open (e := 60) (size := 1) (ax := axT) (cap := capT) (n := T.length) (xs := flatB T) (by repeat (first | exact Sel.here | apply Sel.there)) (by have := hTl.out; omega)
        subst hgT
        obtain ⟨gg, cg, hgg, _, _, _, _, _⟩ := hA.row_open (e := 38) (size := 2) (ax := axg) (cap := capg) (n := got.length) (xs := flatI got) (by repeat (first | exact Sel.here | apply Sel.there)) (by omega)
        subst hgg
        have hrr := row_elem (hA.row_reads (v := .slice (some ⟨gg, 0, none⟩) got.length capg) (n := got.length) (xs := flatI got) (by repeat (first | exact Sel.here | apply Sel.there))) hx
        have hx' := Lib.hid hx
        have hxa' := Lib.hid hxa
        have hsx' := Lib.hid hsx
        clear hx hxs ha hxa hsx
        obtain ⟨r, t⟩ := x
        obtain ⟨bt, offt, hax2, hce⟩ := hrr
        obtain ⟨rfl, rfl⟩ : gg = bt ∧ 0 = offt := by cases hax2; exact ⟨rfl, rfl⟩
        have hr2' := Lib.hid (show ∀ (k : Nat) u, ([.int .i64 r, .int .i64 t] : List Value)[k]? = some u → wr.cell? ⟨gg, i * 2 + k, none⟩ = some u from fun k u hk => by have := hce k u hk; rwa [Nat.zero_add] at this)
        clear hce hax2
        have hiI : (i : Int) < got.length := by omega
        have hka0 : ¬ (ka : Int) < 0 := by omega
        have hF := hA.facts
        (try simp only [uA] at hA); have hF := hA.facts; (try simp only [fA, facts_row, and_true, true_and] at hF)
        go_wp2_with (first | ((with_reducible refine gal ?_); refine wA 38 (.agg #[.int .i64 0, .int .i64 0]) [.int .i64 0, .int .i64 0] hA ?_; clear hF hA; intro b10 w1 hA hb10; (try simp only [uA] at hA); have hF := hA.facts; (try simp only [fA, facts_row, and_true, true_and] at hF)) | ((with_reducible show wpList _ _ _ ({ dst := some 43, op := Op.load _ _, type := _, pos := _, after := _, guard := _ } :: _) _ _); refine wpList_loadRow_at (vs := [.int .i64 r, .int .i64 t]) rfl rfl (by (try simp only [Act.eval, eV]) <;> exact rfl) hr2'.out (by kernel_rfl) (by kernel_rfl) ?_) | ((with_reducible refine gst ?_); refine wS hA ?_; clear hF hA; intro w1 hA; (try simp only [uA] at hA); have hF := hA.facts; (try simp only [fA, facts_row, and_true, true_and] at hF)) | ((with_reducible refine gbx ?_); refine wB hA ?_; clear hF hA; intro b1 w1 hA hb1; (try simp only [uA] at hA); have hF := hA.facts; (try simp only [fA, facts_row, and_true, true_and] at hF)))
        refine (find_any (hA.sep1 (A := rowD (.slice (some ⟨gx, 0, none⟩) xs.length capx) xs) (by repeat (first | exact Sel.here | apply Sel.there))) (r, t) (by omega)).mono ?_
        rintro e w7 ⟨rfl, hT⟩
        have hB := hA.call1 (A := rowD (.slice (some ⟨gx, 0, none⟩) xs.length capx) xs) (by repeat (first | exact Sel.here | apply Sel.there)) hT
        clear hT
        clear hF hA
        have hA := hB
        clear hB
        try simp only [List.cons_append, List.nil_append] at hA
        have hF := hA.facts
        (try simp only [uA] at hA); have hF := hA.facts; (try simp only [fA, facts_row, and_true, true_and] at hF)
        rw [hfa]
        go_wp2_with (first | ((with_reducible show wpList _ _ _ ({ dst := some 51, op := Op.slice _ _ _ _ _, type := _, pos := _, after := _, guard := _ } :: _) _ _); refine wpList_slice_pre (k := i) rfl rfl Try.underlying31 hi0 (by (try simp only [Act.eval, eV]) <;> exact rfl) (by (try simp only [Act.eval, eV]) <;> exact rfl) (by omega) ?_) | ((with_reducible refine gst ?_); refine wS hA ?_; clear hF hA; intro w1 hA; (try simp only [uA] at hA); have hF := hA.facts; (try simp only [fA, facts_row, and_true, true_and] at hF)) | ((with_reducible refine gbx ?_); refine wB hA ?_; clear hF hA; intro b1 w1 hA hb1; (try simp only [uA] at hA); have hF := hA.facts; (try simp only [fA, facts_row, and_true, true_and] at hF)))
        try go_frame
        have hikG : i + 1 + (gk - 1) = got.length ∧ gk - 1 < gk := by omega
        obtain ⟨G, hG⟩ : ∃ G, gk - 1 = G := ⟨_, rfl⟩
        rw [hG] at hikG
        have hGk := Lib.hid hikG
        clear hG hik hikG hF
        go_loopg [53] i (GbRel w b10 r t (.slice (some ⟨gg, 0, none⟩) got.length capg) (.slice (some ⟨gx, 0, none⟩) xs.length capx) (.slice (some ⟨gT, 0, none⟩) T.length capT) got xs T i)
        case atStart => exact ⟨0, rfl, by omega, hA.pick (by repeat (first | exact Picks.nil | refine Picks.cons (by repeat (first | exact Sel.here | apply Sel.there)) ?_))⟩
        case round =>
          obtain ⟨j, rfl, hjk, hB⟩ := hrel
          clear hA
          have hA := hB
          clear hB
          by_cases hj : j < i
          · skip
            obtain ⟨z, hz⟩ : ∃ z, got[j]? = some z := ⟨_, List.getElem?_eq_getElem (by omega)⟩
            have hzs := (hq1'.out z (List.mem_of_getElem? hz)).1
            obtain ⟨b, hb⟩ : ∃ b, getA xs z = some b := by
              have := hxg.out z
              cases hq : getA es z with
              | none => rw [hq] at hzs; cases hzs
              | some b => exact ⟨b, by rw [this, hq]⟩
            obtain ⟨kb, hfb, hkb, hxb⟩ := find_some hb
            have hsz : seqE es z = b.s := by unfold seqE; rw [← hxg.out z, hb]; rfl
            have hgi := (List.getElem?_eq_some_iff.1 hx'.out)
            have hgj := (List.getElem?_eq_some_iff.1 hz)
            have hne : z ≠ (r, t) := by
              obtain ⟨h1, e1⟩ := hgj
              obtain ⟨h2, e2⟩ := hgi
              rw [← e1, ← e2]
              exact List.pairwise_iff_getElem.1 hnd.out j i h1 h2 hj
            have hpr : RI es f0F z (r, t) → RI es f0F (r, t) z ∧ (b.s < a.s ∨ b.s = a.s ∧ ltID z (r, t)) := by
              obtain ⟨h1, e1⟩ := hgj
              obtain ⟨h2, e2⟩ := hgi
              have := List.pairwise_iff_getElem.1 hq3'.out j i h1 h2 hj
              rw [e1, e2, hsz, hsx'.out] at this
              exact this
            have hnb : (xs.map Prod.fst)[kb]? = some z := by rw [List.getElem?_map, hxb]; rfl
            have hna : (xs.map Prod.fst)[ka]? = some (r, t) := by rw [List.getElem?_map, hxa'.out]; rfl
            have hnn : (xs.map Prod.fst).Nodup := hxo.out.uq
            have hcl : ∀ z ∈ xs.map Prod.fst, ∀ y ∈ leadsG xs f0F z, (getA xs y).isSome = true → y ∈ xs.map Prod.fst := fun z _ y _ hy => by
              cases hq : getA xs y with
              | none => rw [hq] at hy; cases hy
              | some c => exact List.mem_map.2 ⟨_, getA_mem hq, rfl⟩
            have h12 : tF T kb ka = true → tF T ka kb = true ∧ (b.s < a.s ∨ b.s = a.s ∧ ltID z (r, t)) := fun h => by
              have r1 := RI_of_R ((htf'.out kb ka hkb hka).1 h) hnb hna
              obtain ⟨r2, h2⟩ := hpr (RI_same (es := xs) (xs := es) (fun f x => (hxlg.out f x).symm) r1)
              exact ⟨(htf'.out ka kb hka hkb).2 (R_of_RI hnn hna hcl (RI_same (fun f x => hxlg.out f x) r2) hnb), h2⟩
            have h12' := Lib.hid h12
            have hrr := row_elem (hA.row_reads (v := .slice (some ⟨gg, 0, none⟩) got.length capg) (n := got.length) (xs := flatI got) (by repeat (first | exact Sel.here | apply Sel.there))) hz
            have hxb' := Lib.hid hxb
            clear hz hzs hb hsz hgi hgj hpr hnb hna hnn hcl h12 hxb
            obtain ⟨rz, tz⟩ := z
            obtain ⟨bt, offt, hax2, hce⟩ := hrr
            obtain ⟨rfl, rfl⟩ : gg = bt ∧ 0 = offt := by cases hax2; exact ⟨rfl, rfl⟩
            have hr3' := Lib.hid (show ∀ (k : Nat) u, ([.int .i64 rz, .int .i64 tz] : List Value)[k]? = some u → wr.cell? ⟨gg, j * 2 + k, none⟩ = some u from fun k u hk => by have := hce k u hk; rwa [Nat.zero_add] at this)
            clear hce hax2
            have hjI : (j : Int) < i := by omega
            have hkb0 : ¬ (kb : Int) < 0 := by omega
            have hF := hA.facts
            (try simp only [uA] at hA); have hF := hA.facts; (try simp only [fA, facts_row, and_true, true_and] at hF)
            go_wp2_with (first | ((with_reducible refine gal ?_); refine wA 38 (.agg #[.int .i64 0, .int .i64 0]) [.int .i64 0, .int .i64 0] hA ?_; clear hF hA; intro b13 w1 hA hb13; (try simp only [uA] at hA); have hF := hA.facts; (try simp only [fA, facts_row, and_true, true_and] at hF)) | ((with_reducible show wpList _ _ _ ({ dst := some 56, op := Op.load _ _, type := _, pos := _, after := _, guard := _ } :: _) _ _); refine wpList_loadRow_at (vs := [.int .i64 rz, .int .i64 tz]) rfl rfl (by (try simp only [Act.eval, eV]) <;> exact rfl) hr3'.out (by kernel_rfl) (by kernel_rfl) ?_) | ((with_reducible refine gst ?_); refine wS hA ?_; clear hF hA; intro w1 hA; (try simp only [uA] at hA); have hF := hA.facts; (try simp only [fA, facts_row, and_true, true_and] at hF)) | ((with_reducible refine gbx ?_); refine wB hA ?_; clear hF hA; intro b1 w1 hA hb1; (try simp only [uA] at hA); have hF := hA.facts; (try simp only [fA, facts_row, and_true, true_and] at hF)))
            refine (find_any (hA.sep1 (A := rowD (.slice (some ⟨gx, 0, none⟩) xs.length capx) xs) (by repeat (first | exact Sel.here | apply Sel.there))) (rz, tz) (by omega)).mono ?_
            rintro e w8 ⟨rfl, hT⟩
            have hB := hA.call1 (A := rowD (.slice (some ⟨gx, 0, none⟩) xs.length capx) xs) (by repeat (first | exact Sel.here | apply Sel.there)) hT
            clear hT
            clear hF hA
            have hA := hB
            clear hB
            try simp only [List.cons_append, List.nil_append] at hA
            have hF := hA.facts
            (try simp only [uA] at hA); have hF := hA.facts; (try simp only [fA, facts_row, and_true, true_and] at hF)
            rw [hfb]
            obtain ⟨xb, hTb, hba⟩ := hsq'.out.cell hkb hka
            obtain ⟨xa, hTa, hab⟩ := hsq'.out.cell hka hkb
            have hlb := hsq'.out.2 kb xb hTb
            have hla := hsq'.out.2 ka xa hTa
            have d1 : w8.cell? ⟨gT, kb, none⟩ = some xb.v := reads_cell (hA.row_reads (v := .slice (some ⟨gT, 0, none⟩) T.length capT) (n := T.length) (xs := flatB T) (by repeat (first | exact Sel.here | apply Sel.there))) (flatB_get hTb)
            have d2 : w8.cell? ⟨gT, ka, none⟩ = some xa.v := reads_cell (hA.row_reads (v := .slice (some ⟨gT, 0, none⟩) T.length capT) (n := T.length) (xs := flatB T) (by repeat (first | exact Sel.here | apply Sel.there))) (flatB_get hTa)
            have d3 := pool_cell hA (by repeat (first | exact Sel.here | apply Sel.there)) hTb hba
            have d4 := pool_cell hA (by repeat (first | exact Sel.here | apply Sel.there)) hTa hab
            have hTbv := flatB_get hTb
            have hcb := seq_cell2 xs hxb'.out
            have hca := seq_cell2 xs hxa'.out
            obtain ⟨gb, cb, bb⟩ := xb
            obtain ⟨ga, ca, ba⟩ := xa
            simp only [Br.v] at d1 d2 d3 d4 hlb hla hTbv hcb hca hba
            have hl1 : (ka : Int) < bb.length := by omega
            have hl2 : (kb : Int) < ba.length := by omega
            have hl3 : (kb : Int) < T.length := by have := hTl.out; omega
            have hl4 : (ka : Int) < T.length := by have := hTl.out; omega
            have hl5 : (kb : Int) < xs.length := by omega
            have hl6 : (ka : Int) < xs.length := by omega
            have hne2 : (decide (rz = r) && decide (tz = t)) = false := by
              cases hq : (decide (rz = r) && decide (tz = t)) with
              | false => rfl
              | true => exact absurd (by simp at hq; rw [hq.1, hq.2]) hne
            obtain ⟨v1, hv1⟩ : ∃ c, tF T kb ka = c := ⟨_, rfl⟩
            obtain ⟨v2, hv2⟩ : ∃ c, tF T ka kb = c := ⟨_, rfl⟩
            rw [hv1] at d3 hba
            rw [hv2] at d4
            have h12 := h12'.out
            rw [hv1, hv2] at h12
            clear hab hTa hv1 hv2 hlb hla hne hfb
            cases v1
            · clear h12
              go_wp2_with (first | ((with_reducible refine gst ?_); refine wS hA ?_; clear hF hA; intro w1 hA; (try simp only [uA] at hA); have hF := hA.facts; (try simp only [fA, facts_row, and_true, true_and] at hF)) | ((with_reducible refine gbx ?_); refine wB hA ?_; clear hF hA; intro b1 w1 hA hb1; (try simp only [uA] at hA); have hF := hA.facts; (try simp only [fA, facts_row, and_true, true_and] at hF)))
              try go_frame
              (refine wp_region_all (Cl _ _ _) (by kernel_rfl) (by kernel_rfl) (Cl.drew hA) ?_); (have hn1 := Cl.none hA); (have hn2 := Cl.none2 hA); (repeat (first | go_big_quiet_skip | (go_big_quiet_want; (first | (refine quiet_loads_at (ty := 38) (n := 2) rfl rfl (by with_reducible repeat (first | exact Sel.here | apply Sel.there)) (by kernel_rfl) (by kernel_rfl) (by first | assumption | ((try simp only [List.drop_succ_cons, List.drop_zero, List.take_succ_cons, List.take_zero]) <;> exact rfl)) (by exact rfl) ?_; go_frame; go_big_quiet_on) | ((first | ((with_reducible show Oper.quiet _ { dst := _, op := Op.load 60 _, type := _, pos := _, after := _, guard := _ } _ _ _); refine quiet_row1_at (g := gT) (j := kb) rfl rfl (by with_reducible repeat (first | exact Sel.here | apply Sel.there)) (by kernel_rfl) hTbv ?_) | ((with_reducible show Oper.quiet _ { dst := _, op := Op.load 4 _, type := _, pos := _, after := _, guard := _ } _ _ _); refine quiet_pool_at (i := kb) (k := ka) (d := ⟨gb, cb, bb⟩) rfl rfl (by with_reducible repeat (first | exact Sel.here | apply Sel.there)) (by kernel_rfl) hTb hba ?_) | ((with_reducible show Oper.quiet _ { dst := _, op := Op.load 3 _, type := _, pos := _, after := _, guard := _ } _ _ _); first | refine quiet_rowN_at (g := gx) (j := kb * 10 + 2) rfl rfl (by with_reducible repeat (first | exact Sel.here | apply Sel.there)) (by kernel_rfl) hcb ?_ | refine quiet_rowN_at (g := gx) (j := ka * 10 + 2) rfl rfl (by with_reducible repeat (first | exact Sel.here | apply Sel.there)) (by kernel_rfl) hca ?_)); go_frame; go_big_quiet_on) | (refine quiet_load_at rfl rfl (by with_reducible repeat (first | exact Sel.here | apply Sel.there)) (by kernel_rfl) (by first | assumption | exact rfl) ?_; go_frame; go_big_quiet_on) | (go_big_quiet_op; (first | go_big_quiet_on | ((apply Exists.intro); (refine ⟨fun w1 hw => ?_, ?_⟩); (focus ((have hw := Cl.out hw); (fail))); (go_big_quiet_on))))))))
              (refine wpQuiet_nil ?_); (intro w1 hB); (clear hF hA hn1 hn2); (have hA := Cl.out hB); (clear hB); (try simp only [uA] at hA); have hF := hA.facts; (try simp only [fA, facts_row, and_true, true_and] at hF)
              go_wp2_with (first | ((with_reducible refine gst ?_); refine wS hA ?_; clear hF hA; intro w1 hA; (try simp only [uA] at hA); have hF := hA.facts; (try simp only [fA, facts_row, and_true, true_and] at hF)) | ((with_reducible refine gbx ?_); refine wB hA ?_; clear hF hA; intro b1 w1 hA hb1; (try simp only [uA] at hA); have hF := hA.facts; (try simp only [fA, facts_row, and_true, true_and] at hF)))
              go_roundg (gk - 1)
              case measure => omega
              case rel => exact ⟨j + 1, by simp, by omega, hA.pick (by repeat (first | exact Picks.nil | refine Picks.cons (by repeat (first | exact Sel.here | apply Sel.there)) ?_))⟩
            · obtain ⟨h2, hs⟩ := h12 rfl
              subst h2
              clear h12
              rcases hs with hs | ⟨hs, hlt⟩
              · have hg1 : decide (a.s < b.s) = false := decide_eq_false (by omega)
                have hg2 : (b.s == a.s) = false := by have : b.s ≠ a.s := by omega
                                                      simpa using this
                have hg3 : decide (b.s = a.s) = false := decide_eq_false (by omega)
                clear hs
                generalize a.s = sa at *
                generalize b.s = sb at *
                go_wp2_with (first | ((with_reducible refine gst ?_); refine wS hA ?_; clear hF hA; intro w1 hA; (try simp only [uA] at hA); have hF := hA.facts; (try simp only [fA, facts_row, and_true, true_and] at hF)) | ((with_reducible refine gbx ?_); refine wB hA ?_; clear hF hA; intro b1 w1 hA hb1; (try simp only [uA] at hA); have hF := hA.facts; (try simp only [fA, facts_row, and_true, true_and] at hF)))
                try go_frame
                (refine wp_region_all (Cl _ _ _) (by kernel_rfl) (by kernel_rfl) (Cl.drew hA) ?_); (have hn1 := Cl.none hA); (have hn2 := Cl.none2 hA); (repeat (first | go_big_quiet_skip | (go_big_quiet_want; (first | (refine quiet_loads_at (ty := 38) (n := 2) rfl rfl (by with_reducible repeat (first | exact Sel.here | apply Sel.there)) (by kernel_rfl) (by kernel_rfl) (by first | assumption | ((try simp only [List.drop_succ_cons, List.drop_zero, List.take_succ_cons, List.take_zero]) <;> exact rfl)) (by exact rfl) ?_; go_frame; go_big_quiet_on) | ((first | ((with_reducible show Oper.quiet _ { dst := _, op := Op.load 60 _, type := _, pos := _, after := _, guard := _ } _ _ _); refine quiet_row1_at (g := gT) (j := kb) rfl rfl (by with_reducible repeat (first | exact Sel.here | apply Sel.there)) (by kernel_rfl) hTbv ?_) | ((with_reducible show Oper.quiet _ { dst := _, op := Op.load 4 _, type := _, pos := _, after := _, guard := _ } _ _ _); refine quiet_pool_at (i := kb) (k := ka) (d := ⟨gb, cb, bb⟩) rfl rfl (by with_reducible repeat (first | exact Sel.here | apply Sel.there)) (by kernel_rfl) hTb hba ?_) | ((with_reducible show Oper.quiet _ { dst := _, op := Op.load 3 _, type := _, pos := _, after := _, guard := _ } _ _ _); first | refine quiet_rowN_at (g := gx) (j := kb * 10 + 2) rfl rfl (by with_reducible repeat (first | exact Sel.here | apply Sel.there)) (by kernel_rfl) hcb ?_ | refine quiet_rowN_at (g := gx) (j := ka * 10 + 2) rfl rfl (by with_reducible repeat (first | exact Sel.here | apply Sel.there)) (by kernel_rfl) hca ?_)); go_frame; go_big_quiet_on) | (refine quiet_load_at rfl rfl (by with_reducible repeat (first | exact Sel.here | apply Sel.there)) (by kernel_rfl) (by first | assumption | exact rfl) ?_; go_frame; go_big_quiet_on) | (go_big_quiet_op; (first | go_big_quiet_on | ((apply Exists.intro); (refine ⟨fun w1 hw => ?_, ?_⟩); (focus ((have hw := Cl.out hw); (fail))); (go_big_quiet_on))))))))
                (refine wpQuiet_nil ?_); (intro w1 hB); (clear hF hA hn1 hn2); (have hA := Cl.out hB); (clear hB); (try simp only [uA] at hA); have hF := hA.facts; (try simp only [fA, facts_row, and_true, true_and] at hF)
                go_wp2_with (first | ((with_reducible refine gst ?_); refine wS hA ?_; clear hF hA; intro w1 hA; (try simp only [uA] at hA); have hF := hA.facts; (try simp only [fA, facts_row, and_true, true_and] at hF)) | ((with_reducible refine gbx ?_); refine wB hA ?_; clear hF hA; intro b1 w1 hA hb1; (try simp only [uA] at hA); have hF := hA.facts; (try simp only [fA, facts_row, and_true, true_and] at hF)))
                go_roundg (gk - 1)
                case measure => omega
                case rel => exact ⟨j + 1, by simp, by omega, hA.pick (by repeat (first | exact Picks.nil | refine Picks.cons (by repeat (first | exact Sel.here | apply Sel.there)) ?_))⟩
              · have hcn := cmp_neg2 hlt
                have hcmp : ∀ w1, Calls Try.prog 26 #[.agg #[.int .i64 rz, .int .i64 tz], .agg #[.int .i64 r, .int .i64 t]] w1 fun e w' => e = .returned (.int .i64 (cmpID (rz, tz) (r, t))) ∧ Ext w1 w' := fun w1 => ext_cmp (rz, tz) (r, t) rfl
                generalize cmpID (rz, tz) (r, t) = cv at *
                rw [hs] at hcb
                clear hs hlt
                generalize a.s = sa at *
                have hg1 : decide (sa < sa) = false := decide_eq_false (by omega)
                go_wp2_with (first | ((with_reducible refine gst ?_); refine wS hA ?_; clear hF hA; intro w1 hA; (try simp only [uA] at hA); have hF := hA.facts; (try simp only [fA, facts_row, and_true, true_and] at hF)) | ((with_reducible refine gbx ?_); refine wB hA ?_; clear hF hA; intro b1 w1 hA hb1; (try simp only [uA] at hA); have hF := hA.facts; (try simp only [fA, facts_row, and_true, true_and] at hF)))
                try go_frame
                (refine wp_region_all (Cl _ _ _) (by kernel_rfl) (by kernel_rfl) (Cl.drew hA) ?_); (have hn1 := Cl.none hA); (have hn2 := Cl.none2 hA); (repeat (first | go_big_quiet_skip | (go_big_quiet_want; (first | (refine quiet_loads_at (ty := 38) (n := 2) rfl rfl (by with_reducible repeat (first | exact Sel.here | apply Sel.there)) (by kernel_rfl) (by kernel_rfl) (by first | assumption | ((try simp only [List.drop_succ_cons, List.drop_zero, List.take_succ_cons, List.take_zero]) <;> exact rfl)) (by exact rfl) ?_; go_frame; go_big_quiet_on) | ((first | ((with_reducible show Oper.quiet _ { dst := _, op := Op.load 60 _, type := _, pos := _, after := _, guard := _ } _ _ _); refine quiet_row1_at (g := gT) (j := kb) rfl rfl (by with_reducible repeat (first | exact Sel.here | apply Sel.there)) (by kernel_rfl) hTbv ?_) | ((with_reducible show Oper.quiet _ { dst := _, op := Op.load 4 _, type := _, pos := _, after := _, guard := _ } _ _ _); refine quiet_pool_at (i := kb) (k := ka) (d := ⟨gb, cb, bb⟩) rfl rfl (by with_reducible repeat (first | exact Sel.here | apply Sel.there)) (by kernel_rfl) hTb hba ?_) | ((with_reducible show Oper.quiet _ { dst := _, op := Op.load 3 _, type := _, pos := _, after := _, guard := _ } _ _ _); first | refine quiet_rowN_at (g := gx) (j := kb * 10 + 2) rfl rfl (by with_reducible repeat (first | exact Sel.here | apply Sel.there)) (by kernel_rfl) hcb ?_ | refine quiet_rowN_at (g := gx) (j := ka * 10 + 2) rfl rfl (by with_reducible repeat (first | exact Sel.here | apply Sel.there)) (by kernel_rfl) hca ?_)); go_frame; go_big_quiet_on) | (refine quiet_load_at rfl rfl (by with_reducible repeat (first | exact Sel.here | apply Sel.there)) (by kernel_rfl) (by first | assumption | exact rfl) ?_; go_frame; go_big_quiet_on) | (go_big_quiet_op; (first | go_big_quiet_on | ((apply Exists.intro); (refine ⟨fun w1 hw => ?_, ?_⟩); (focus ((have hw := Cl.out hw); (exact thro hw (hcmp _)))); (go_big_quiet_on))))))))
                (refine wpQuiet_nil ?_); (intro w1 hB); (clear hF hA hn1 hn2); (have hA := Cl.out hB); (clear hB); (try simp only [uA] at hA); have hF := hA.facts; (try simp only [fA, facts_row, and_true, true_and] at hF)
                clear hcmp
                go_wp2_with (first | ((with_reducible refine gst ?_); refine wS hA ?_; clear hF hA; intro w1 hA; (try simp only [uA] at hA); have hF := hA.facts; (try simp only [fA, facts_row, and_true, true_and] at hF)) | ((with_reducible refine gbx ?_); refine wB hA ?_; clear hF hA; intro b1 w1 hA hb1; (try simp only [uA] at hA); have hF := hA.facts; (try simp only [fA, facts_row, and_true, true_and] at hF)))
                go_roundg (gk - 1)
                case measure => omega
                case rel => exact ⟨j + 1, by simp, by omega, hA.pick (by repeat (first | exact Picks.nil | refine Picks.cons (by repeat (first | exact Sel.here | apply Sel.there)) ?_))⟩
          · have hjI : ¬ (j : Int) < i := by omega
            have hF := hA.facts
            (try simp only [uA] at hA); have hF := hA.facts; (try simp only [fA, facts_row, and_true, true_and] at hF)
            go_wp2_with (first | ((with_reducible refine gst ?_); refine wS hA ?_; clear hF hA; intro w1 hA; (try simp only [uA] at hA); have hF := hA.facts; (try simp only [fA, facts_row, and_true, true_and] at hF)) | ((with_reducible refine gbx ?_); refine wB hA ?_; clear hF hA; intro b1 w1 hA hb1; (try simp only [uA] at hA); have hF := hA.facts; (try simp only [fA, facts_row, and_true, true_and] at hF)))
            go_roundg G
            case measure => exact hGk.out.2
            case rel => exact ⟨i + 1, by simp, hGk.out.1, hA.pick (by repeat (first | exact Picks.nil | refine Picks.cons (by repeat (first | exact Sel.here | apply Sel.there)) ?_))⟩
      · have hiI : ¬ (i : Int) < got.length := by omega
        have hF := hA.facts
        (try simp only [uA] at hA); have hF := hA.facts; (try simp only [fA, facts_row, and_true, true_and] at hF)
        go_wp2_with (first | ((with_reducible refine gst ?_); refine wS hA ?_; clear hF hA; intro w1 hA; (try simp only [uA] at hA); have hF := hA.facts; (try simp only [fA, facts_row, and_true, true_and] at hF)) | ((with_reducible refine gbx ?_); refine wB hA ?_; clear hF hA; intro b1 w1 hA hb1; (try simp only [uA] at hA); have hF := hA.facts; (try simp only [fA, facts_row, and_true, true_and] at hF)))
        go_ret
        exact ⟨rfl, below_old hA (by repeat (first | exact Sel.here | apply Sel.there))⟩
  · have hgt : (24 : Int) < l.length := by omega
    go_wp2_with (first | ((with_reducible refine gst ?_); refine wS hA ?_; clear hF hA; intro w1 hA; (try simp only [uA] at hA); have hF := hA.facts; (try simp only [fA, facts_row, and_true, true_and] at hF)) | ((with_reducible refine gbx ?_); refine wB hA ?_; clear hF hA; intro b1 w1 hA hb1; (try simp only [uA] at hA); have hF := hA.facts; (try simp only [fA, facts_row, and_true, true_and] at hF)))
    go_ret
    exact ⟨rfl, below_old hA (by repeat (first | exact Sel.here | apply Sel.there))⟩
end Go.Proofs.Ytgicohkmfbbbdaa.Gr
end
