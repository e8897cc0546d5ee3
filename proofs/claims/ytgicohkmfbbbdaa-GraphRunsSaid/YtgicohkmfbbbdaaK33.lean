/- GrbN, joined. -/
import Derived.Test.YtgicohkmfbbbdaaK30
import Derived.Test.YtgicohkmfbbbdaaK17
import Derived.Test.YtgicohkmfbbbdaaK32
section
namespace Go.Proofs.Ytgicohkmfbbbdaa.Gr
open _root_.Go.Proofs.Ytgicohkmfbbbdaa.Mark (ltID sortID cmpID)
open _root_.Go.Proofs.Ytgicohkmfbbbdaa.Attr (rightI rightI_iff guardI eqlI_any neqI_any guardJ eqlJ_any neqJ_any guardF eqlF_any neqF_any eq7)
open _root_.Go.Proofs.Ytgicohkmfbbbdaa.Ref (rowD flatD cellsD cellsD_len elemD IA findD find_any rowJ rowJ_snoc infoJ sortedD sortedD_len sortedD_get sortedD_own sortedD_sorted leadsN_any LnPost)
open Go.RowKit
open Attr (A8 thro)
set_option linter.unusedSimpArgs false
set_option linter.unusedVariables false
attribute [-go_sem] run_eql_struct run_neq_struct run_eqGuard_agg
attribute [local go_sem] guardI eqlI_any neqI_any guardJ eqlJ_any neqJ_any guardF eqlF_any neqF_any
open _root_.Go.Proofs.Ytgicohkmfbbbdaa.Ref (runD_any)
def RgRel (w : World) (p m b3 b9 : Nat) (es : List IA) (f g : F7) (gv : Value) (got : List I2) (k : Nat) (u : Value) (wr : World) : Prop :=
  ∃ i : Nat, u = .int .i64 i ∧ i + k = got.length ∧ At [Part.old w] w [rowI2 gv got, GrP p m es, Part.cells b3 [.int .i64 f.f0, .int .i64 f.f1, .int .i64 f.f2, .int .i64 f.f3, .int .i64 f.f4, .int .i64 f.f5, .int .i64 f.f6] 24, Part.cells b9 [.int .i64 g.f0, .int .i64 g.f1, .int .i64 g.f2, .int .i64 g.f3, .int .i64 g.f4, .int .i64 g.f5, .int .i64 g.f6] 24, Part.old w] wr
theorem run_nodup {es : List IA} (ho : Own es) {f g : F7} {got : List I2} (h : RunR es f got g) : FOk f → got.Nodup := by
  induction h with
  | stop _ => exact fun _ => .nil
  | go h t ih =>
    rename_i f g l r
    intro hf
    obtain ⟨p1, p2, _⟩ := first_in h
    have hr : ∀ x ∈ l, RtI x := fun x hx => ho.of_get (p2 x hx)
    have hup := (up_less ho hf h).1
    refine List.nodup_append.2 ⟨(ordG_perm es f l).nodup_iff.2 (p1.imp fun q e => by rw [e] at q; exact lt_irr q), ih hup, fun x hx y hy e => ?_⟩
    subst e
    rw [(ordG_perm es f l).mem_iff] at hx
    have h1 := ((run_facts ho t hup).1 x hy).2.1
    have h2 := upF_mem (f := f) hr hx
    obtain ⟨a, b, c, d⟩ := hr x hx
    unfold behind at h1
    rw [rightI_iff.2 ⟨a, by omega, c, d⟩, decide_eq_true h2] at h1
    cases h1
theorem run_len {es : List IA} (ho : Own es) {f g : F7} {got : List I2} (h : RunR es f got g) (hf : FOk f) : got.length ≤ es.length := by
  have h1 : got.length ≤ (es.map (·.1)).length := nodup_le (run_nodup ho h hf) fun x hx => by
    have := ((run_facts ho h hf).1 x hx).1
    cases hq : getA es x with
    | none => rw [hq] at this; cases this
    | some a => exact List.mem_map.2 ⟨_, getA_mem hq, rfl⟩
  rwa [List.length_map] at h1
theorem eq7_self (f : F7) : eq7 f.f0 f.f1 f.f2 f.f3 f.f4 f.f5 f.f6 f.f0 f.f1 f.f2 f.f3 f.f4 f.f5 f.f6 = true := by simp [eq7]
set_option maxRecDepth 100000 in
set_option maxHeartbeats 16000000 in
theorem runs_law {w : World} {v : Value} {l : List IA} (hl0 : ∀ w', (Part.old w).holds w' → Reads w' v l.length (l.flatMap cellsD)) (hokl : ∀ n ∈ l, okD n.1) (hlen : l.length ≤ 9223372036854775807) (f : F7) :
    Calls Try.prog 3 #[v, f.val] w fun e w' => e = .returned (.bool true) ∧ Below w.heap.size w w' := by
  have hA := old_start w
  obtain ⟨ax, cap, rfl, _, _⟩ := hl0 w (hA.get .here)
  have hl0' := Lib.hid hl0
  have hokl' := Lib.hid hokl
  clear hl0 hokl
  simp only [F7.val]
  (try simp only [uA] at hA); have hF := hA.facts; (try simp only [fZ] at hF)
  go_enter Try.func3, Try.ntmps3
  go_wp2_with (first | ((with_reducible refine gbx ?_); refine wX 24 (.agg #[.int .i64 f.f0, .int .i64 f.f1, .int .i64 f.f2, .int .i64 f.f3, .int .i64 f.f4, .int .i64 f.f5, .int .i64 f.f6]) [.int .i64 f.f0, .int .i64 f.f1, .int .i64 f.f2, .int .i64 f.f3, .int .i64 f.f4, .int .i64 f.f5, .int .i64 f.f6] hA ?_; clear hF hA; intro b3 w1 hA hb3; (try simp only [uA] at hA); have hF := hA.facts; (try simp only [fZ] at hF)) | ((with_reducible refine gst ?_); refine wS hA ?_; clear hF hA; intro w1 hA; (try simp only [uA] at hA); have hF := hA.facts; (try simp only [fZ] at hF)) | ((with_reducible refine gbx ?_); refine wB hA ?_; clear hF hA; intro b1 w1 hA hb1; (try simp only [uA] at hA); have hF := hA.facts; (try simp only [fZ] at hF)))
  refine (anchor_any _).mono ?_
  rintro e w1 ⟨rfl, hxx⟩
  have hB := hA.ext hxx
  clear hxx
  clear hF hA; have hA := hB; clear hB
  try simp only [List.cons_append, List.nil_append] at hA
  (try simp only [uA] at hA); have hF := hA.facts; (try simp only [fZ] at hF)
  by_cases h20 : l.length ≤ 24
  · skip
    have hgt : ¬ (24 : Int) < l.length := by omega
    go_wp2_with (first | ((with_reducible refine gst ?_); refine wS hA ?_; clear hF hA; intro w1 hA; (try simp only [uA] at hA); have hF := hA.facts; (try simp only [fZ] at hF)) | ((with_reducible refine gbx ?_); refine wB hA ?_; clear hF hA; intro b1 w1 hA hb1; (try simp only [uA] at hA); have hF := hA.facts; (try simp only [fZ] at hF)))
    refine (right_any _ f).mono ?_
    rintro e w2 ⟨c, rfl, hc, hxx⟩
    have hB := hA.ext hxx
    clear hxx
    clear hF hA; have hA := hB; clear hB
    try simp only [List.cons_append, List.nil_append] at hA
    (try simp only [uA] at hA); have hF := hA.facts; (try simp only [fZ] at hF)
    cases c
    · go_wp2_with (first | ((with_reducible refine gst ?_); refine wS hA ?_; clear hF hA; intro w1 hA; (try simp only [uA] at hA); have hF := hA.facts; (try simp only [fZ] at hF)) | ((with_reducible refine gbx ?_); refine wB hA ?_; clear hF hA; intro b1 w1 hA hb1; (try simp only [uA] at hA); have hF := hA.facts; (try simp only [fZ] at hF)))
      go_ret
      exact ⟨rfl, below_old hA (by repeat (first | exact Sel.here | apply Sel.there))⟩
    · have hfo := Lib.hid (show FOk f from hc.1 rfl)
      clear hc
      go_wp2_with (first | ((with_reducible refine gst ?_); refine wS hA ?_; clear hF hA; intro w1 hA; (try simp only [uA] at hA); have hF := hA.facts; (try simp only [fZ] at hF)) | ((with_reducible refine gbx ?_); refine wB hA ?_; clear hF hA; intro b1 w1 hA hb1; (try simp only [uA] at hA); have hF := hA.facts; (try simp only [fZ] at hF)))
      refine (built_any (R := Part.old w) (v := .slice ax l.length cap) (l := l) (hA.sep1 (A := Part.old w) (by repeat (first | exact Sel.here | apply Sel.there))) hl0'.out (by omega) hokl'.out).mono ?_
      rintro e w4 ⟨p, m, u, rfl, hT⟩
      have hB := hA.call1 (A := Part.old w) (by repeat (first | exact Sel.here | apply Sel.there)) hT
      clear hT
      clear hF hA; have hA := hB; clear hB
      try simp only [List.cons_append, List.nil_append] at hA
      (try simp only [uA] at hA); have hF := hA.facts; (try simp only [fZ] at hF)
      have hown := Lib.hid (builtE_own l)
      have hesl := builtE_len l
      generalize builtE l = es at *
      have hxsl := sortedD_len es
      have hxg := Lib.hid (sortedD_get hown.out.uq)
      have hxo := Lib.hid (sortedD_own hown.out)
      generalize sortedD es = xs at *
      obtain ⟨axx, capx, hvx, _, hcpx, _⟩ := hA.row_form (e := 52) (size := 10) (n := xs.length) (v := u) (xs := flatD xs) (by repeat (first | exact Sel.here | apply Sel.there))
      subst hvx
      have hes1 : es.length ≤ 24 := by omega
      (try simp only [uA] at hA); have hF := hA.facts; (try simp only [fZ] at hF)
      go_wp2_with (first | ((with_reducible refine gst ?_); refine wS hA ?_; clear hF hA; intro w1 hA; (try simp only [uA] at hA); have hF := hA.facts; (try simp only [fZ] at hF)) | ((with_reducible refine gbx ?_); refine wB hA ?_; clear hF hA; intro b1 w1 hA hb1; (try simp only [uA] at hA); have hF := hA.facts; (try simp only [fZ] at hF)))
      refine (grun_any (hA.sep1 (A := GrP p m es) (by repeat (first | exact Sel.here | apply Sel.there))) f hfo.out hown.out (by omega)).mono ?_
      rintro e w5 ⟨gv, got, g, rfl, hrn, _, hrl, hT⟩
      have hB := hA.call1 (A := GrP p m es) (by repeat (first | exact Sel.here | apply Sel.there)) hT
      clear hT
      clear hF hA; have hA := hB; clear hB
      try simp only [List.cons_append, List.nil_append] at hA
      (try simp only [uA] at hA); have hF := hA.facts; (try simp only [fZ] at hF)
      have hrn' := Lib.hid hrn
      have hfacts := Lib.hid (run_facts hown.out hrn hfo.out).1
      have hgl := run_len hown.out hrn hfo.out
      clear hrn
      obtain ⟨axg, capg, hvg, _, hcpg, _⟩ := hA.row_form (e := 38) (size := 2) (n := got.length) (v := gv) (xs := flatI got) (by repeat (first | exact Sel.here | apply Sel.there))
      subst hvg
      simp only [F7.val]
      (try simp only [uA] at hA); have hF := hA.facts; (try simp only [fZ] at hF)
      go_wp2_with (first | ((with_reducible refine gal ?_); refine wA 24 (.agg #[.int .i64 0, .int .i64 0, .int .i64 0, .int .i64 0, .int .i64 0, .int .i64 0, .int .i64 0]) [.int .i64 0, .int .i64 0, .int .i64 0, .int .i64 0, .int .i64 0, .int .i64 0, .int .i64 0] hA ?_; clear hF hA; intro b9 w1 hA hb9; (try simp only [uA] at hA); have hF := hA.facts; (try simp only [fZ] at hF)) | ((with_reducible refine gst ?_); refine wS hA ?_; clear hF hA; intro w1 hA; (try simp only [uA] at hA); have hF := hA.facts; (try simp only [fZ] at hF)) | ((with_reducible refine gbx ?_); refine wB hA ?_; clear hF hA; intro b1 w1 hA hb1; (try simp only [uA] at hA); have hF := hA.facts; (try simp only [fZ] at hF)))
      refine (runD_any (hA.sep1 (A := rowD (.slice axx xs.length capx) xs) (by repeat (first | exact Sel.here | apply Sel.there))) f hfo.out hxo.out (by omega)).mono ?_
      rintro e w6 ⟨dv, out, g2, rfl, hrn2, hT⟩
      have hB := hA.call1 (A := rowD (.slice axx xs.length capx) xs) (by repeat (first | exact Sel.here | apply Sel.there)) hT
      clear hT
      clear hF hA; have hA := hB; clear hB
      try simp only [List.cons_append, List.nil_append] at hA
      (try simp only [uA] at hA); have hF := hA.facts; (try simp only [fZ] at hF)
      obtain ⟨hno, hg2⟩ := run_one hrn'.out (run_same hxg.out hrn2)
      subst hg2
      have hno' := Lib.hid hno
      clear hrn2 hno
      obtain ⟨axd, capd, hvd, _, hcpd, _⟩ := hA.row_form (e := 52) (size := 10) (n := out.length) (v := dv) (xs := flatD out) (by repeat (first | exact Sel.here | apply Sel.there))
      subst hvd
      simp only [F7.val]
      (try simp only [uA] at hA); have hF := hA.facts; (try simp only [fZ] at hF)
      go_wp2_with (first | ((with_reducible refine gal ?_); refine wA 23 (.agg #[.int .i64 0, .int .i64 0, .int .i64 0, .int .i64 0, .int .i64 0, .int .i64 0, .int .i64 0]) [.int .i64 0, .int .i64 0, .int .i64 0, .int .i64 0, .int .i64 0, .int .i64 0, .int .i64 0] hA ?_; clear hF hA; intro b11 w1 hA hb11; (try simp only [uA] at hA); have hF := hA.facts; (try simp only [fZ] at hF)) | ((with_reducible refine gst ?_); refine wS hA ?_; clear hF hA; intro w1 hA; (try simp only [uA] at hA); have hF := hA.facts; (try simp only [fZ] at hF)) | ((with_reducible refine gbx ?_); refine wB hA ?_; clear hF hA; intro b1 w1 hA hb1; (try simp only [uA] at hA); have hF := hA.facts; (try simp only [fZ] at hF)))
      refine (same_any (hA.sep2 (A := rowI2 (.slice axg got.length capg) got) (B := rowD (.slice axd out.length capd) out) (by repeat (first | exact Sel.here | apply Sel.there)) (by repeat (first | exact Sel.here | apply Sel.there))) (by omega)).mono ?_
      rintro e w7 ⟨rfl, hT⟩
      have hB := hA.call2 (A := rowI2 (.slice axg got.length capg) got) (B := rowD (.slice axd out.length capd) out) (by repeat (first | exact Sel.here | apply Sel.there)) (by repeat (first | exact Sel.here | apply Sel.there)) hT
      clear hT
      clear hF hA; have hA := hB; clear hB
      try simp only [List.cons_append, List.nil_append] at hA
      (try simp only [uA] at hA); have hF := hA.facts; (try simp only [fZ] at hF)
      rw [decide_eq_true hno'.out]
      have hsf := eq7_self g
      go_wp2_with (first | ((with_reducible refine gst ?_); refine wS hA ?_; clear hF hA; intro w1 hA; (try simp only [uA] at hA); have hF := hA.facts; (try simp only [fZ] at hF)) | ((with_reducible refine gbx ?_); refine wB hA ?_; clear hF hA; intro b1 w1 hA hb1; (try simp only [uA] at hA); have hF := hA.facts; (try simp only [fZ] at hF)))
      try go_frame
      clear hF hsf
      go_loopg [55] got.length (RgRel w p m b3 b9 es f g (.slice axg got.length capg) got)
      case atStart => exact ⟨0, rfl, by omega, hA.pick (by repeat (first | exact Picks.nil | refine Picks.cons (by repeat (first | exact Sel.here | apply Sel.there)) ?_))⟩
      case round =>
        obtain ⟨i, rfl, hik, hB⟩ := hrel
        clear hA; have hA := hB; clear hB
        by_cases hi : i < got.length
        · obtain ⟨x, hx⟩ : ∃ x, got[i]? = some x := ⟨_, List.getElem?_eq_getElem hi⟩
          obtain ⟨h1, h2, h3⟩ := hfacts.out x (List.mem_of_getElem? hx)
          have hxk := (hown.out.of_get h1).ok
          have hrr := row_elem (hA.row_reads (v := .slice axg got.length capg) (n := got.length) (xs := flatI got) (by repeat (first | exact Sel.here | apply Sel.there))) hx
          clear hx
          obtain ⟨r, t⟩ := x
          obtain ⟨bt, offt, hax2, hce⟩ := hrr
          have hr2' := Lib.hid (show ∀ (k : Nat) u, ([.int .i64 r, .int .i64 t] : List Value)[k]? = some u → wr.cell? ⟨bt, offt + i * 2 + k, none⟩ = some u from hce)
          clear hce
          subst hax2
          have hiI : (i : Int) < got.length := by omega
          (try simp only [uA] at hA); have hF := hA.facts; (try simp only [fZ] at hF)
          go_wp2_with (first | ((with_reducible refine gal ?_); refine wA 38 (.agg #[.int .i64 0, .int .i64 0]) [.int .i64 0, .int .i64 0] hA ?_; clear hF hA; intro b13 w1 hA hb13; (try simp only [uA] at hA); have hF := hA.facts; (try simp only [fZ] at hF)) | ((with_reducible show wpList _ _ _ ({ dst := some 58, op := Op.load _ _, type := _, pos := _, after := _, guard := _ } :: _) _ _); refine wpList_loadRow_at (vs := [.int .i64 r, .int .i64 t]) rfl rfl (by (try simp only [Act.eval, eV]) <;> exact rfl) hr2'.out (by kernel_rfl) (by kernel_rfl) ?_) | ((with_reducible refine gst ?_); refine wS hA ?_; clear hF hA; intro w1 hA; (try simp only [uA] at hA); have hF := hA.facts; (try simp only [fZ] at hF)) | ((with_reducible refine gbx ?_); refine wB hA ?_; clear hF hA; intro b1 w1 hA hb1; (try simp only [uA] at hA); have hF := hA.facts; (try simp only [fZ] at hF)))
          refine (fhas_any g (r, t) _).mono ?_
          rintro e w8 ⟨rfl, hxx⟩
          have hB := hA.ext hxx
          clear hxx
          clear hF hA; have hA := hB; clear hB
          try simp only [List.cons_append, List.nil_append] at hA
          (try simp only [uA] at hA); have hF := hA.facts; (try simp only [fZ] at hF)
          rw [h3]
          go_wp2_with (first | ((with_reducible refine gst ?_); refine wS hA ?_; clear hF hA; intro w1 hA; (try simp only [uA] at hA); have hF := hA.facts; (try simp only [fZ] at hF)) | ((with_reducible refine gbx ?_); refine wB hA ?_; clear hF hA; intro b1 w1 hA hb1; (try simp only [uA] at hA); have hF := hA.facts; (try simp only [fZ] at hF)))
          refine (fhas_any f (r, t) _).mono ?_
          rintro e w9 ⟨rfl, hxx⟩
          have hB := hA.ext hxx
          clear hxx
          clear hF hA; have hA := hB; clear hB
          try simp only [List.cons_append, List.nil_append] at hA
          (try simp only [uA] at hA); have hF := hA.facts; (try simp only [fZ] at hF)
          rw [h2]
          go_wp2_with (first | ((with_reducible refine gst ?_); refine wS hA ?_; clear hF hA; intro w1 hA; (try simp only [uA] at hA); have hF := hA.facts; (try simp only [fZ] at hF)) | ((with_reducible refine gbx ?_); refine wB hA ?_; clear hF hA; intro b1 w1 hA hb1; (try simp only [uA] at hA); have hF := hA.facts; (try simp only [fZ] at hF)))
          refine (has_any (hA.sep1 (A := GrP p m es) (by repeat (first | exact Sel.here | apply Sel.there))) (r, t) hxk).mono ?_
          rintro e w10 ⟨rfl, hT⟩
          have hB := hA.call1 (A := GrP p m es) (by repeat (first | exact Sel.here | apply Sel.there)) hT
          clear hT
          clear hF hA; have hA := hB; clear hB
          try simp only [List.cons_append, List.nil_append] at hA
          (try simp only [uA] at hA); have hF := hA.facts; (try simp only [fZ] at hF)
          rw [h1]
          go_wp2_with (first | ((with_reducible refine gst ?_); refine wS hA ?_; clear hF hA; intro w1 hA; (try simp only [uA] at hA); have hF := hA.facts; (try simp only [fZ] at hF)) | ((with_reducible refine gbx ?_); refine wB hA ?_; clear hF hA; intro b1 w1 hA hb1; (try simp only [uA] at hA); have hF := hA.facts; (try simp only [fZ] at hF)))
          go_roundg (gk - 1)
          case measure => omega
          case rel => exact ⟨i + 1, by simp, by omega, hA.pick (by repeat (first | exact Picks.nil | refine Picks.cons (by repeat (first | exact Sel.here | apply Sel.there)) ?_))⟩
        · have hiI : ¬ (i : Int) < got.length := by omega
          (try simp only [uA] at hA); have hF := hA.facts; (try simp only [fZ] at hF)
          go_wp2_with (first | ((with_reducible refine gst ?_); refine wS hA ?_; clear hF hA; intro w1 hA; (try simp only [uA] at hA); have hF := hA.facts; (try simp only [fZ] at hF)) | ((with_reducible refine gbx ?_); refine wB hA ?_; clear hF hA; intro b1 w1 hA hb1; (try simp only [uA] at hA); have hF := hA.facts; (try simp only [fZ] at hF)))
          go_ret
          exact ⟨rfl, below_old hA (by repeat (first | exact Sel.here | apply Sel.there))⟩
  · have hgt : (24 : Int) < l.length := by omega
    go_wp2_with (first | ((with_reducible refine gst ?_); refine wS hA ?_; clear hF hA; intro w1 hA; (try simp only [uA] at hA); have hF := hA.facts; (try simp only [fZ] at hF)) | ((with_reducible refine gbx ?_); refine wB hA ?_; clear hF hA; intro b1 w1 hA hb1; (try simp only [uA] at hA); have hF := hA.facts; (try simp only [fZ] at hF)))
    go_ret
    exact ⟨rfl, below_old hA (by repeat (first | exact Sel.here | apply Sel.there))⟩
end Go.Proofs.Ytgicohkmfbbbdaa.Gr
end
