/- GrbP, joined. -/
import Derived.Test.YtgicohkmfbbbdaaK30
import Derived.Test.YtgicohkmfbbbdaaK17
import Derived.Test.YtgicohkmfbbbdaaK31
import Derived.Deep.CutBlock
import Derived.Deep.CutRange
import Derived.Test.YtgicohkmfbbbdaaK5
section
namespace Go.Proofs.Ytgicohkmfbbbdaa.Gr
open _root_.Go.Proofs.Ytgicohkmfbbbdaa.Mark (ltID sortID cmpID)
open _root_.Go.Proofs.Ytgicohkmfbbbdaa.Attr (rightI rightI_iff guardI eqlI_any neqI_any guardJ eqlJ_any neqJ_any guardF eqlF_any neqF_any eq7)
open _root_.Go.Proofs.Ytgicohkmfbbbdaa.Ref (rowD flatD cellsD cellsD_len elemD IA findD find_any rowJ rowJ_snoc infoJ sortedD sortedD_len sortedD_get sortedD_own sortedD_sorted leadsN_any LnPost)
open Go.RowKit
open Attr (A8 thro)
set_option linter.unusedSimpArgs false
set_option linter.unusedVariables false
attribute [-go_sem] run_eql_struct run_neq_struct run_eqGuard_agg
attribute [local go_sem] guardI eqlI_any neqI_any guardJ eqlJ_any neqJ_any guardF eqlF_any neqF_any
open _root_.Go.Proofs.Ytgicohkmfbbbdaa.Ref (needsD_any NeedsDPost orderD_any sorted_any wpList_rowN_at elem_cut2 rowD_snoc row_nilD infoD cellsD_one sortedD_sub sortedD_names xat sqX StD)
def Needs3Post (p m : Nat) (es : List IA) (f : F7) (x : I2) (w : World) (e : Ending) (w' : World) : Prop :=
  ∃ nv rd ns, e = .returned (.tuple #[nv, .bool rd]) ∧ (rd = true → NeedsIs es f x (some ns)) ∧ (rd = false → NeedsIs es f x none ∧ ns = []) ∧ At [GrP p m es] w [rowI2 nv ns, GrP p m es] w'
theorem needs3_any {w : World} {p m : Nat} {es : List (I2 × A8)} (h : Sep [GrP p m es] w) (f : F7) (x : I2) (hx : okD x) (hd : Deps es) (hn : es.length ≤ 1000) :
    Calls Try.prog 17 #[.pointer (some ⟨p, 0, none⟩), f.val, idV x] w (Needs3Post p m es f x w) := by
  refine (needs_any h f x hx hd hn).mono ?_
  rintro e w' (⟨l, v, rfl, h1, h2⟩ | ⟨rfl, h1, h2⟩)
  · exact ⟨v, true, l, rfl, fun _ => h1, nofun, h2⟩
  · exact ⟨_, false, [], rfl, nofun, fun _ => ⟨h1, rfl⟩, h2.row_nil 38 2⟩
theorem needs_agree {es xs : List IA} (hg : ∀ x, getA xs x = getA es x) {f : F7} {x : I2} {rd rd2 : Bool} {ns : List I2} {ls : List IA} (a1 : rd = true → NeedsIs es f x (some ns)) (a2 : rd = false → NeedsIs es f x none ∧ ns = [])
    (b1 : rd2 = true → NeedsIs xs f x (some (ls.map Prod.fst))) (b2 : rd2 = false → NeedsIs xs f x none ∧ ls = []) : rd2 = rd ∧ ns = ls.map Prod.fst := by
  cases rd <;> cases rd2
  · exact ⟨rfl, by rw [(a2 rfl).2, (b2 rfl).2]; rfl⟩
  · cases needs_one (a2 rfl).1 (needs_same hg (b1 rfl))
  · cases needs_one (a1 rfl) (needs_same hg (b2 rfl).1)
  · exact ⟨rfl, Option.some.inj (needs_one (a1 rfl) (needs_same hg (b1 rfl)))⟩
/-- those of some that are there, with what they have -/
def chF (xs : List IA) (l : List I2) : List IA := l.filterMap fun x => (getA xs x).map fun a => (x, a)
theorem chF_next {xs : List IA} {l : List I2} {i : Nat} {x : I2} (h : l[i]? = some x) : chF xs (l.take (i + 1)) = chF xs (l.take i) ++ (match getA xs x with | some a => [(x, a)] | none => []) := by
  unfold chF
  rw [List.take_add_one, h, List.filterMap_append]
  congr 1
  cases hq : getA xs x <;> simp [hq]
theorem chF_mem {xs : List IA} {l : List I2} {y : IA} : y ∈ chF xs l ↔ y.1 ∈ l ∧ getA xs y.1 = some y.2 := by
  unfold chF
  rw [List.mem_filterMap]
  constructor
  · rintro ⟨x, hx, e⟩
    obtain ⟨a, ha, rfl⟩ := Option.map_eq_some_iff.1 e
    exact ⟨hx, ha⟩
  · rintro ⟨h1, h2⟩
    exact ⟨y.1, h1, by rw [h2]; rfl⟩
theorem chF_len (xs : List IA) (l : List I2) : (chF xs l).length ≤ l.length := List.length_filterMap_le _ _
theorem ch_names {es xs : List IA} (hg : ∀ x, getA xs x = getA es x) (l : List I2) : (sortedD (chF xs l)).map Prod.fst = lstG es l := by
  refine strict_eq (sortedD_sorted (chF xs l)) (lstG_sorted es l) fun x => ?_
  rw [sortedD_names, lstG_mem]
  constructor
  · intro h
    obtain ⟨y, hy, rfl⟩ := List.mem_map.1 h
    obtain ⟨h1, h2⟩ := chF_mem.1 hy
    exact ⟨h1, by rw [← hg, h2]; rfl⟩
  · rintro ⟨h1, h2⟩
    cases hq : getA es x with
    | none => rw [hq] at h2; cases h2
    | some a => exact List.mem_map.2 ⟨(x, a), chF_mem.2 ⟨h1, by rw [hg, hq]⟩, rfl⟩
def CutL (w : World) (p m b5 b6 : Nat) (es : List IA) (f : F7) (r0 t0 : Int) (xv lv : Value) (xs : List IA) (u18 : Value) (wc : World) : Prop :=
  At [Part.old w] w [rowJ u18 (leadsG es f (r0, t0)), rowI2 lv (leadsG es f (r0, t0)), GrP p m es, rowD xv xs, Part.cells b5 [.int .i64 f.f0, .int .i64 f.f1, .int .i64 f.f2, .int .i64 f.f3, .int .i64 f.f4, .int .i64 f.f5, .int .i64 f.f6] 24, Part.cells b6 [.int .i64 r0, .int .i64 t0] 38, Part.old w] wc
def LlRel (w : World) (p m b5 b6 : Nat) (es : List IA) (f : F7) (r0 t0 : Int) (xv lv jv : Value) (xs : List IA) (ls : List I2) (k : Nat) (u : Value) (wr : World) : Prop :=
  ∃ i : Nat, u = .int .i64 i ∧ i + k = ls.length ∧ At [Part.old w] w [rowJ jv ls, rowI2 lv ls, GrP p m es, rowD xv xs, Part.cells b5 [.int .i64 f.f0, .int .i64 f.f1, .int .i64 f.f2, .int .i64 f.f3, .int .i64 f.f4, .int .i64 f.f5, .int .i64 f.f6] 24, Part.cells b6 [.int .i64 r0, .int .i64 t0] 38, Part.old w] wr
def ChRel (w : World) (p m b5 : Nat) (es : List IA) (f : F7) (xv : Value) (xs : List IA) (sm : List I2) (k : Nat) (u115 u21 : Value) (wr : World) : Prop :=
  ∃ i : Nat, u115 = .int .i64 i ∧ i + k = sm.length ∧ At [Part.old w] w [rowD u21 (chF xs (sm.take i)), GrP p m es, rowD xv xs, Part.cells b5 [.int .i64 f.f0, .int .i64 f.f1, .int .i64 f.f2, .int .i64 f.f3, .int .i64 f.f4, .int .i64 f.f5, .int .i64 f.f6] 24, Part.old w] wr
set_option maxRecDepth 100000 in
set_option maxHeartbeats 16000000 in
theorem needs_law {w : World} {v sv : Value} {l : List IA} {sm : List I2} (hl0 : ∀ w', (Part.old w).holds w' → Reads w' v l.length (l.flatMap cellsD)) (hokl : ∀ n ∈ l, okD n.1) (hlen : l.length ≤ 9223372036854775807) (f : F7) (x : I2) (hx : okD x)
    (hs0 : ∀ w', (Part.old w).holds w' → Reads w' sv sm.length (sm.flatMap idL)) (hoks : ∀ y ∈ sm, okD y) (hslen : sm.length ≤ 9223372036854775807) :
    Calls Try.prog 4 #[v, f.val, idV x, sv] w fun e w' => e = .returned (.bool true) ∧ Below w.heap.size w w' := by
  have hm : Try.prog.follows .mixedOrders = true := by kernel_rfl
  obtain ⟨i0, hi0, hz0, hz1, hz2⟩ := info_parts infoD
  have hA := old_start w
  obtain ⟨ax, cap, rfl, _, _⟩ := hl0 w (hA.get .here)
  obtain ⟨as_, caps, rfl, _, _⟩ := hs0 w (hA.get .here)
  have hl0' := Lib.hid hl0
  have hokl' := Lib.hid hokl
  have hs0' := Lib.hid hs0
  have hoks' := Lib.hid hoks
  have hx' := Lib.hid hx
  clear hl0 hokl hx hs0 hoks
  obtain ⟨r0, t0⟩ := x
  simp only [F7.val, idV]
  (try simp only [uA] at hA); have hF := hA.facts; (try simp only [fZ] at hF)
  go_enter Try.func4, Try.ntmps4
  go_wp2_with (first | (((with_reducible show wpList _ _ _ ({ dst := some 5, op := Op.box _ _, type := _, pos := _, after := _, guard := _ } :: _) _ _)); ((with_reducible refine gbx ?_); refine wX 24 (.agg #[.int .i64 f.f0, .int .i64 f.f1, .int .i64 f.f2, .int .i64 f.f3, .int .i64 f.f4, .int .i64 f.f5, .int .i64 f.f6]) [.int .i64 f.f0, .int .i64 f.f1, .int .i64 f.f2, .int .i64 f.f3, .int .i64 f.f4, .int .i64 f.f5, .int .i64 f.f6] hA ?_; clear hF hA; intro b5 w1 hA hb5; (try simp only [uA] at hA); have hF := hA.facts; (try simp only [fZ] at hF))) | (((with_reducible show wpList _ _ _ ({ dst := some 6, op := Op.box _ _, type := _, pos := _, after := _, guard := _ } :: _) _ _)); ((with_reducible refine gbx ?_); refine wX 38 (.agg #[.int .i64 r0, .int .i64 t0]) [.int .i64 r0, .int .i64 t0] hA ?_; clear hF hA; intro b6 w1 hA hb6; (try simp only [uA] at hA); have hF := hA.facts; (try simp only [fZ] at hF))) | ((with_reducible refine gst ?_); refine wS hA ?_; clear hF hA; intro w1 hA; (try simp only [uA] at hA); have hF := hA.facts; (try simp only [fZ] at hF)) | ((with_reducible refine gbx ?_); refine wB hA ?_; clear hF hA; intro b1 w1 hA hb1; (try simp only [uA] at hA); have hF := hA.facts; (try simp only [fZ] at hF)))
  refine (anchor_any _).mono ?_
  rintro e w1 ⟨rfl, hxx⟩
  have hB := hA.ext hxx
  clear hxx
  clear hF hA; have hA := hB; clear hB
  try simp only [List.cons_append, List.nil_append] at hA
  (try simp only [uA] at hA); have hF := hA.facts; (try simp only [fZ] at hF)
  by_cases h20 : l.length ≤ 24
  · by_cases h21 : sm.length ≤ 24
    · have hgt : ¬ (24 : Int) < l.length := by omega
      have hgs : ¬ (24 : Int) < sm.length := by omega
      go_wp2_with (first | ((with_reducible refine gst ?_); refine wS hA ?_; clear hF hA; intro w1 hA; (try simp only [uA] at hA); have hF := hA.facts; (try simp only [fZ] at hF)) | ((with_reducible refine gbx ?_); refine wB hA ?_; clear hF hA; intro b1 w1 hA hb1; (try simp only [uA] at hA); have hF := hA.facts; (try simp only [fZ] at hF)))
      refine (right_any _ f).mono ?_
      rintro e w2 ⟨c, rfl, hc, hxx⟩
      have hB := hA.ext hxx
      clear hxx
      clear hF hA; have hA := hB; clear hB
      try simp only [List.cons_append, List.nil_append] at hA
      (try simp only [uA] at hA); have hF := hA.facts; (try simp only [fZ] at hF)
      cases c
      · go_wp2_with (first | ((with_reducible refine gst ?_); refine wS hA ?_; clear hF hA; intro w1 hA; (try simp only [uA] at hA); have hF := hA.facts; (try simp only [fZ] at hF)) | ((with_reducible refine gbx ?_); refine wB hA ?_; clear hF hA; intro b1 w1 hA hb1; (try simp only [uA] at hA); have hF := hA.facts; (try simp only [fZ] at hF)))
        go_ret
        exact ⟨rfl, below_old hA (by repeat (first | exact Sel.here | apply Sel.there))⟩
      · have hfo := Lib.hid (show FOk f from hc.1 rfl)
        clear hc
        go_wp2_with (first | ((with_reducible refine gst ?_); refine wS hA ?_; clear hF hA; intro w1 hA; (try simp only [uA] at hA); have hF := hA.facts; (try simp only [fZ] at hF)) | ((with_reducible refine gbx ?_); refine wB hA ?_; clear hF hA; intro b1 w1 hA hb1; (try simp only [uA] at hA); have hF := hA.facts; (try simp only [fZ] at hF)))
        refine (built_any (R := Part.old w) (v := .slice ax l.length cap) (l := l) (hA.sep1 (A := Part.old w) (by repeat (first | exact Sel.here | apply Sel.there))) hl0'.out (by omega) hokl'.out).mono ?_
        rintro e w4 ⟨p, m, u, rfl, hT⟩
        have hB := hA.call1 (A := Part.old w) (by repeat (first | exact Sel.here | apply Sel.there)) hT
        clear hT
        clear hF hA; have hA := hB; clear hB
        try simp only [List.cons_append, List.nil_append] at hA
        (try simp only [uA] at hA); have hF := hA.facts; (try simp only [fZ] at hF)
        have hown := Lib.hid (builtE_own l)
        have hesl := builtE_len l
        generalize builtE l = es at *
        have hxsl := sortedD_len es
        have hxg := Lib.hid (sortedD_get hown.out.uq)
        have hxo := Lib.hid (sortedD_own hown.out)
        generalize sortedD es = xs at *
        obtain ⟨axx, capx, hvx, _, hcpx, _⟩ := hA.row_form (e := 52) (size := 10) (n := xs.length) (v := u) (xs := flatD xs) (by repeat (first | exact Sel.here | apply Sel.there))
        subst hvx
        have hes1 : es.length ≤ 24 := by omega
        (try simp only [uA] at hA); have hF := hA.facts; (try simp only [fZ] at hF)
        go_wp2_with (first | ((with_reducible refine gst ?_); refine wS hA ?_; clear hF hA; intro w1 hA; (try simp only [uA] at hA); have hF := hA.facts; (try simp only [fZ] at hF)) | ((with_reducible refine gbx ?_); refine wB hA ?_; clear hF hA; intro b1 w1 hA hb1; (try simp only [uA] at hA); have hF := hA.facts; (try simp only [fZ] at hF)))
        refine (needs3_any (hA.sep1 (A := GrP p m es) (by repeat (first | exact Sel.here | apply Sel.there))) f (r0, t0) hx'.out hown.out.deps (by omega)).mono ?_
        rintro e w5 ⟨nv, rd, ns, rfl, ha1, ha2, hT⟩
        have hB := hA.call1 (A := GrP p m es) (by repeat (first | exact Sel.here | apply Sel.there)) hT
        clear hT
        clear hF hA; have hA := hB; clear hB
        try simp only [List.cons_append, List.nil_append] at hA
        (try simp only [uA] at hA); have hF := hA.facts; (try simp only [fZ] at hF)
        go_wp2_with (first | ((with_reducible refine gst ?_); refine wS hA ?_; clear hF hA; intro w1 hA; (try simp only [uA] at hA); have hF := hA.facts; (try simp only [fZ] at hF)) | ((with_reducible refine gbx ?_); refine wB hA ?_; clear hF hA; intro b1 w1 hA hb1; (try simp only [uA] at hA); have hF := hA.facts; (try simp only [fZ] at hF)))
        refine (needsD_any (hA.sep1 (A := rowD (.slice axx xs.length capx) xs) (by repeat (first | exact Sel.here | apply Sel.there))) f (r0, t0) hxo.out.deps (by omega)).mono ?_
        rintro e w6 ⟨dv, rd2, ls, rfl, _, hb1, hb2, hT⟩
        have hB := hA.call1 (A := rowD (.slice axx xs.length capx) xs) (by repeat (first | exact Sel.here | apply Sel.there)) hT
        clear hT
        clear hF hA; have hA := hB; clear hB
        try simp only [List.cons_append, List.nil_append] at hA
        (try simp only [uA] at hA); have hF := hA.facts; (try simp only [fZ] at hF)
        obtain ⟨hrr, hnn⟩ := needs_agree hxg.out ha1 ha2 hb1 hb2
        subst hrr
        have hnn' := Lib.hid hnn
        have hnl : ns.length ≤ 1000 := by
          cases rd2 with
          | false => rw [(ha2 rfl).2]; simp
          | true => exact Nat.le_trans (in_len (ha1 rfl).2.1 (ha1 rfl).2.2.2) (by omega)
        clear ha1 ha2 hb1 hb2 hnn
        have hbb : (rd2 != rd2) = false := by simp
        obtain ⟨axn, capn, hvn, _, _, _⟩ := hA.row_form (e := 38) (size := 2) (n := ns.length) (v := nv) (xs := flatI ns) (by repeat (first | exact Sel.here | apply Sel.there))
        subst hvn
        (try simp only [uA] at hA); have hF := hA.facts; (try simp only [fZ] at hF)
        go_wp2_with (first | ((with_reducible refine gst ?_); refine wS hA ?_; clear hF hA; intro w1 hA; (try simp only [uA] at hA); have hF := hA.facts; (try simp only [fZ] at hF)) | ((with_reducible refine gbx ?_); refine wB hA ?_; clear hF hA; intro b1 w1 hA hb1; (try simp only [uA] at hA); have hF := hA.facts; (try simp only [fZ] at hF)))
        refine (same_any (hA.sep2 (A := rowI2 (.slice axn ns.length capn) ns) (B := rowD dv ls) (by repeat (first | exact Sel.here | apply Sel.there)) (by repeat (first | exact Sel.here | apply Sel.there))) (by omega)).mono ?_
        rintro e w7 ⟨rfl, hT⟩
        have hB := hA.call2 (A := rowI2 (.slice axn ns.length capn) ns) (B := rowD dv ls) (by repeat (first | exact Sel.here | apply Sel.there)) (by repeat (first | exact Sel.here | apply Sel.there)) hT
        clear hT
        clear hF hA; have hA := hB; clear hB
        try simp only [List.cons_append, List.nil_append] at hA
        (try simp only [uA] at hA); have hF := hA.facts; (try simp only [fZ] at hF)
        rw [decide_eq_true hnn'.out]
        go_wp2_with (first | ((with_reducible refine gst ?_); refine wS hA ?_; clear hF hA; intro w1 hA; (try simp only [uA] at hA); have hF := hA.facts; (try simp only [fZ] at hF)) | ((with_reducible refine gbx ?_); refine wB hA ?_; clear hF hA; intro b1 w1 hA hb1; (try simp only [uA] at hA); have hF := hA.facts; (try simp only [fZ] at hF)))
        refine (find_any (hA.sep1 (A := rowD (.slice axx xs.length capx) xs) (by repeat (first | exact Sel.here | apply Sel.there))) (r0, t0) (by omega)).mono ?_
        rintro e w8 ⟨rfl, hT⟩
        have hB := hA.call1 (A := rowD (.slice axx xs.length capx) xs) (by repeat (first | exact Sel.here | apply Sel.there)) hT
        clear hT
        clear hF hA; have hA := hB; clear hB
        try simp only [List.cons_append, List.nil_append] at hA
        (try simp only [uA] at hA); have hF := hA.facts; (try simp only [fZ] at hF)
        go_wp2_with (first | ((with_reducible refine gst ?_); refine wS hA ?_; clear hF hA; intro w1 hA; (try simp only [uA] at hA); have hF := hA.facts; (try simp only [fZ] at hF)) | ((with_reducible refine gbx ?_); refine wB hA ?_; clear hF hA; intro b1 w1 hA hb1; (try simp only [uA] at hA); have hF := hA.facts; (try simp only [fZ] at hF)))
        refine (leads_any (hA.sep1 (A := GrP p m es) (by repeat (first | exact Sel.here | apply Sel.there))) f (r0, t0) hx'.out (fun a ha => hown.out.deps _ a ha)).mono ?_
        rintro e w9 ⟨lv, rfl, hT⟩
        have hB := hA.call1 (A := GrP p m es) (by repeat (first | exact Sel.here | apply Sel.there)) hT
        clear hT
        clear hF hA; have hA := hB; clear hB
        try simp only [List.cons_append, List.nil_append] at hA
        (try simp only [uA] at hA); have hF := hA.facts; (try simp only [fZ] at hF)
        have hl7 := leadsG_len es f (r0, t0)
        have hgx := hxg.out (r0, t0)
        obtain ⟨kz, hkz⟩ : ∃ z, findD xs (r0, t0) = z := ⟨_, rfl⟩
        have hkz' := Lib.hid hkz
        rw [hkz]
        have hkd : decide ((0 : Int) ≤ kz) = (getA es (r0, t0)).isSome := by
          rw [← hkz]
          cases hg : getA es (r0, t0) with
          | none => rw [hg] at hgx; rw [find_none hgx]; rfl
          | some a =>
            rw [hg] at hgx
            obtain ⟨k, hk, _⟩ := find_some hgx
            rw [hk]
            exact decide_eq_true (by omega)
        have hkd' := Lib.hid hkd
        have hgx' := Lib.hid hgx
        clear hkz hkd hgx
        clear hF
        have hB : At [Part.old w] w [rowI2 lv (leadsG es f (r0, t0)), GrP p m es, rowD (.slice axx xs.length capx) xs, Part.cells b5 [.int .i64 f.f0, .int .i64 f.f1, .int .i64 f.f2, .int .i64 f.f3, .int .i64 f.f4, .int .i64 f.f5, .int .i64 f.f6] 24, Part.cells b6 [.int .i64 r0, .int .i64 t0] 38, Part.old w] w9 := hA.pick (by repeat (first | exact Picks.nil | refine Picks.cons (by repeat (first | exact Sel.here | apply Sel.there)) ?_))
        clear hA; have hA := hB; clear hB
        obtain ⟨axl, capl, hvl, _, hcpl, _⟩ := hA.row_form (e := 38) (size := 2) (n := (leadsG es f (r0, t0)).length) (v := lv) (xs := flatI (leadsG es f (r0, t0))) .here
        subst hvl
        (try simp only [uA] at hA); have hF := hA.facts; (try simp only [fZ] at hF)
        go_upto_if 79 with (first | ((with_reducible refine gst ?_); refine wS hA ?_; clear hF hA; intro w1 hA; (try simp only [uA] at hA); have hF := hA.facts; (try simp only [fZ] at hF)) | ((with_reducible refine gbx ?_); refine wB hA ?_; clear hF hA; intro b1 w1 hA hb1; (try simp only [uA] at hA); have hF := hA.facts; (try simp only [fZ] at hF)))
        try go_frame
        go_cut [18] from 80 to 85 (CutL w p m b5 b6 es f r0 t0 (.slice axx xs.length capx) (.slice axl (leadsG es f (r0, t0)).length capl) xs)
        case first =>
          cases hg : getA es (r0, t0) with
          | none =>
            have hk0 : ¬ (0 : Int) ≤ kz := of_decide_eq_false (by rw [hkd'.out, hg]; rfl)
            have hln := Lib.hid (show leadsG es f (r0, t0) = [] from by unfold leadsG; rw [hg])
            clear hg
            (try simp only [uA] at hA); have hF := hA.facts; (try simp only [fZ] at hF)
            go_wp2_with (first | ((with_reducible refine gst ?_); refine wS hA ?_; clear hF hA; intro w1 hA; (try simp only [uA] at hA); have hF := hA.facts; (try simp only [fZ] at hF)) | ((with_reducible refine gbx ?_); refine wB hA ?_; clear hF hA; intro b1 w1 hA hb1; (try simp only [uA] at hA); have hF := hA.facts; (try simp only [fZ] at hF)))
            go_meet
            case rel =>
              have hB := hA.row_nil 45 2
              unfold CutL
              rw [hln.out] at hB ⊢
              exact hB.pick (by repeat (first | exact Picks.nil | refine Picks.cons (by repeat (first | exact Sel.here | apply Sel.there)) ?_))
          | some a =>
            have hk0 : (0 : Int) ≤ kz := of_decide_eq_true (by rw [hkd'.out, hg]; rfl)
            have hln : leadsG es f (r0, t0) = leads f a := by unfold leadsG; rw [hg]
            have hln' := Lib.hid hln
            have hgx2 := hgx'.out
            rw [hg] at hgx2
            obtain ⟨k, hfk, hkl, hke⟩ := find_some hgx2
            rw [hkz'.out] at hfk
            subst hfk
            have hkI : (k : Int) < xs.length := by omega
            have hdep := Lib.hid (hown.out.deps _ _ hg)
            obtain ⟨gx, cx, hgx3, k1, k2, k3, k4, hB⟩ := hA.row_open (e := 52) (size := 10) (ax := axx) (cap := capx) (n := xs.length) (xs := flatD xs) (by repeat (first | exact Sel.here | apply Sel.there)) (by omega)
            subst hgx3
            have hx10 := cut_cells cellsD_len k4 hke
            have k4' := Lib.hid k4
            clear hF hA k4 hg hgx2 hln hke; have hA := hB; clear hB
            have hlds := fun w1 => leadsN_any w1 ((r0, t0), a) f hdep.out
            obtain ⟨ss, d0, d1, d2, d3, d4, d5, d6⟩ := a
            simp only [cellsD] at hx10 hlds
            simp only [F7.val] at hlds
            (try simp only [uA] at hA); have hF := hA.facts; (try simp only [fZ] at hF)
            go_upto_region 16 with (first | ((with_reducible refine gst ?_); refine wS hA ?_; clear hF hA; intro w1 hA; (try simp only [uA] at hA); have hF := hA.facts; (try simp only [fZ] at hF)) | ((with_reducible refine gbx ?_); refine wB hA ?_; clear hF hA; intro b1 w1 hA hb1; (try simp only [uA] at hA); have hF := hA.facts; (try simp only [fZ] at hF)))
            try go_frame
            have hB := hA.drew
            clear hF hA; have hA := hB; clear hB
            refine wp_region_held (S := fun w' => BlockIs w' gx cx 52 ∧ BlockIs w' b5 [.int .i64 f.f0, .int .i64 f.f1, .int .i64 f.f2, .int .i64 f.f3, .int .i64 f.f4, .int .i64 f.f5, .int .i64 f.f6] 24) hm ?_
            change wpAnyH _ _ _ _ _ 7 _ _ (World.drew _)
            generalize World.drew _ = wd at *
            have hS0 := (⟨hA.get (A := Part.cells gx cx 52) (by repeat (first | exact Sel.here | apply Sel.there)), hA.get (A := Part.cells b5 [.int .i64 f.f0, .int .i64 f.f1, .int .i64 f.f2, .int .i64 f.f3, .int .i64 f.f4, .int .i64 f.f5, .int .i64 f.f6] 24) (by repeat (first | exact Sel.here | apply Sel.there))⟩ : (fun w' => BlockIs w' gx cx 52 ∧ BlockIs w' b5 [.int .i64 f.f0, .int .i64 f.f1, .int .i64 f.f2, .int .i64 f.f3, .int .i64 f.f4, .int .i64 f.f5, .int .i64 f.f6] 24) wd)
            refine tP 0 80 (.slice (some ⟨gx, 0, none⟩) xs.length capx) (s := hS0) (h := ?_)
            try go_frame
            refine tP 1 81 (.int .i64 (k : Int)) (s := hS0) (h := ?_)
            try go_frame
            refine tZ 2 82 (.pointer (some ⟨gx, k * 10, none⟩)) (r := (fun w' hS => by simp [execOp, go_sem, Act.eval, Act.put]; omega)) (s := hS0) (h := ?_)
            try go_frame
            refine tZ 3 83 (.agg #[.int .i64 r0, .int .i64 t0, .int .i64 ss, .int .i64 d0, .int .i64 d1, .int .i64 d2, .int .i64 d3, .int .i64 d4, .int .i64 d5, .int .i64 d6]) (r := (fun w' hS => run_load_row (ty := 52) (n := 10) (b := gx) (j := k * 10) rfl (by exact rfl) hS.1 (by kernel_rfl) (by kernel_rfl) hx10 rfl)) (s := hS0) (h := ?_)
            try go_frame
            refine tZ 4 84 (.agg #[.int .i64 f.f0, .int .i64 f.f1, .int .i64 f.f2, .int .i64 f.f3, .int .i64 f.f4, .int .i64 f.f5, .int .i64 f.f6]) (r := (fun w' hS => run_load_row (ty := 24) (n := 7) (b := b5) (j := 0) rfl (by exact rfl) hS.2 (by kernel_rfl) (by kernel_rfl) rfl rfl)) (s := hS0) (h := ?_)
            try go_frame
            refine wpAnyH_one (i := 5) (by kernel_rfl) ?_
            refine opCall_at (i := 5) (d := some 85) (R := fun u w' => At [] wd [rowJ u (leads f ⟨ss, d0, d1, d2, d3, d4, d5, d6⟩)] w') rfl rfl (by kernel_rfl) (fn := 21) (args := #[.agg #[.int .i64 r0, .int .i64 t0, .int .i64 ss, .int .i64 d0, .int .i64 d1, .int .i64 d2, .int .i64 d3, .int .i64 d4, .int .i64 d5, .int .i64 d6], .agg #[.int .i64 f.f0, .int .i64 f.f1, .int .i64 f.f2, .int .i64 f.f3, .int .i64 f.f4, .int .i64 f.f5, .int .i64 f.f6]]) (by simp [execOp, go_sem, Act.eval, Act.put]) ((hlds wd).mono fun e w' ⟨v, he, hT⟩ => ⟨v, he, hT⟩) ?_
            intro vq w3 hT
            have hB := hA.call0 hT
            clear hT
            simp only [List.cons_append, List.nil_append] at hB
            have hS0 := (⟨hB.get (A := Part.cells gx cx 52) (by repeat (first | exact Sel.here | apply Sel.there)), hB.get (A := Part.cells b5 [.int .i64 f.f0, .int .i64 f.f1, .int .i64 f.f2, .int .i64 f.f3, .int .i64 f.f4, .int .i64 f.f5, .int .i64 f.f6] 24) (by repeat (first | exact Sel.here | apply Sel.there))⟩ : (fun w' => BlockIs w' gx cx 52 ∧ BlockIs w' b5 [.int .i64 f.f0, .int .i64 f.f1, .int .i64 f.f2, .int .i64 f.f3, .int .i64 f.f4, .int .i64 f.f5, .int .i64 f.f6] 24) w3)
            clear hA; have hA := hB; clear hB
            refine ⟨hS0, ?_⟩
            try go_frame
            refine tP 6 18 (vq) (s := hS0) (h := ?_)
            try go_frame
            refine wpAnyH_done (by kernel_rfl) ?_ _
            try go_frame
            clear hS0
            have hC := hA.row_shut (e := 52) (size := 10) (g := gx) (n := xs.length) (cap := capx) (xs := flatD xs) (by repeat (first | exact Sel.here | apply Sel.there)) k3 k1 k2 k4'.out
            have hF := hC.facts
            go_wp2_with fail
            go_meet
            case rel =>
              unfold CutL
              rw [hln'.out] at hC ⊢
              exact hC.pick (by repeat (first | exact Picks.nil | refine Picks.cons (by repeat (first | exact Sel.here | apply Sel.there)) ?_))
        case rest =>
          clear hF hA hkz'
          unfold CutL at hcut
          have hA := hcut
          clear hcut
          generalize leadsG es f (r0, t0) = ls at *
          obtain ⟨axj, capj, hvj, _, hcpj, _⟩ := hA.row_form (e := 45) (size := 2) (n := ls.length) (v := u18) (xs := flatI ls) .here
          subst hvj
          (try simp only [uA] at hA); have hF := hA.facts; (try simp only [fZ] at hF)
          go_wp2_with (first | ((with_reducible refine gst ?_); refine wS hA ?_; clear hF hA; intro w1 hA; (try simp only [uA] at hA); have hF := hA.facts; (try simp only [fZ] at hF)) | ((with_reducible refine gbx ?_); refine wB hA ?_; clear hF hA; intro b1 w1 hA hb1; (try simp only [uA] at hA); have hF := hA.facts; (try simp only [fZ] at hF)))
          refine (has_any (hA.sep1 (A := GrP p m es) (by repeat (first | exact Sel.here | apply Sel.there))) (r0, t0) hx'.out).mono ?_
          rintro e w10 ⟨rfl, hT⟩
          have hB := hA.call1 (A := GrP p m es) (by repeat (first | exact Sel.here | apply Sel.there)) hT
          clear hT
          clear hF hA; have hA := hB; clear hB
          try simp only [List.cons_append, List.nil_append] at hA
          (try simp only [uA] at hA); have hF := hA.facts; (try simp only [fZ] at hF)
          have hkd := hkd'.out
          generalize (getA es (r0, t0)).isSome = ib at *
          have hbb : (ib != ib) = false := by simp
          have hll : ((ls.length : Int) != (ls.length : Int)) = false := by simp
          go_wp2_with (first | ((with_reducible refine gst ?_); refine wS hA ?_; clear hF hA; intro w1 hA; (try simp only [uA] at hA); have hF := hA.facts; (try simp only [fZ] at hF)) | ((with_reducible refine gbx ?_); refine wB hA ?_; clear hF hA; intro b1 w1 hA hb1; (try simp only [uA] at hA); have hF := hA.facts; (try simp only [fZ] at hF)))
          try go_frame
          clear hF hkd hbb hll
          go_loopg [101] ls.length (LlRel w p m b5 b6 es f r0 t0 (.slice axx xs.length capx) (.slice axl ls.length capl) (.slice axj ls.length capj) xs ls)
          case atStart => exact ⟨0, rfl, by omega, hA.pick (by repeat (first | exact Picks.nil | refine Picks.cons (by repeat (first | exact Sel.here | apply Sel.there)) ?_))⟩
          case round =>
            obtain ⟨i, rfl, hik, hB⟩ := hrel
            clear hA; have hA := hB; clear hB
            by_cases hi : i < ls.length
            · obtain ⟨y, hy⟩ : ∃ y, ls[i]? = some y := ⟨_, List.getElem?_eq_getElem hi⟩
              have hrr := row_elem (hA.row_reads (v := .slice axl ls.length capl) (n := ls.length) (xs := flatI ls) (by repeat (first | exact Sel.here | apply Sel.there))) hy
              obtain ⟨gj, cj, hgj, k1, k2, k3, k4, hB⟩ := hA.row_open (e := 45) (size := 2) (ax := axj) (cap := capj) (n := ls.length) (xs := flatI ls) (by repeat (first | exact Sel.here | apply Sel.there)) (by omega)
              subst hgj
              have hej := elem2 k4 hy
              have k4' := Lib.hid k4
              clear hA k4 hy; have hA := hB; clear hB
              obtain ⟨ry, ty⟩ := y
              simp only [idL] at hej
              obtain ⟨bt, offt, hax2, hce⟩ := hrr
              have hr2' := Lib.hid (show ∀ (k : Nat) u, ([.int .i64 ry, .int .i64 ty] : List Value)[k]? = some u → wr.cell? ⟨bt, offt + i * 2 + k, none⟩ = some u from hce)
              clear hce
              subst hax2
              have hiI : (i : Int) < ls.length := by omega
              (try simp only [uA] at hA); have hF := hA.facts; (try simp only [fZ] at hF)
              go_wp2_with (first | ((with_reducible refine gal ?_); refine wA 38 (.agg #[.int .i64 0, .int .i64 0]) [.int .i64 0, .int .i64 0] hA ?_; clear hF hA; intro b20 w1 hA hb20; (try simp only [uA] at hA); have hF := hA.facts; (try simp only [fZ] at hF)) | ((with_reducible show wpList _ _ _ ({ dst := some 105, op := Op.load _ _, type := _, pos := _, after := _, guard := _ } :: _) _ _); refine wpList_loadRow_at (vs := [.int .i64 ry, .int .i64 ty]) rfl rfl (by (try simp only [Act.eval, eV]) <;> exact rfl) hr2'.out (by kernel_rfl) (by kernel_rfl) ?_) | ((with_reducible refine gst ?_); refine wS hA ?_; clear hF hA; intro w1 hA; (try simp only [uA] at hA); have hF := hA.facts; (try simp only [fZ] at hF)) | ((with_reducible refine gbx ?_); refine wB hA ?_; clear hF hA; intro b1 w1 hA hb1; (try simp only [uA] at hA); have hF := hA.facts; (try simp only [fZ] at hF)))
              try go_frame
              (refine wp_region_all (Cl _ _ _) (by kernel_rfl) (by kernel_rfl) (Cl.drew hA) ?_); (have hn1 := Cl.none hA); (have hn2 := Cl.none2 hA); (repeat (first | go_big_quiet_skip | (go_big_quiet_want; (first | (refine quiet_loads_at (ty := 38) (n := 2) rfl rfl (by with_reducible repeat (first | exact Sel.here | apply Sel.there)) (by kernel_rfl) (by kernel_rfl) (by first | assumption | ((try simp only [List.drop_succ_cons, List.drop_zero, List.take_succ_cons, List.take_zero]) <;> exact rfl)) (by exact rfl) ?_; go_frame; go_big_quiet_on) | (refine quiet_loads_at (ty := 45) (n := 2) rfl rfl (by with_reducible repeat (first | exact Sel.here | apply Sel.there)) (by kernel_rfl) (by kernel_rfl) (by first | assumption | ((try simp only [List.drop_succ_cons, List.drop_zero, List.take_succ_cons, List.take_zero]) <;> exact rfl)) (by exact rfl) ?_; go_frame; go_big_quiet_on) | (refine quiet_load_at rfl rfl (by with_reducible repeat (first | exact Sel.here | apply Sel.there)) (by kernel_rfl) (by first | assumption | exact rfl) ?_; go_frame; go_big_quiet_on) | (go_big_quiet_op; (first | go_big_quiet_on | ((apply Exists.intro); (refine ⟨fun w1 hw => ?_, ?_⟩); (focus ((have hw := Cl.out hw); (fail))); (go_big_quiet_on))))))))
              (refine wpQuiet_nil ?_); (intro w1 hB); (clear hF hA hn1 hn2); (have hA := Cl.out hB); (clear hB); (try simp only [uA] at hA); have hF := hA.facts; (try simp only [fZ] at hF)
              go_wp2_with (first | ((with_reducible refine gst ?_); refine wS hA ?_; clear hF hA; intro w1 hA; (try simp only [uA] at hA); have hF := hA.facts; (try simp only [fZ] at hF)) | ((with_reducible refine gbx ?_); refine wB hA ?_; clear hF hA; intro b1 w1 hA hb1; (try simp only [uA] at hA); have hF := hA.facts; (try simp only [fZ] at hF)))
              go_roundg (gk - 1)
              case measure => omega
              case rel =>
                have hC := hA.row_shut (e := 45) (size := 2) (g := gj) (n := ls.length) (cap := capj) (xs := flatI ls) (by repeat (first | exact Sel.here | apply Sel.there)) k3 k1 k2 k4'.out
                exact ⟨i + 1, by simp, by omega, hC.pick (by repeat (first | exact Picks.nil | refine Picks.cons (by repeat (first | exact Sel.here | apply Sel.there)) ?_))⟩
            · have hiI : ¬ (i : Int) < ls.length := by omega
              (try simp only [uA] at hA); have hF := hA.facts; (try simp only [fZ] at hF)
              go_wp2_with (first | ((with_reducible refine gst ?_); refine wS hA ?_; clear hF hA; intro w1 hA; (try simp only [uA] at hA); have hF := hA.facts; (try simp only [fZ] at hF)) | ((with_reducible refine gbx ?_); refine wB hA ?_; clear hF hA; intro b1 w1 hA hb1; (try simp only [uA] at hA); have hF := hA.facts; (try simp only [fZ] at hF)))
              try go_frame
              have hB := row_nilD hA
              clear hF hA
              go_loopg [115, 21] sm.length (ChRel w p m b5 es f (.slice axx xs.length capx) xs sm)
              case atStart => exact ⟨0, rfl, by omega, hB.pick (by repeat (first | exact Picks.nil | refine Picks.cons (by repeat (first | exact Sel.here | apply Sel.there)) ?_))⟩
              case round =>
                obtain ⟨i2, rfl, hik2, hA⟩ := hrel
                clear hB hik
                by_cases hi2 : i2 < sm.length
                · obtain ⟨y, hy⟩ : ∃ y, sm[i2]? = some y := ⟨_, List.getElem?_eq_getElem hi2⟩
                  have hrr := row_elem (hs0'.out _ (hA.get (A := Part.old w) (by repeat (first | exact Sel.here | apply Sel.there)))) hy
                  have hnx := Lib.hid (chF_next (xs := xs) hy)
                  have hcl := chF_len xs (sm.take i2)
                  rw [List.length_take] at hcl
                  have hcl1 : (chF xs (sm.take i2)).length ≤ 24 := by omega
                  clear hcl hy
                  generalize chF xs (sm.take i2) = ch at *
                  obtain ⟨axc, capc, hvc, _, hcpc, _⟩ := hA.row_form (e := 52) (size := 10) (n := ch.length) (v := u21) (xs := flatD ch) .here
                  subst hvc
                  obtain ⟨ry, ty⟩ := y
                  obtain ⟨bt, offt, hax2, hce⟩ := hrr
                  have hr2' := Lib.hid (show ∀ (k : Nat) u, ([.int .i64 ry, .int .i64 ty] : List Value)[k]? = some u → wr.cell? ⟨bt, offt + i2 * 2 + k, none⟩ = some u from hce)
                  clear hce
                  subst hax2
                  have hiI2 : (i2 : Int) < sm.length := by omega
                  (try simp only [uA] at hA); have hF := hA.facts; (try simp only [fZ] at hF)
                  go_wp2_with (first | ((with_reducible refine gal ?_); refine wA 38 (.agg #[.int .i64 0, .int .i64 0]) [.int .i64 0, .int .i64 0] hA ?_; clear hF hA; intro b23 w1 hA hb23; (try simp only [uA] at hA); have hF := hA.facts; (try simp only [fZ] at hF)) | ((with_reducible show wpList _ _ _ ({ dst := some 118, op := Op.load _ _, type := _, pos := _, after := _, guard := _ } :: _) _ _); refine wpList_loadRow_at (vs := [.int .i64 ry, .int .i64 ty]) rfl rfl (by (try simp only [Act.eval, eV]) <;> exact rfl) hr2'.out (by kernel_rfl) (by kernel_rfl) ?_) | ((with_reducible refine gst ?_); refine wS hA ?_; clear hF hA; intro w1 hA; (try simp only [uA] at hA); have hF := hA.facts; (try simp only [fZ] at hF)) | ((with_reducible refine gbx ?_); refine wB hA ?_; clear hF hA; intro b1 w1 hA hb1; (try simp only [uA] at hA); have hF := hA.facts; (try simp only [fZ] at hF)))
                  refine (find_any (hA.sep1 (A := rowD (.slice axx xs.length capx) xs) (by repeat (first | exact Sel.here | apply Sel.there))) (ry, ty) (by omega)).mono ?_
                  rintro e w11 ⟨rfl, hT⟩
                  have hB := hA.call1 (A := rowD (.slice axx xs.length capx) xs) (by repeat (first | exact Sel.here | apply Sel.there)) hT
                  clear hT
                  clear hF hA; have hA := hB; clear hB
                  try simp only [List.cons_append, List.nil_append] at hA
                  (try simp only [uA] at hA); have hF := hA.facts; (try simp only [fZ] at hF)
                  cases hg : getA xs (ry, ty) with
                  | none =>
                    rw [find_none hg]
                    have hnx2 := Lib.hid (show chF xs (sm.take (i2 + 1)) = ch from by rw [hnx.out, hg, List.append_nil])
                    clear hg
                    go_wp2_with (first | ((with_reducible refine gst ?_); refine wS hA ?_; clear hF hA; intro w1 hA; (try simp only [uA] at hA); have hF := hA.facts; (try simp only [fZ] at hF)) | ((with_reducible refine gbx ?_); refine wB hA ?_; clear hF hA; intro b1 w1 hA hb1; (try simp only [uA] at hA); have hF := hA.facts; (try simp only [fZ] at hF)))
                    go_roundg (gk - 1)
                    case measure => omega
                    case rel => exact ⟨i2 + 1, by simp, by omega, by rw [hnx2.out]; exact hA.pick (by repeat (first | exact Picks.nil | refine Picks.cons (by repeat (first | exact Sel.here | apply Sel.there)) ?_))⟩
                  | some a =>
                    obtain ⟨k, hfk, hkl, hke⟩ := find_some hg
                    rw [hfk]
                    have hk0 : (0 : Int) ≤ (k : Int) := by omega
                    have hkI : (k : Int) < xs.length := by omega
                    have hnx2 := Lib.hid (show chF xs (sm.take (i2 + 1)) = ch ++ [((ry, ty), a)] from by rw [hnx.out, hg])
                    have hec := elem_cut2 xs hke
                    obtain ⟨gx, cx, hgx3, _, _, _, _, _⟩ := hA.row_open (e := 52) (size := 10) (ax := axx) (cap := capx) (n := xs.length) (xs := flatD xs) (by repeat (first | exact Sel.here | apply Sel.there)) (by omega)
                    subst hgx3
                    obtain ⟨ss, d0, d1, d2, d3, d4, d5, d6⟩ := a
                    have hec' := Lib.hid (show ((flatD xs).drop (k * 10)).take (List.length (α := Value) [.int .i64 ry, .int .i64 ty, .int .i64 ss, .int .i64 d0, .int .i64 d1, .int .i64 d2, .int .i64 d3, .int .i64 d4, .int .i64 d5, .int .i64 d6]) = [.int .i64 ry, .int .i64 ty, .int .i64 ss, .int .i64 d0, .int .i64 d1, .int .i64 d2, .int .i64 d3, .int .i64 d4, .int .i64 d5, .int .i64 d6] from hec)
                    clear hg hec hke hfk
                    (try simp only [uA] at hA); have hF := hA.facts; (try simp only [fZ] at hF)
                    go_wp2_with (first | ((with_reducible show wpList _ _ _ ({ dst := some 128, op := Op.load _ _, type := _, pos := _, after := _, guard := _ } :: _) _ _); refine wpList_rowN_at (g := gx) (j := k * 10) (vs := [.int .i64 ry, .int .i64 ty, .int .i64 ss, .int .i64 d0, .int .i64 d1, .int .i64 d2, .int .i64 d3, .int .i64 d4, .int .i64 d5, .int .i64 d6]) rfl rfl (by (try simp only [Act.eval, eV]) <;> exact rfl) hA (by repeat (first | exact Sel.here | apply Sel.there)) hec'.out (by kernel_rfl) (by kernel_rfl) ?_) | ((with_reducible show wpList _ _ _ ({ dst := _, op := Op.buildSlice _ _ _, type := _, pos := _, after := _, guard := _ } :: _) _ _); refine wpList_one_at (e := 52) (vs := cellsD ((ry, ty), (⟨ss, d0, d1, d2, d3, d4, d5, d6⟩ : A8))) rfl rfl (by (try simp only [Act.eval, eV]) <;> exact rfl) (fun _ => by kernel_rfl) hA ?_; intro b51 w1 hB hb51; clear hF hA; have hA := hB; clear hB; (try simp only [uA] at hA); have hF := hA.facts; (try simp only [fZ] at hF)) | ((with_reducible show wpList _ _ _ ({ dst := _, op := Op.call { callee := Callee.builtin Builtin.append, args := _, argTypes := _ }, type := _, pos := _, after := _, guard := _ } :: _) _ _); refine wpList_append_at (e := 52) (size := 10) (v := .slice axc ch.length capc) (xs := flatD ch) (n := ch.length) (m := 1) (news := cellsD ((ry, ty), (⟨ss, d0, d1, d2, d3, d4, d5, d6⟩ : A8))) rfl _ _ 28 rfl Try.underlying28 hi0 hz0 hz1 hz2 rfl (by omega) hA (by repeat (first | exact Sel.here | apply Sel.there)) (by (try simp only [Act.eval, eV]) <;> exact rfl) (by (try simp only [Act.eval, eV]) <;> exact rfl) rfl (hA.cells_reads (by repeat (first | exact Sel.here | apply Sel.there)) _ _) (cellsD_one _) (by unfold maxLen; omega) (by omega) ?_; intro v9 w1 hB; rw [rowD_snoc] at hB; clear hF hA; have hA := hB; clear hB; (try simp only [uA] at hA); have hF := hA.facts; (try simp only [fZ] at hF)) | ((with_reducible refine gst ?_); refine wS hA ?_; clear hF hA; intro w1 hA; (try simp only [uA] at hA); have hF := hA.facts; (try simp only [fZ] at hF)) | ((with_reducible refine gbx ?_); refine wB hA ?_; clear hF hA; intro b1 w1 hA hb1; (try simp only [uA] at hA); have hF := hA.facts; (try simp only [fZ] at hF)))
                    go_roundg (gk - 1)
                    case measure => omega
                    case rel => exact ⟨i2 + 1, by simp, by omega, by rw [hnx2.out]; exact hA.pick (by repeat (first | exact Picks.nil | refine Picks.cons (by repeat (first | exact Sel.here | apply Sel.there)) ?_))⟩
                · have hiI2 : ¬ (i2 : Int) < sm.length := by omega
                  rw [List.take_of_length_le (by omega)] at hA
                  have hcl := chF_len xs sm
                  have hchn := Lib.hid (ch_names hxg.out sm)
                  have hchs := Lib.hid (show ∀ y ∈ sortedD (chF xs sm), getA es y.1 = some y.2 from fun y hy => by rw [← hxg.out]; exact (chF_mem.1 (sortedD_sub hy)).2)
                  have hchl := Lib.hid (sortedD_len (chF xs sm))
                  have hchu := Lib.hid (show Uq (sortedD (chF xs sm)) from StD.uq (sortedD_sorted (chF xs sm)))
                  generalize chF xs sm = ch at *
                  obtain ⟨axc, capc, hvc, _, hcpc, _⟩ := hA.row_form (e := 52) (size := 10) (n := ch.length) (v := u21) (xs := flatD ch) .here
                  subst hvc
                  have hord := fun (w1 : World) (q : Sep [Part.old w, GrP p m es] w1) => order_any (R := Part.old w) (v := .slice as_ sm.length caps) (l := sm) q hs0'.out (by omega) hoks'.out f hown.out.deps hown.out.ok hown.out.uq
                  simp only [F7.val] at hord
                  have hsrt := fun (w1 : World) (q : Sep [rowD (.slice axc ch.length capc) ch] w1) => sorted_any q (by omega)
                  generalize hsd : sortedD ch = sd at *
                  have hdep : Deps sd := fun x a h => hown.out.deps x a (hchs.out (x, a) (getA_mem h))
                  have hdl : sd.length ≤ 1000 := by have := hchl.out; omega
                  have hdo := fun (w1 : World) (u : Value) (q : Sep [rowD u sd] w1) => orderD_any q f hchu.out hdep hdl
                  simp only [F7.val] at hdo
                  have hon := Lib.hid (ordD_names hchu.out hchs.out f)
                  have hol := Lib.hid (show (ordG es f (lstG es sm)).length ≤ 1000000 from by rw [(ordG_perm es f (lstG es sm)).length_eq]; have := lstG_len es sm; omega)
                  (try simp only [uA] at hA); have hF := hA.facts; (try simp only [fZ] at hF)
                  go_upto_region 33 with (first | ((with_reducible refine gst ?_); refine wS hA ?_; clear hF hA; intro w1 hA; (try simp only [uA] at hA); have hF := hA.facts; (try simp only [fZ] at hF)) | ((with_reducible refine gbx ?_); refine wB hA ?_; clear hF hA; intro b1 w1 hA hb1; (try simp only [uA] at hA); have hF := hA.facts; (try simp only [fZ] at hF)))
                  try go_frame
                  have hB := hA.drew
                  clear hF hA; have hA := hB; clear hB
                  refine wp_region_held (S := fun w' => BlockIs w' b5 [.int .i64 f.f0, .int .i64 f.f1, .int .i64 f.f2, .int .i64 f.f3, .int .i64 f.f4, .int .i64 f.f5, .int .i64 f.f6] 24) hm ?_
                  change wpAnyH _ _ _ _ _ 10 _ _ (World.drew _)
                  generalize World.drew _ = wd at *
                  have hS0 := (hA.get (A := Part.cells b5 [.int .i64 f.f0, .int .i64 f.f1, .int .i64 f.f2, .int .i64 f.f3, .int .i64 f.f4, .int .i64 f.f5, .int .i64 f.f6] 24) (by repeat (first | exact Sel.here | apply Sel.there)) : (fun w' => BlockIs w' b5 [.int .i64 f.f0, .int .i64 f.f1, .int .i64 f.f2, .int .i64 f.f3, .int .i64 f.f4, .int .i64 f.f5, .int .i64 f.f6] 24) wd)
                  refine tP 0 132 (.pointer (some ⟨p, 0, none⟩)) (s := hS0) (h := ?_)
                  try go_frame
                  refine tZ 1 133 (.agg #[.int .i64 f.f0, .int .i64 f.f1, .int .i64 f.f2, .int .i64 f.f3, .int .i64 f.f4, .int .i64 f.f5, .int .i64 f.f6]) (r := (fun w' hS => run_load_row (ty := 24) (n := 7) (b := b5) (j := 0) rfl (by exact rfl) hS (by kernel_rfl) (by kernel_rfl) rfl rfl)) (s := hS0) (h := ?_)
                  try go_frame
                  refine tP 2 134 (.slice as_ sm.length caps) (s := hS0) (h := ?_)
                  try go_frame
                  refine tP 4 136 (.slice axc ch.length capc) (s := hS0) (h := ?_)
                  try go_frame
                  refine tZ 6 138 (.agg #[.int .i64 f.f0, .int .i64 f.f1, .int .i64 f.f2, .int .i64 f.f3, .int .i64 f.f4, .int .i64 f.f5, .int .i64 f.f6]) (r := (fun w' hS => run_load_row (ty := 24) (n := 7) (b := b5) (j := 0) rfl (by exact rfl) hS (by kernel_rfl) (by kernel_rfl) rfl rfl)) (s := hS0) (h := ?_)
                  try go_frame
                  refine wpAnyH_one (i := 3) (by kernel_rfl) ?_
                  refine opCall_at (i := 3) (d := some 135) (R := fun u w' => At [Part.old w, GrP p m es] wd [rowI2 u (ordG es f (lstG es sm)), Part.old w, GrP p m es] w') rfl rfl (by kernel_rfl) (fn := 22) (args := #[.pointer (some ⟨p, 0, none⟩), .agg #[.int .i64 f.f0, .int .i64 f.f1, .int .i64 f.f2, .int .i64 f.f3, .int .i64 f.f4, .int .i64 f.f5, .int .i64 f.f6], .slice as_ sm.length caps]) (by simp [execOp, go_sem, Act.eval, Act.put]) ((hord wd (hA.sep2 (A := Part.old w) (B := GrP p m es) (by repeat (first | exact Sel.here | apply Sel.there)) (by repeat (first | exact Sel.here | apply Sel.there)))).mono fun e w' ⟨v, he, hT⟩ => ⟨v, he, hT⟩) ?_
                  intro vo w3 hT
                  have hB := hA.call2 (A := Part.old w) (B := GrP p m es) (by repeat (first | exact Sel.here | apply Sel.there)) (by repeat (first | exact Sel.here | apply Sel.there)) hT
                  clear hT
                  simp only [List.cons_append, List.nil_append] at hB
                  have hS0 := (hB.get (A := Part.cells b5 [.int .i64 f.f0, .int .i64 f.f1, .int .i64 f.f2, .int .i64 f.f3, .int .i64 f.f4, .int .i64 f.f5, .int .i64 f.f6] 24) (by repeat (first | exact Sel.here | apply Sel.there)) : (fun w' => BlockIs w' b5 [.int .i64 f.f0, .int .i64 f.f1, .int .i64 f.f2, .int .i64 f.f3, .int .i64 f.f4, .int .i64 f.f5, .int .i64 f.f6] 24) w3)
                  clear hA; have hA := hB; clear hB
                  refine ⟨hS0, ?_⟩
                  try go_frame
                  refine wpAnyH_one (i := 5) (by kernel_rfl) ?_
                  refine opCall_at (i := 5) (d := some 137) (R := fun u w' => At [rowD (.slice axc ch.length capc) ch] w3 [rowD u sd, rowD (.slice axc ch.length capc) ch] w') rfl rfl (by kernel_rfl) (fn := 24) (args := #[.slice axc ch.length capc]) (by simp [execOp, go_sem, Act.eval, Act.put]) ((hsrt w3 (hA.sep1 (A := rowD (.slice axc ch.length capc) ch) (by repeat (first | exact Sel.here | apply Sel.there)))).mono fun e w' ⟨v, he, hT⟩ => ⟨v, he, by rw [hsd] at hT; exact hT⟩) ?_
                  intro vs w4 hT
                  have hB := hA.call1 (A := rowD (.slice axc ch.length capc) ch) (by repeat (first | exact Sel.here | apply Sel.there)) hT
                  clear hT
                  simp only [List.cons_append, List.nil_append] at hB
                  have hS0 := (hB.get (A := Part.cells b5 [.int .i64 f.f0, .int .i64 f.f1, .int .i64 f.f2, .int .i64 f.f3, .int .i64 f.f4, .int .i64 f.f5, .int .i64 f.f6] 24) (by repeat (first | exact Sel.here | apply Sel.there)) : (fun w' => BlockIs w' b5 [.int .i64 f.f0, .int .i64 f.f1, .int .i64 f.f2, .int .i64 f.f3, .int .i64 f.f4, .int .i64 f.f5, .int .i64 f.f6] 24) w4)
                  clear hA; have hA := hB; clear hB
                  refine ⟨hS0, ?_⟩
                  try go_frame
                  refine wpAnyH_one (i := 7) (by kernel_rfl) ?_
                  refine opCall_at (i := 7) (d := some 139) (R := fun u w' => At [rowD vs sd] w4 [rowD u ((Tar.ordR (nxL sd f (sd.map Prod.fst)) sd.length (sqX sd)).map (xat sd)), rowD vs sd] w') rfl rfl (by kernel_rfl) (fn := 23) (args := #[vs, .agg #[.int .i64 f.f0, .int .i64 f.f1, .int .i64 f.f2, .int .i64 f.f3, .int .i64 f.f4, .int .i64 f.f5, .int .i64 f.f6]]) (by simp [execOp, go_sem, Act.eval, Act.put]) ((hdo w4 vs (hA.sep1 (A := rowD vs sd) (by repeat (first | exact Sel.here | apply Sel.there)))).mono fun e w' ⟨v, he, hT⟩ => ⟨v, he, hT⟩) ?_
                  intro vd w5 hT
                  have hB := hA.call1 (A := rowD vs sd) (by repeat (first | exact Sel.here | apply Sel.there)) hT
                  clear hT
                  simp only [List.cons_append, List.nil_append] at hB
                  generalize (Tar.ordR (nxL sd f (sd.map Prod.fst)) sd.length (sqX sd)).map (xat sd) = QQ at *
                  have hS0 := (hB.get (A := Part.cells b5 [.int .i64 f.f0, .int .i64 f.f1, .int .i64 f.f2, .int .i64 f.f3, .int .i64 f.f4, .int .i64 f.f5, .int .i64 f.f6] 24) (by repeat (first | exact Sel.here | apply Sel.there)) : (fun w' => BlockIs w' b5 [.int .i64 f.f0, .int .i64 f.f1, .int .i64 f.f2, .int .i64 f.f3, .int .i64 f.f4, .int .i64 f.f5, .int .i64 f.f6] 24) w5)
                  clear hA; have hA := hB; clear hB
                  refine ⟨hS0, ?_⟩
                  try go_frame
                  refine wpAnyH_one (i := 8) (by kernel_rfl) ?_
                  have hsm : Calls Try.prog 14 #[vo, vd] w5 (SmPost w5 vo vd (ordG es f (lstG es sm)) QQ) := same_any (hA.sep2 (A := rowI2 vo (ordG es f (lstG es sm))) (B := rowD vd QQ) (by repeat (first | exact Sel.here | apply Sel.there)) (by repeat (first | exact Sel.here | apply Sel.there))) hol.out
                  refine opCall_at (i := 8) (d := some 140) (R := fun u w' => u = .bool true ∧ At [rowI2 vo (ordG es f (lstG es sm)), rowD vd QQ] w5 [rowI2 vo (ordG es f (lstG es sm)), rowD vd QQ] w') rfl rfl (by kernel_rfl) (fn := 14) (args := #[vo, vd]) (by simp [execOp, go_sem, Act.eval, Act.put]) (hsm.mono fun e w' ⟨he, hT⟩ => ⟨_, he, by rw [decide_eq_true (show ordG es f (lstG es sm) = QQ.map Prod.fst from by rw [hon.out, hchn.out])], hT⟩) ?_
                  rintro u w6 ⟨rfl, hT⟩
                  have hB := hA.call2 (A := rowI2 vo (ordG es f (lstG es sm))) (B := rowD vd QQ) (by repeat (first | exact Sel.here | apply Sel.there)) (by repeat (first | exact Sel.here | apply Sel.there)) hT
                  clear hT hsm
                  simp only [List.cons_append, List.nil_append] at hB
                  have hS0 := (hB.get (A := Part.cells b5 [.int .i64 f.f0, .int .i64 f.f1, .int .i64 f.f2, .int .i64 f.f3, .int .i64 f.f4, .int .i64 f.f5, .int .i64 f.f6] 24) (by repeat (first | exact Sel.here | apply Sel.there)) : (fun w' => BlockIs w' b5 [.int .i64 f.f0, .int .i64 f.f1, .int .i64 f.f2, .int .i64 f.f3, .int .i64 f.f4, .int .i64 f.f5, .int .i64 f.f6] 24) w6)
                  clear hA; have hA := hB; clear hB
                  refine ⟨hS0, ?_⟩
                  try go_frame
                  refine tP 9 8 (.bool true) (s := hS0) (h := ?_)
                  try go_frame
                  refine wpAnyH_done (by kernel_rfl) ?_ _
                  try go_frame
                  clear hS0
                  (try simp only [uA] at hA); have hF := hA.facts; (try simp only [fZ] at hF)
                  go_wp2_with (first | ((with_reducible refine gst ?_); refine wS hA ?_; clear hF hA; intro w1 hA; (try simp only [uA] at hA); have hF := hA.facts; (try simp only [fZ] at hF)) | ((with_reducible refine gbx ?_); refine wB hA ?_; clear hF hA; intro b1 w1 hA hb1; (try simp only [uA] at hA); have hF := hA.facts; (try simp only [fZ] at hF)))
                  go_ret
                  exact ⟨rfl, below_old hA (by repeat (first | exact Sel.here | apply Sel.there))⟩
    · have hgt : ¬ (24 : Int) < l.length := by omega
      have hgs : (24 : Int) < sm.length := by omega
      go_wp2_with (first | ((with_reducible refine gst ?_); refine wS hA ?_; clear hF hA; intro w1 hA; (try simp only [uA] at hA); have hF := hA.facts; (try simp only [fZ] at hF)) | ((with_reducible refine gbx ?_); refine wB hA ?_; clear hF hA; intro b1 w1 hA hb1; (try simp only [uA] at hA); have hF := hA.facts; (try simp only [fZ] at hF)))
      go_ret
      exact ⟨rfl, below_old hA (by repeat (first | exact Sel.here | apply Sel.there))⟩
  · have hgt : (24 : Int) < l.length := by omega
    go_wp2_with (first | ((with_reducible refine gst ?_); refine wS hA ?_; clear hF hA; intro w1 hA; (try simp only [uA] at hA); have hF := hA.facts; (try simp only [fZ] at hF)) | ((with_reducible refine gbx ?_); refine wB hA ?_; clear hF hA; intro b1 w1 hA hb1; (try simp only [uA] at hA); have hF := hA.facts; (try simp only [fZ] at hF)))
    go_ret
    exact ⟨rfl, below_old hA (by repeat (first | exact Sel.here | apply Sel.there))⟩
end Go.Proofs.Ytgicohkmfbbbdaa.Gr
end
